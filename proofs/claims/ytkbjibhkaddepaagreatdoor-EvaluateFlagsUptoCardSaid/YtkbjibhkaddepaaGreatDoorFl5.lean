/- For every input within the given bound on its size EvaluateFlags returns true and leaves its arguments as they were. This is part 5 of 11. Conditions: those in the statements. -/
import Derived.Test.YtkbjibhkaddepaaGreatDoorFl4
import Derived.KernelRfl
import Derived.Lib.AppendIntMem
import Derived.Conc.MuLone
set_option maxRecDepth 100000
noncomputable section
namespace Go.Proofs.YtkbjibhkaddepaaGreatDoor
open Go Go.Proofs Go.RowKit Go.Fl
set_option maxHeartbeats 2000000 in
theorem q5l{σ:Hv}{w:World}(s_p:(List BA))(v1:Value){K:(List BA)->Prop}(hV:View σ w)(hr1:RSl 1 (REnc Qj) σ v1 s_p)(hP:Zt s_p K):
    Calls Tryz.prog 143 #[v1] w (fun e w1=> ∃(r1:(List BA)) (v2:Value),e= .returned v2/\St ⟨w,σ,[]⟩ w1 σ [vec v2 9 1 r1.length ((r1).flatMap Qj)]/\Sml r1.length/\K r1):=by
 unfold Zt at hP;obtain⟨a1,cap1,rfl⟩:=hr1.shape;refine enter Tryz.func143 rfl rfl rfl ?_;have hS:=St.start hV;refine Qy (Qz (v:=(.slice none 0 0)) rfl (wpList_nil (Qq (wp_seq (Qy (Zg (v:=(.slice a1 s_p.length cap1)) rfl ?_))))))
 replace hP:=hP a1.isNone (RSl.isNil hr1)
 obtain⟨r1_,hn1⟩: ∃r:Bool,a1.isNone=r:=⟨_,rfl⟩;rw[hn1] at hP;refine y8r Tryz.underlying70 rfl hn1 (wpList_nil (Qq ?_));refine if_b rfl (fun ht1=> ?_) (fun ht1=> ?_)
 .
  replace hP:=hP.1 ht1
  refine Qy (Qz (v:=(.slice none 0 0)) rfl (wpList_nil (Qq (wp_ret (q0l (ret1 rfl (show ev _ _ _=(.slice none 0 0) from rfl) ?_))))));have hS1:=hS.addNil 9 1;exact⟨[],(.slice none 0 0),rfl,(St.back hS1 (Sub.refl _)),(by simp[Sml]),hP⟩
 .
  replace hP:=hP.2 (by first|(rw[ht1];exact Bool.false_ne_true)|simp[ht1])
  refine wp_skip (Qq (Qy (w1v (cs:=[]) (e:=9) hS (fun _=>by kernel_rfl) ?_)));intro b1 w1 hS2;refine Zg (v:=(.slice a1 s_p.length cap1)) rfl ?_;have hS3:=hS2.asVec (i:=0) (ms':=[vec (.slice (some ⟨b1,0,none⟩) 0 0) 9 1 0 []]) (size:=1) rfl rfl (by unfold maxLen;omega) rfl;obtain⟨hsm1,hP⟩:=hP;refine u54 (enc:=Qj) (l:=s_p) (Ms:=fun v3=>[vec v3 9 1 s_p.length ((s_p).flatMap Qj)]) (k':=s_p.length) (xs':=(s_p).flatMap Qj) Tryz.underlying70 Tryz.type9 rfl rfl (bytes:=16) rfl rfl (Nat.succ_pos _) hS3 rfl (q:=0) rfl rfl hr1 hS3.view q6x y32 hsm1 (by omega) (by first|rfl|exact List.length_append.symm|simp) (List.nil_append _) (fun _=>rfl) ?_;intro v3 w2 ho1 hS4;refine Qz (v:=v3) rfl (wpList_nil (Qq (wp_ret (ret1 rfl (show ev _ _ _=v3 from rfl) ?_))));exact⟨s_p,v3,rfl,(St.back hS4 (Sub.refl _)),hsm1,hP⟩
set_option maxHeartbeats 2000000 in
theorem q5m{σ:Hv}{w:World}(s_p:(List BA))(v_p:BA)(v1:Value){K:Int->Prop}(hV:View σ w)(hr1:RSl 1 (REnc Qj) σ v1 s_p)(hP:Zu s_p v_p K):
    Calls Tryz.prog 79 #[v1,(.string v_p)] w (fun e w1=> ∃(r1:Int),e= .returned (.int .i64 r1)/\Grow [] σ w σ w1/\K r1):=by
 unfold Zu at hP;obtain⟨a1,cap1,rfl⟩:=hr1.shape;refine enter Tryz.func79 rfl rfl rfl ?_;have hS:=St.start hV;refine Qy (Qz (v:=(.int .i64 (0:Int))) rfl (wpList_nil (Qq (wp_seq (Qy (Zg (v:=(.slice a1 s_p.length cap1)) rfl (z5f rfl Tryz.underlying70 ?_)))))));have hlen1:=RSl.len63 hr1
 replace hP:=hP hlen1
 refine Zg (v:=(.int .i64 (0:Int))) rfl (wpList_nil (Qq (wp_block ?_)));refine w9d (fun k_2 f z=> ∃(σ1:Hv) (g:Fr),f=(upd (upd (upd (upd g 0 (.slice a1 s_p.length cap1)) 1 (.string v_p)) 7 (.int .i64 ((s_p.length:Nat):Int))) 8 (.int .i64 ((k_2:Nat):Int)))/\St ⟨w,σ,[]⟩ z σ1 []/\Sub σ σ1) hP ⟨σ,_,(Jd rfl (Jd rfl (Jd rfl (Jd rfl rfl)))),hS,(Sub.refl _)⟩ ?_;clear hP;rintro k_2 Y1 hP f w1 ⟨σ1,g,rfl,hS1,hsub1⟩;refine Qy (y3s (r:=(decide (((k_2:Nat):Int)<((s_p.length:Nat):Int)))) rfl rfl rfl (wpList_nil (Qq (wp_seq ?_))));refine if_d (((k_2:Nat):Int)<((s_p.length:Nat):Int)) rfl (fun ht1=> ?_) (fun ht1=> ?_)
 .
  replace hP:=hP.1 ht1
  refine wp_skip (Qq (wp_seq (wp_block (Qy (Zg (v:=(.int .i64 ((k_2:Nat):Int))) rfl (Qz (v:=(.int .i64 ((k_2:Nat):Int))) rfl (wpList_nil (Qq (Qy (Zg (v:=(.string v_p)) rfl (Zg (v:=(.slice a1 s_p.length cap1)) rfl (Zg (v:=(.int .i64 ((k_2:Nat):Int))) rfl ?_))))))))))));obtain⟨x1_,hx1⟩:=getq (l:=s_p) (k:=k_2) (by have:=ht1;omega)
  replace hP:=hP x1_ hx1
  obtain⟨ad1,cs1,ha1,hl1,hr2,hR1,hlt1⟩:=RSl.at hr1 hx1;cases hR1;refine Bn (k:=k_2) (a':=(ad1.add (k_2*1))) (congrArg (fun z=>Value.slice z _ _) ha1) rfl rfl hlt1 Tryz.underlying70 Tryz.sizeOf9 rfl (q92 (v:=(.string x1_)) rfl Tryz.isAgg9 (hr2.cell (View.of hsub1 hS1.view) 0 rfl rfl) (u5v (r:=(decide (v_p=x1_))) rfl rfl rfl (wpList_nil (Qq ?_))));refine if_d (v_p=x1_) rfl (fun ht2=> ?_) (fun ht2=> ?_)
  .
   replace hP:=hP.1 ht2
   refine Qy (Zg (v:=(.int .i64 ((k_2:Nat):Int))) rfl (Qz (v:=(.int .i64 ((k_2:Nat):Int))) rfl (wpList_nil (Qq (wp_ret (w0r (q0l (q0l (w0r (q0l (ret1 rfl (show ev _ _ _=(.int .i64 ((k_2:Nat):Int)) from rfl) ?_)))))))))));exact⟨((k_2:Nat):Int),rfl,hS1.done.forget,hP⟩
  .
   replace hP:=hP.2 ht2
   refine wp_skip (y0p (Qq (j7p (y0o (r:=((k_2+1:Nat):Int)) rfl rfl (nw (by omega) (by omega) (by have:=hlen1;omega)) (Zg (v:=(.int .i64 ((k_2+1:Nat):Int))) rfl (wpList_nil (Qq ?_)))))));exact⟨k_2+1,_,rfl,hP,σ1,_,(Jd rfl (Jd rfl (Jd rfl (Jd rfl rfl)))),hS1,hsub1⟩
 .
  replace hP:=hP.2 ht1
  refine wp_exit (j2p (j2p (w3b (Qq (Qy (Qz (v:=(.int .i64 (-1:Int))) rfl (wpList_nil (Qq (wp_ret (ret1 rfl (show ev _ _ _=(.int .i64 (-1:Int)) from rfl) ?_))))))))));exact⟨(-1:Int),rfl,hS1.done.forget,hP⟩
set_option maxHeartbeats 2000000 in
theorem Uf{σ:Hv}{w:World}(s_p:(List BA))(v_p:BA)(v1:Value){K:Bool->Prop}(hV:View σ w)(hr1:RSl 1 (REnc Qj) σ v1 s_p)(hP:Q3 s_p v_p K):
    Calls Tryz.prog 45 #[v1,(.string v_p)] w (fun e w1=> ∃(r1:Bool),e= .returned (.bool (r1))/\Grow [] σ w σ w1/\K r1):=by
 unfold Q3 at hP;obtain⟨a1,cap1,rfl⟩:=hr1.shape;refine enter Tryz.func45 rfl rfl rfl ?_;have hS:=St.start hV;refine Qy (Qz (v:=(.bool false)) rfl (wpList_nil (Qq (Qy (Zg (v:=(.slice a1 s_p.length cap1)) rfl (Zg (v:=(.string v_p)) rfl ?_))))));obtain⟨Y1,hK1,hc1⟩:=hP;refine z1t (args:=[(.slice a1 s_p.length cap1),(.string v_p)]) rfl Tryz.call79 (Calls.mono (q5m s_p v_p (.slice a1 s_p.length cap1) hS.view hr1 hc1) ?_);rintro _ w1 ⟨r1_,rfl,hg1,hY1⟩;refine⟨_,rfl,?_⟩;have hS1:=hS.grow hg1
 replace hP:=hK1 r1_ hY1
 refine u5u (r:=(decide ((0:Int)<=r1_))) rfl rfl rfl (Qz (v:=(.bool (decide ((0:Int)<=r1_)))) rfl (wpList_nil (Qq (wp_ret (ret1 rfl (show ev _ _ _=(.bool (decide ((0:Int)<=r1_))) from rfl) ?_)))));exact⟨(decide ((0:Int)<=r1_)),rfl,hS1.done.forget,hP⟩
set_option maxHeartbeats 2000000 in
theorem w_graph_Order{σ:Hv}{w:World}(nodes_p:(List BA))(edges_p:(List (BA×BA)))(v1:Value)(v2:Value){K:(List BA)->Int->Prop}(hV:View σ w)(hr1:RSl 1 (REnc Qj) σ v1 nodes_p)(hr2:RSl 2 (REnc u55) σ v2 edges_p)(hP:P_graph_Order nodes_p edges_p K):
    Calls Tryz.prog 178 #[v1,v2] w (fun e w1=> ∃(r1:(List BA)) (r2:Int) (v3:Value),e= .returned (.tuple #[v3,(.int .i64 r2)])/\St ⟨w,σ,[]⟩ w1 σ [vec v3 9 1 r1.length ((r1).flatMap Qj)]/\Sml r1.length/\K r1 r2):=by
 unfold P_graph_Order at hP;obtain⟨a1,cap1,rfl⟩:=hr1.shape;obtain⟨a2,cap2,rfl⟩:=hr2.shape;refine enter Tryz.func178 rfl rfl rfl ?_;have hS:=St.start hV;refine Qy (Qz (v:=(.slice none 0 0)) rfl (Qz (v:=(.int .i64 (0:Int))) rfl (wpList_nil (Qq (Qy (Zg (v:=(.slice a1 nodes_p.length cap1)) rfl (z1t (args:=[(.slice a1 nodes_p.length cap1)]) rfl Tryz.call222 ?_)))))));refine enter Tryz.func222 rfl rfl rfl ?_;refine Qy (u73 (cs:=[(.slice a1 nodes_p.length cap1)]) hS rfl rfl ?_);intro b1 w1 hS1;refine Qz (v:= .nilFunc) rfl (wpList_nil (Qq (Qy (j7q (la:=[]) (lb:=[(.pointer (some ⟨b1,0,none⟩))]) rfl rfl (Qz (v:=(.func (.func 269) #[] #[(.pointer (some ⟨b1,0,none⟩))])) rfl (wpList_nil (Qq (wp_ret (ret1 rfl (show ev _ _ _=(.func (.func 269) #[] #[(.pointer (some ⟨b1,0,none⟩))]) from rfl) ?_)))))))));refine⟨_,rfl,?_⟩;refine z1t (args:=[(.func (.func 269) #[] #[(.pointer (some ⟨b1,0,none⟩))])]) rfl Tryz.call221 ?_;refine enter Tryz.func221 rfl rfl rfl ?_;refine Qy (Qz (v:=(.slice none 0 0)) rfl (wpList_nil (Qq (Qy (Zg (v:=(.func (.func 269) #[] #[(.pointer (some ⟨b1,0,none⟩))])) rfl (z1t (args:=[(.func (.func 269) #[] #[(.pointer (some ⟨b1,0,none⟩))])]) rfl Tryz.call268 ?_))))));refine enter Tryz.func268 rfl rfl rfl ?_;refine Qy (Qz (v:=(.slice none 0 0)) rfl (wpList_nil (Qq (Qy (Zg (v:=(.func (.func 269) #[] #[(.pointer (some ⟨b1,0,none⟩))])) rfl ?_)))));obtain⟨σ1,hS2,hsub1,hfr1⟩:=hS1.freeze' (i:=0) rfl rfl;have hB1:σ1 b1=some (.cells #[(.slice a1 nodes_p.length cap1)] 70 (0,0)):=(hfr1 _ rfl).trans (hS1.get (i:=0) rfl);obtain⟨hsm1,hP⟩:=hP;refine z1t (args:=[(.slice none 0 0),(.func (.func 269) #[] #[(.pointer (some ⟨b1,0,none⟩))])]) rfl Tryz.call296 (Calls.mono (u8w b1 (.slice a1 nodes_p.length cap1) nodes_p hS2.view hB1 (RSl.menc hsub1 hr1) hsm1) ?_);rintro _ w2 ⟨v4,rfl,hg1,ho1⟩;refine⟨_,rfl,?_⟩;have hS3:=hS2.growAdd hg1 (o:=vec v4 9 1 nodes_p.length ((nodes_p).flatMap Qj)) ho1;refine Qz (v:=v4) rfl (wpList_nil (Qq (wp_ret (ret1 rfl (show ev _ _ _=v4 from rfl) ?_))));refine⟨_,rfl,?_⟩;refine Qz (v:=v4) rfl (wpList_nil (Qq (Qy (Zg (v:=v4) rfl ?_))));refine z1t (args:=[v4]) rfl Tryz.call137 (Calls.mono (v82 Tryz.slices_Sort_string Tryz.slices_Sort_string_none hS3.view (hS3.get (i:=0) rfl) rfl (fun b hb=>hS3.off _ (List.mem_of_getElem? (i:=0) rfl) b hb) (by have:=hsm1;unfold Sml at this;omega)) ?_);rintro _ w3 ⟨rfl,hg2,ho2⟩;refine⟨_,rfl,?_⟩;have hS4:=hS3.growV (i:=0) (o':=vec v4 9 1 nodes_p.length ((srt nodes_p).flatMap Qj)) rfl hg2 rfl ho2 (ms':=[vec v4 9 1 nodes_p.length ((srt nodes_p).flatMap Qj)]) rfl;have hS5:=hS4.re (ms':=[vec v4 9 1 ((srt nodes_p).length) ((srt nodes_p).flatMap Qj)]) (by simp only[Wd]);refine wpList_nil (Qq (Qy (Zg (v:=v4) rfl (Qz (v:=v4) rfl (wpList_nil (Qq (wp_ret (ret1 rfl (show ev _ _ _=v4 from rfl) ?_))))))));refine⟨_,rfl,?_⟩;refine Qz (v:=v4) rfl (wpList_nil (Qq (wp_seq (Qy (Zg (v:=v4) rfl ?_)))));obtain⟨σ2,hS6,hsub2,hr4⟩:=hS5.peek (i:=0) rfl q6x (show Sml (srt nodes_p).length by rw[Wd];exact hsm1);obtain⟨Y1,hK1,hc1⟩:=hP;refine z1t (args:=[v4]) rfl Tryz.call143 (Calls.mono (q5l (srt nodes_p) v4 hS6.view hr4 hc1) ?_);rintro _ w4 ⟨r1_,v5,rfl,hg3,hl1,hY1⟩;refine⟨_,rfl,?_⟩;have hS7:=St.callM (ins:=[]) (rest:=[vec v4 9 1 ((srt nodes_p).length) ((srt nodes_p).flatMap Qj)]) (ms':=[vec v5 9 1 r1_.length ((r1_).flatMap Qj),vec v4 9 1 ((srt nodes_p).length) ((srt nodes_p).flatMap Qj)]) hS5 (St.back hg3 hsub2) rfl
 replace hP:=hK1 r1_ hY1
 obtain⟨hsm2,hP⟩:=hP;refine z1t (args:=[v5]) rfl Tryz.call220 (Calls.mono (w3f Tryz.slices_Compact_string Tryz.slices_Compact_string_empty hS7.view (hS7.get (i:=0) rfl) rfl (fun b hb=>hS7.off _ (List.mem_of_getElem? (i:=0) rfl) b hb) (by have:=hl1;unfold Sml at this;omega)) ?_);rintro _ w5 ⟨v6,rfl,hf1,hg4,ho3⟩;refine⟨_,rfl,?_⟩;have ho4:=q1x ho3;have hS8:=hS7.growV (i:=0) (o':=vec v6 9 1 ((cpt r1_).length) ((cpt r1_).flatMap Qj)) rfl hg4 hf1 ho3 (ms':=[vec v6 9 1 ((cpt r1_).length) ((cpt r1_).flatMap Qj),vec v4 9 1 ((srt nodes_p).length) ((srt nodes_p).flatMap Qj)]) rfl;refine j41 hS8 rfl (i:=0) rfl Tryz.underlying70 ?_;have hlen1:(cpt r1_).length<=9223372036854775807:=by have:=hsm2;unfold Sml at this;omega
 replace hP:=hP hlen1
 refine Zg (v:=v4) rfl (j41 hS8 rfl (i:=1) rfl Tryz.underlying70 ?_);have hlen2:(srt nodes_p).length<=9223372036854775807:=by have:=(show Sml (srt nodes_p).length by rw[Wd];exact hsm1);unfold Sml at this;omega
 replace hP:=hP hlen2
 refine u71 (r:=(!decide ((((cpt r1_).length:Nat):Int)=(((srt nodes_p).length:Nat):Int)))) rfl rfl rfl (wpList_nil (Qq ?_));refine u5w ((((cpt r1_).length:Nat):Int)=(((srt nodes_p).length:Nat):Int)) rfl (fun ht1=> ?_) (fun ht1=> ?_)
 .
  replace hP:=hP.2 ht1
  refine Qy (Qz (v:=(.slice none 0 0)) rfl (Qz (v:=(.int .i64 (10:Int))) rfl (wpList_nil (Qq (wp_ret (q0l (ret2 rfl (show ev _ _ _=(.slice none 0 0) from rfl) (show ev _ _ _=(.int .i64 (10:Int)) from rfl) ?_)))))));have hS9:=hS8.addNil 9 1;exact⟨[],(10:Int),(.slice none 0 0),rfl,(St.back (hS9.keep 1 (ms':=[vec (.slice none 0 0) 9 1 0 []]) rfl) (Sub.refl _)),(by simp[Sml]),hP⟩
 .
  replace hP:=hP.1 ht1
  refine wp_skip (Qq (Qy (y0u 9 1 Qj hS8 ?_)));intro b2 w6 hS10;refine v5w (cs:=[(.map none)]) hS10 Tryz.zeroValue313 rfl ?_;intro b3 w7 hS11;refine v5v (T:=313) (vs:=[(.map (some b2))]) (cs':=[(.map (some b2))]) (ms':=(blk b3 313 [(.map (some b2))]::smap b2 (asl [])::vec v6 9 1 ((cpt r1_).length) ((cpt r1_).flatMap Qj)::vec v4 9 1 ((srt nodes_p).length) ((srt nodes_p).flatMap Qj)::Ue 9 1 Qj [])) (i:=0) hS11 rfl rfl rfl Tryz.sizeOf313 rfl (ones rfl) rfl (Nat.le_of_ble_eq_true rfl) rfl rfl ?_;intro w8 hS12;refine wpList_nil (Qq (wp_seq (Qy (Zg (v:=(.slice a2 edges_p.length cap2)) rfl (z5f rfl Tryz.underlying177 ?_)))));have hlen3:=RSl.len63 hr2
  replace hP:=hP hlen3
  refine Zg (v:=(.int .i64 (0:Int))) rfl (wpList_nil (Qq (wp_block ?_)));have hS13:=hS12.front 3 rfl (ms':=(vec v4 9 1 ((srt nodes_p).length) ((srt nodes_p).flatMap Qj)::blk b3 313 [(.map (some b2))]::smap b2 (asl [])::vec v6 9 1 ((cpt r1_).length) ((cpt r1_).flatMap Qj)::Ue 9 1 Qj [])) rfl;have hS14:=hS13.front 3 rfl (ms':=(vec v6 9 1 ((cpt r1_).length) ((cpt r1_).flatMap Qj)::vec v4 9 1 ((srt nodes_p).length) ((srt nodes_p).flatMap Qj)::blk b3 313 [(.map (some b2))]::smap b2 (asl [])::Ue 9 1 Qj [])) rfl;have hS15:=hS14.front 2 rfl (ms':=(blk b3 313 [(.map (some b2))]::vec v6 9 1 ((cpt r1_).length) ((cpt r1_).flatMap Qj)::vec v4 9 1 ((srt nodes_p).length) ((srt nodes_p).flatMap Qj)::smap b2 (asl [])::Ue 9 1 Qj [])) rfl;have hS16:=hS15.front 3 rfl (ms':=(smap b2 (asl [])::blk b3 313 [(.map (some b2))]::vec v6 9 1 ((cpt r1_).length) ((cpt r1_).flatMap Qj)::vec v4 9 1 ((srt nodes_p).length) ((srt nodes_p).flatMap Qj)::Ue 9 1 Qj [])) rfl;refine y8o (fun k_3 F_2 f z=> ∃(es2:EL BA) (σ3:Hv) (g:Fr),f=(upd (upd (upd (upd (upd g 6 v4) 7 (.pointer (some ⟨b3,0,none⟩))) 24 (.slice a2 edges_p.length cap2)) 25 (.int .i64 ((edges_p.length:Nat):Int))) 26 (.int .i64 ((k_3:Nat):Int)))/\St ⟨w,σ,[]⟩ z σ3 (smap b2 (asl es2)::blk b3 313 [(.map (some b2))]::vec v6 9 1 ((cpt r1_).length) ((cpt r1_).flatMap Qj)::vec v4 9 1 ((srt nodes_p).length) ((srt nodes_p).flatMap Qj)::Ue 9 1 Qj es2)/\Sub σ1 σ3/\ELF es2 F_2) hP ⟨[],σ1,_,(Jd rfl (Jd rfl (Jd rfl (Jd rfl (Jd rfl rfl))))),hS16,(Sub.refl _),ELF.nil⟩ ?_;clear hP;rintro k_3 F_2 Y2 hP f w9 ⟨es2,σ3,g,rfl,hS17,hsub3,hF2⟩;refine Qy (y3s (r:=(decide (((k_3:Nat):Int)<((edges_p.length:Nat):Int)))) rfl rfl rfl (wpList_nil (Qq (wp_seq ?_))));refine if_d (((k_3:Nat):Int)<((edges_p.length:Nat):Int)) rfl (fun ht2=> ?_) (fun ht2=> ?_)
  .
   replace hP:=hP.1 ht2
   refine wp_skip (Qq (wp_seq (wp_block (Qy ?_))));obtain⟨x1_,hx1⟩:=getq (l:=edges_p) (k:=k_3) (by have:=ht2;omega)
   replace hP:=hP x1_ hx1
   obtain⟨ad1,cs1,ha1,hl2,hr6,hR1,hlt1⟩:=RSl.at hr2 hx1;cases hR1;refine Bn (k:=k_3) (a':=(ad1.add (k_3*2))) (congrArg (fun z=>Value.slice z _ _) ha1) rfl rfl hlt1 Tryz.underlying177 Tryz.sizeOf238 rfl (u17 (cs:=[(.string x1_.1),(.string x1_.2)]) rfl Tryz.isAgg238 Tryz.sizeOf238 rfl (hr6.row (View.of (Sub.trans hsub1 hsub3) hS17.view)) (v5w (cs:=[(.string (⟨#[]⟩:BA)),(.string (⟨#[]⟩:BA))]) hS17 Tryz.zeroValue238 rfl ?_));intro b4 w10 hS18;refine v5v (T:=238) (vs:=[(.string x1_.1),(.string x1_.2)]) (cs':=[(.string x1_.1),(.string x1_.2)]) (ms':=(blk b4 238 [(.string x1_.1),(.string x1_.2)]::smap b2 (asl es2)::blk b3 313 [(.map (some b2))]::vec v6 9 1 ((cpt r1_).length) ((cpt r1_).flatMap Qj)::vec v4 9 1 ((srt nodes_p).length) ((srt nodes_p).flatMap Qj)::Ue 9 1 Qj es2)) (i:=0) hS18 rfl rfl rfl Tryz.sizeOf238 rfl (ones rfl) rfl (Nat.le_of_ble_eq_true rfl) rfl rfl ?_;intro w11 hS19;refine wpList_nil (Qq (wp_seq (Qy (Zg (v:=v4) rfl (w29 (a':=⟨b4,0,none⟩) rfl Tryz.underlying238 rfl Tryz.sizeOf9 rfl (q92 (v:=(.string x1_.1)) rfl Tryz.isAgg9 (hS19.cell (i:=0) rfl rfl) ?_))))));obtain⟨σ4,hS20,hsub4,hr7⟩:=hS19.peek (i:=4) rfl q6x (show Sml (srt nodes_p).length by rw[Wd];exact hsm1);obtain⟨Y3,hK2,hc2⟩:=hP;refine z1t (args:=[v4,(.string x1_.1)]) rfl Tryz.call45 (Calls.mono (Uf (srt nodes_p) x1_.1 v4 hS20.view hr7 hc2) ?_);rintro _ w12 ⟨r2_,rfl,hg5,hY2⟩;refine⟨_,rfl,?_⟩;have hg5b:=hg5.back hsub4;have hS21:=hS19.grow hg5b
   replace hP:=hK2 r2_ hY2
   refine y8h (r:=(!r2_)) rfl rfl ?_;rcases Bool.eq_false_or_eq_true (r2_) with hb1|hb1
   .
    replace hP:=hP.1 hb1
    refine Zg (v:=(.bool false)) (congrArg Value.bool (congrArg Bool.not hb1)) (o_on rfl rfl (Zg (v:=v4) rfl (o_on rfl rfl (w29 (a':=⟨b4,1,none⟩) rfl Tryz.underlying238 rfl Tryz.sizeOf9 rfl (o_on rfl rfl (q92 (v:=(.string x1_.2)) rfl Tryz.isAgg9 (hS21.cell (i:=0) rfl rfl) (o_on rfl rfl ?_)))))));obtain⟨σ5,hS22,hsub5,hr8⟩:=hS21.peek (i:=4) rfl q6x (show Sml (srt nodes_p).length by rw[Wd];exact hsm1);obtain⟨Y4,hK3,hc3⟩:=hP;refine z1t (args:=[v4,(.string x1_.2)]) rfl Tryz.call45 (Calls.mono (Uf (srt nodes_p) x1_.2 v4 hS22.view hr8 hc3) ?_);rintro _ w13 ⟨r3_,rfl,hg6,hY3⟩;refine⟨_,rfl,?_⟩;have hg6b:=hg6.back hsub5;have hS23:=hS21.grow hg6b
    replace hP:=hK3 r3_ hY3
    refine o_on rfl rfl (y8h (r:=(!r3_)) rfl rfl (y8f (v:=(.bool (!r3_))) rfl rfl (wpList_nil (Qq ?_))));refine u5x rfl (fun ht3=> ?_) (fun ht3=> ?_)
    .
     replace hP:=hP.2 (by first|(rw[ht3];exact Bool.false_ne_true)|simp[ht3])
     refine Qy (Qz (v:=(.slice none 0 0)) rfl (Qz (v:=(.int .i64 (11:Int))) rfl (wpList_nil (Qq (wp_ret (q0l (w0r (q0l (q0l (w0r (q0l (ret2 rfl (show ev _ _ _=(.slice none 0 0) from rfl) (show ev _ _ _=(.int .i64 (11:Int)) from rfl) ?_))))))))))));have hS24:=hS23.addNil 9 1;exact⟨[],(11:Int),(.slice none 0 0),rfl,(St.back (hS24.keep 1 (ms':=[vec (.slice none 0 0) 9 1 0 []]) rfl) (Sub.refl _)),(by simp[Sml]),hP⟩
    .
     replace hP:=hP.1 ht3
     refine wp_skip (Qq (dr (fun z=>St ⟨w,σ,[]⟩ z σ3 [blk b4 238 [(.string x1_.1),(.string x1_.2)],blk b3 313 [(.map (some b2))],vec v6 9 1 ((cpt r1_).length) ((cpt r1_).flatMap Qj),vec v4 9 1 ((srt nodes_p).length) ((srt nodes_p).flatMap Qj)]) (by kernel_rfl) rfl ?_));have hS25:=hS23.drew;refine dt 0 1 (v:=(.map (some b2))) (by kernel_rfl) rfl rfl (fun _ _ _ h=>h) (hS25.sublist (.cons_cons _ (.cons _ (.cons_cons _ (.cons_cons _ (.cons_cons _ (List.nil_sublist _))))))) (fun _ hJ _ hK=>q92 (v:=(.map (some b2))) rfl Tryz.isAgg313 (hJ.cell (i:=1) rfl rfl) ⟨rfl,hK⟩) (dt 1 3 (v:=(.pointer (some ⟨b4,0,none⟩))) (by kernel_rfl) rfl rfl (fun _ _ _ h=>h) (hS25.sublist (.cons_cons _ (.cons _ (.cons_cons _ (.cons_cons _ (.cons_cons _ (List.nil_sublist _))))))) (fun _ _ _ hK=>w29 (a':=⟨b4,0,none⟩) rfl Tryz.underlying238 rfl Tryz.sizeOf9 rfl ⟨rfl,hK⟩) (dt 2 7 (v:=(.string x1_.1)) (by kernel_rfl) rfl rfl (fun _ _ _ h=>h) (hS25.sublist (.cons_cons _ (.cons _ (.cons_cons _ (.cons_cons _ (.cons_cons _ (List.nil_sublist _))))))) (fun _ hJ _ hK=>q92 (v:=(.string x1_.1)) rfl Tryz.isAgg9 (hJ.cell (i:=0) rfl rfl) ⟨rfl,hK⟩) (dt 3 15 (v:=(.map (some b2))) (by kernel_rfl) rfl rfl (fun _ _ _ h=>h) (hS25.sublist (.cons_cons _ (.cons _ (.cons_cons _ (.cons_cons _ (.cons_cons _ (List.nil_sublist _))))))) (fun _ hJ _ hK=>q92 (v:=(.map (some b2))) rfl Tryz.isAgg313 (hJ.cell (i:=1) rfl rfl) ⟨rfl,hK⟩) (dt 4 31 (v:=(.pointer (some ⟨b4,0,none⟩))) (by kernel_rfl) rfl rfl (fun _ _ _ h=>h) (hS25.sublist (.cons_cons _ (.cons _ (.cons_cons _ (.cons_cons _ (.cons_cons _ (List.nil_sublist _))))))) (fun _ _ _ hK=>w29 (a':=⟨b4,0,none⟩) rfl Tryz.underlying238 rfl Tryz.sizeOf9 rfl ⟨rfl,hK⟩) (dt 5 63 (v:=(.string x1_.1)) (by kernel_rfl) rfl rfl (fun _ _ _ h=>h) (hS25.sublist (.cons_cons _ (.cons _ (.cons_cons _ (.cons_cons _ (.cons_cons _ (List.nil_sublist _))))))) (fun _ hJ _ hK=>q92 (v:=(.string x1_.1)) rfl Tryz.isAgg9 (hJ.cell (i:=0) rfl rfl) ⟨rfl,hK⟩) (dt 7 191 (v:=(.pointer (some ⟨b4,1,none⟩))) (by kernel_rfl) rfl rfl (fun _ _ _ h=>h) (hS25.sublist (.cons_cons _ (.cons _ (.cons_cons _ (.cons_cons _ (.cons_cons _ (List.nil_sublist _))))))) (fun _ _ _ hK=>w29 (a':=⟨b4,1,none⟩) rfl Tryz.underlying238 rfl Tryz.sizeOf9 rfl ⟨rfl,hK⟩) (dt 8 447 (v:=(.string x1_.2)) (by kernel_rfl) rfl rfl (fun _ _ _ h=>h) (hS25.sublist (.cons_cons _ (.cons _ (.cons_cons _ (.cons_cons _ (.cons_cons _ (List.nil_sublist _))))))) (fun _ hJ _ hK=>q92 (v:=(.string x1_.2)) rfl Tryz.isAgg9 (hJ.cell (i:=0) rfl rfl) ⟨rfl,hK⟩) ?_)))))));refine d2 6 9 511 959 (by kernel_rfl) rfl rfl rfl rfl ?_ ?_
     .
      obtain⟨v7,hv1⟩: ∃v,(asl es2 x1_.1).getD (.slice none 0 0)=v:=⟨_,rfl⟩;refine y31 (i:=1) (v:=v7) hS25 rfl rfl rfl Tryz.underlying313 Tryz.underlying9 Tryz.zeroValue70 hv1 (wpList_nil ?_);refine⟨rfl,(hS25.sublist (.cons_cons _ (.cons _ (.cons_cons _ (.cons_cons _ (.cons_cons _ (List.nil_sublist _))))))),?_⟩;refine d1 9 1023 (by kernel_rfl) rfl (w1v (cs:=[(.string x1_.2)]) (e:=9) hS25 (fun _=>by kernel_rfl) ?_);intro b5 w14 hS26;refine wpList_nil ?_;refine⟨rfl,(hS26.sublist (.cons _ (.cons_cons _ (.cons _ (.cons_cons _ (.cons_cons _ (.cons_cons _ (List.nil_sublist _)))))))),?_⟩;refine d1 10 2047 (by kernel_rfl) rfl ?_;obtain⟨es3,hS27,hL1,hl3⟩:=St.borrow (ms:=[blk b5 9 [(.string x1_.2)],blk b4 238 [(.string x1_.1),(.string x1_.2)],smap b2 (asl es2),blk b3 313 [(.map (some b2))],vec v6 9 1 ((cpt r1_).length) ((cpt r1_).flatMap Qj),vec v4 9 1 ((srt nodes_p).length) ((srt nodes_p).flatMap Qj)]) hS26 hF2 x1_.1 hv1;obtain⟨hsm3,hP⟩:=hP;refine u2f (Ms:=fun v8=>(vec v8 9 1 ((((F_2 x1_.1).getD [])++[x1_.2]).length) ((((F_2 x1_.1).getD [])++[x1_.2]).flatMap Qj)::blk b5 9 [(.string x1_.2)]::blk b4 238 [(.string x1_.1),(.string x1_.2)]::smap b2 (asl es2)::blk b3 313 [(.map (some b2))]::vec v6 9 1 ((cpt r1_).length) ((cpt r1_).flatMap Qj)::vec v4 9 1 ((srt nodes_p).length) ((srt nodes_p).flatMap Qj)::Ue 9 1 Qj es3)) (k':=(((F_2 x1_.1).getD [])++[x1_.2]).length) (xs':=(((F_2 x1_.1).getD [])++[x1_.2]).flatMap Qj) Tryz.underlying70 Tryz.type9 rfl rfl (bytes:=16) rfl rfl (Nat.succ_pos _) hS27 rfl (q:=0) rfl rfl rfl (z3b (hS27.get (i:=1) rfl)) (ones rfl) hsm3 (by omega) (by first|rfl|exact List.length_append.symm|simp) (by simp[Qj]) (fun _=>rfl) ?_;intro v8 w15 ho5 hS28;have hS29:=hS28.drop 1 (ms':=(vec v8 9 1 ((((F_2 x1_.1).getD [])++[x1_.2]).length) ((((F_2 x1_.1).getD [])++[x1_.2]).flatMap Qj)::blk b4 238 [(.string x1_.1),(.string x1_.2)]::smap b2 (asl es2)::blk b3 313 [(.map (some b2))]::vec v6 9 1 ((cpt r1_).length) ((cpt r1_).flatMap Qj)::vec v4 9 1 ((srt nodes_p).length) ((srt nodes_p).flatMap Qj)::Ue 9 1 Qj es3)) rfl;refine wpList_nil ?_;refine⟨rfl,(hS29.sublist (.cons _ (.cons_cons _ (.cons _ (.cons_cons _ (.cons_cons _ (.cons_cons _ (List.nil_sublist _)))))))),?_⟩;refine d1 11 4095 (by kernel_rfl) rfl (u2c (v:=v8) (i:=2) (ms':=(vec v8 9 1 ((((F_2 x1_.1).getD [])++[x1_.2]).length) ((((F_2 x1_.1).getD [])++[x1_.2]).flatMap Qj)::blk b4 238 [(.string x1_.1),(.string x1_.2)]::smap b2 (fun k'=>if k'=x1_.1 then some v8 else asl es2 k')::blk b3 313 [(.map (some b2))]::vec v6 9 1 ((cpt r1_).length) ((cpt r1_).flatMap Qj)::vec v4 9 1 ((srt nodes_p).length) ((srt nodes_p).flatMap Qj)::Ue 9 1 Qj es3)) hS29 rfl rfl rfl rfl Tryz.underlying313 Tryz.underlying9 rfl ?_);intro w16 hS30;have hS32:=St.giveback (ms:=[blk b4 238 [(.string x1_.1),(.string x1_.2)],smap b2 (fun k'=>if k'=x1_.1 then some v8 else asl es2 k'),blk b3 313 [(.map (some b2))],vec v6 9 1 ((cpt r1_).length) ((cpt r1_).flatMap Qj),vec v4 9 1 ((srt nodes_p).length) ((srt nodes_p).flatMap Qj)]) (ms':=[blk b4 238 [(.string x1_.1),(.string x1_.2)],smap b2 (asl ((x1_.1,v8,((F_2 x1_.1).getD [])++[x1_.2])::es3)),blk b3 313 [(.map (some b2))],vec v6 9 1 ((cpt r1_).length) ((cpt r1_).flatMap Qj),vec v4 9 1 ((srt nodes_p).length) ((srt nodes_p).flatMap Qj)]) (i:=1) hS30 hL1 rfl rfl;have hF3:=ELF.put (v:=v8) hF2 hL1 hsm3;refine wpList_nil ?_;refine⟨rfl,(hS32.sublist (.cons_cons _ (.cons _ (.cons_cons _ (.cons_cons _ (.cons_cons _ (List.nil_sublist _))))))),w1w (J':=fun z=>St ⟨w,σ,[]⟩ z σ3 (blk b4 238 [(.string x1_.1),(.string x1_.2)]::smap b2 (asl ((x1_.1,v8,((F_2 x1_.1).getD [])++[x1_.2])::es3))::blk b3 313 [(.map (some b2))]::vec v6 9 1 ((cpt r1_).length) ((cpt r1_).flatMap Qj)::vec v4 9 1 ((srt nodes_p).length) ((srt nodes_p).flatMap Qj)::Ue 9 1 Qj ((x1_.1,v8,((F_2 x1_.1).getD [])++[x1_.2])::es3))) (fun w h=>h.sublist (.cons_cons _ (.cons _ (.cons_cons _ (.cons_cons _ (.cons_cons _ (List.nil_sublist _))))))) _ _ _ _ ?_⟩;refine dz (by kernel_rfl) (y0p (Qq (j7p (y0o (r:=((k_3+1:Nat):Int)) rfl rfl (nw (by omega) (by omega) (by have:=hlen3;omega)) (Zg (v:=(.int .i64 ((k_3+1:Nat):Int))) rfl (wpList_nil (Qq ?_)))))));exact⟨k_3+1,(put F_2 x1_.1 (((F_2 x1_.1).getD [])++[x1_.2])),_,rfl,hP,((x1_.1,v8,((F_2 x1_.1).getD [])++[x1_.2])::es3),σ3,_,(Jd rfl (Jd rfl (Jd rfl (Jd rfl (Jd rfl rfl))))),(hS32.sublist (ms':=(smap b2 (asl ((x1_.1,v8,((F_2 x1_.1).getD [])++[x1_.2])::es3))::blk b3 313 [(.map (some b2))]::vec v6 9 1 ((cpt r1_).length) ((cpt r1_).flatMap Qj)::vec v4 9 1 ((srt nodes_p).length) ((srt nodes_p).flatMap Qj)::Ue 9 1 Qj ((x1_.1,v8,((F_2 x1_.1).getD [])++[x1_.2])::es3))) (.cons _ (List.Sublist.refl _))),hsub3,hF3⟩
     .
      refine w1v (cs:=[(.string x1_.2)]) (e:=9) hS25 (fun _=>by kernel_rfl) ?_;intro b5 w14 hS26;refine wpList_nil ?_;refine⟨rfl,(hS26.sublist (.cons _ (.cons_cons _ (.cons _ (.cons_cons _ (.cons_cons _ (.cons_cons _ (List.nil_sublist _)))))))),?_⟩;refine d1 6 1023 (by kernel_rfl) rfl ?_;obtain⟨v7,hv1⟩: ∃v,(asl es2 x1_.1).getD (.slice none 0 0)=v:=⟨_,rfl⟩;refine y31 (i:=2) (v:=v7) hS26 rfl rfl rfl Tryz.underlying313 Tryz.underlying9 Tryz.zeroValue70 hv1 (wpList_nil ?_);refine⟨rfl,(hS26.sublist (.cons _ (.cons_cons _ (.cons _ (.cons_cons _ (.cons_cons _ (.cons_cons _ (List.nil_sublist _)))))))),?_⟩;refine d1 10 2047 (by kernel_rfl) rfl ?_;obtain⟨es3,hS27,hL1,hl3⟩:=St.borrow (ms:=[blk b5 9 [(.string x1_.2)],blk b4 238 [(.string x1_.1),(.string x1_.2)],smap b2 (asl es2),blk b3 313 [(.map (some b2))],vec v6 9 1 ((cpt r1_).length) ((cpt r1_).flatMap Qj),vec v4 9 1 ((srt nodes_p).length) ((srt nodes_p).flatMap Qj)]) hS26 hF2 x1_.1 hv1;obtain⟨hsm3,hP⟩:=hP;refine u2f (Ms:=fun v8=>(vec v8 9 1 ((((F_2 x1_.1).getD [])++[x1_.2]).length) ((((F_2 x1_.1).getD [])++[x1_.2]).flatMap Qj)::blk b5 9 [(.string x1_.2)]::blk b4 238 [(.string x1_.1),(.string x1_.2)]::smap b2 (asl es2)::blk b3 313 [(.map (some b2))]::vec v6 9 1 ((cpt r1_).length) ((cpt r1_).flatMap Qj)::vec v4 9 1 ((srt nodes_p).length) ((srt nodes_p).flatMap Qj)::Ue 9 1 Qj es3)) (k':=(((F_2 x1_.1).getD [])++[x1_.2]).length) (xs':=(((F_2 x1_.1).getD [])++[x1_.2]).flatMap Qj) Tryz.underlying70 Tryz.type9 rfl rfl (bytes:=16) rfl rfl (Nat.succ_pos _) hS27 rfl (q:=0) rfl rfl rfl (z3b (hS27.get (i:=1) rfl)) (ones rfl) hsm3 (by omega) (by first|rfl|exact List.length_append.symm|simp) (by simp[Qj]) (fun _=>rfl) ?_;intro v8 w15 ho5 hS28;have hS29:=hS28.drop 1 (ms':=(vec v8 9 1 ((((F_2 x1_.1).getD [])++[x1_.2]).length) ((((F_2 x1_.1).getD [])++[x1_.2]).flatMap Qj)::blk b4 238 [(.string x1_.1),(.string x1_.2)]::smap b2 (asl es2)::blk b3 313 [(.map (some b2))]::vec v6 9 1 ((cpt r1_).length) ((cpt r1_).flatMap Qj)::vec v4 9 1 ((srt nodes_p).length) ((srt nodes_p).flatMap Qj)::Ue 9 1 Qj es3)) rfl;refine wpList_nil ?_;refine⟨rfl,(hS29.sublist (.cons _ (.cons_cons _ (.cons _ (.cons_cons _ (.cons_cons _ (.cons_cons _ (List.nil_sublist _)))))))),?_⟩;refine d1 11 4095 (by kernel_rfl) rfl (u2c (v:=v8) (i:=2) (ms':=(vec v8 9 1 ((((F_2 x1_.1).getD [])++[x1_.2]).length) ((((F_2 x1_.1).getD [])++[x1_.2]).flatMap Qj)::blk b4 238 [(.string x1_.1),(.string x1_.2)]::smap b2 (fun k'=>if k'=x1_.1 then some v8 else asl es2 k')::blk b3 313 [(.map (some b2))]::vec v6 9 1 ((cpt r1_).length) ((cpt r1_).flatMap Qj)::vec v4 9 1 ((srt nodes_p).length) ((srt nodes_p).flatMap Qj)::Ue 9 1 Qj es3)) hS29 rfl rfl rfl rfl Tryz.underlying313 Tryz.underlying9 rfl ?_);intro w16 hS30;have hS32:=St.giveback (ms:=[blk b4 238 [(.string x1_.1),(.string x1_.2)],smap b2 (fun k'=>if k'=x1_.1 then some v8 else asl es2 k'),blk b3 313 [(.map (some b2))],vec v6 9 1 ((cpt r1_).length) ((cpt r1_).flatMap Qj),vec v4 9 1 ((srt nodes_p).length) ((srt nodes_p).flatMap Qj)]) (ms':=[blk b4 238 [(.string x1_.1),(.string x1_.2)],smap b2 (asl ((x1_.1,v8,((F_2 x1_.1).getD [])++[x1_.2])::es3)),blk b3 313 [(.map (some b2))],vec v6 9 1 ((cpt r1_).length) ((cpt r1_).flatMap Qj),vec v4 9 1 ((srt nodes_p).length) ((srt nodes_p).flatMap Qj)]) (i:=1) hS30 hL1 rfl rfl;have hF3:=ELF.put (v:=v8) hF2 hL1 hsm3;refine wpList_nil ?_;refine⟨rfl,(hS32.sublist (.cons_cons _ (.cons _ (.cons_cons _ (.cons_cons _ (.cons_cons _ (List.nil_sublist _))))))),w1w (J':=fun z=>St ⟨w,σ,[]⟩ z σ3 (blk b4 238 [(.string x1_.1),(.string x1_.2)]::smap b2 (asl ((x1_.1,v8,((F_2 x1_.1).getD [])++[x1_.2])::es3))::blk b3 313 [(.map (some b2))]::vec v6 9 1 ((cpt r1_).length) ((cpt r1_).flatMap Qj)::vec v4 9 1 ((srt nodes_p).length) ((srt nodes_p).flatMap Qj)::Ue 9 1 Qj ((x1_.1,v8,((F_2 x1_.1).getD [])++[x1_.2])::es3))) (fun w h=>h.sublist (.cons_cons _ (.cons _ (.cons_cons _ (.cons_cons _ (.cons_cons _ (List.nil_sublist _))))))) _ _ _ _ ?_⟩;refine dz (by kernel_rfl) (y0p (Qq (j7p (y0o (r:=((k_3+1:Nat):Int)) rfl rfl (nw (by omega) (by omega) (by have:=hlen3;omega)) (Zg (v:=(.int .i64 ((k_3+1:Nat):Int))) rfl (wpList_nil (Qq ?_)))))));exact⟨k_3+1,(put F_2 x1_.1 (((F_2 x1_.1).getD [])++[x1_.2])),_,rfl,hP,((x1_.1,v8,((F_2 x1_.1).getD [])++[x1_.2])::es3),σ3,_,(Jd rfl (Jd rfl (Jd rfl (Jd rfl (Jd rfl rfl))))),(hS32.sublist (ms':=(smap b2 (asl ((x1_.1,v8,((F_2 x1_.1).getD [])++[x1_.2])::es3))::blk b3 313 [(.map (some b2))]::vec v6 9 1 ((cpt r1_).length) ((cpt r1_).flatMap Qj)::vec v4 9 1 ((srt nodes_p).length) ((srt nodes_p).flatMap Qj)::Ue 9 1 Qj ((x1_.1,v8,((F_2 x1_.1).getD [])++[x1_.2])::es3))) (.cons _ (List.Sublist.refl _))),hsub3,hF3⟩
   .
    replace hP:=hP.2 (by first|(rw[hb1];exact Bool.false_ne_true)|simp[hb1])
    refine Zg (v:=(.bool true)) (congrArg Value.bool (congrArg Bool.not hb1)) (y3r rfl rfl (y3r rfl rfl (y3r rfl rfl (y3r rfl rfl (y3r rfl rfl (y8e (v:=(.bool true)) rfl rfl (wpList_nil (Qq (if_t rfl (Qy (Qz (v:=(.slice none 0 0)) rfl (Qz (v:=(.int .i64 (11:Int))) rfl (wpList_nil (Qq (wp_ret (q0l (w0r (q0l (q0l (w0r (q0l (ret2 rfl (show ev _ _ _=(.slice none 0 0) from rfl) (show ev _ _ _=(.int .i64 (11:Int)) from rfl) ?_))))))))))))))))))))));have hS33:=hS21.addNil 9 1;exact⟨[],(11:Int),(.slice none 0 0),rfl,(St.back (hS33.keep 1 (ms':=[vec (.slice none 0 0) 9 1 0 []]) rfl) (Sub.refl _)),(by simp[Sml]),hP⟩
  .
   replace hP:=hP.2 ht2
   refine wp_exit (j2p (j2p (w3b (Qq (Qy (Qz (v:=(.slice none 0 0)) rfl (wpList_nil (Qq (Qy (u2d (fun y:Bool=>(Value.bool (y))) hS17 ?_))))))))));intro b6 w17 hS34;refine v5w (cs:=[(.map none)]) hS34 Tryz.zeroValue60 rfl ?_;intro b7 w18 hS35;refine v5v (T:=60) (vs:=[(.map (some b6))]) (cs':=[(.map (some b6))]) (ms':=(blk b7 60 [(.map (some b6))]::emap b6 (fun y:Bool=>(Value.bool (y))) (fun _=>none)::smap b2 (asl es2)::blk b3 313 [(.map (some b2))]::vec v6 9 1 ((cpt r1_).length) ((cpt r1_).flatMap Qj)::vec v4 9 1 ((srt nodes_p).length) ((srt nodes_p).flatMap Qj)::Ue 9 1 Qj es2)) (i:=0) hS35 rfl rfl rfl Tryz.sizeOf60 rfl (ones rfl) rfl (Nat.le_of_ble_eq_true rfl) rfl rfl ?_;intro w19 hS36;refine wpList_nil (Qq (wp_seq (wp_block ?_)));obtain⟨σ6,hS37,hsub6,hr9⟩:=St.freezeL (ms:=[blk b7 60 [(.map (some b6))],emap b6 (fun y:Bool=>(Value.bool (y))) (fun _=>none),smap b2 (asl es2),blk b3 313 [(.map (some b2))],vec v6 9 1 ((cpt r1_).length) ((cpt r1_).flatMap Qj),vec v4 9 1 ((srt nodes_p).length) ((srt nodes_p).flatMap Qj)]) (ms':=[blk b7 60 [(.map (some b6))],emap b6 (fun y:Bool=>(Value.bool (y))) (fun _=>none),blk b3 313 [(.map (some b2))],vec v6 9 1 ((cpt r1_).length) ((cpt r1_).flatMap Qj),vec v4 9 1 ((srt nodes_p).length) ((srt nodes_p).flatMap Qj)]) (i:=2) hS36 hF2 q6x rfl rfl;have hS38:=hS37.addNil 9 1;have hS39:=hS38.front 4 rfl (ms':=[vec v6 9 1 ((cpt r1_).length) ((cpt r1_).flatMap Qj),vec (.slice none 0 0) 9 1 0 [],blk b7 60 [(.map (some b6))],emap b6 (fun y:Bool=>(Value.bool (y))) (fun _=>none),blk b3 313 [(.map (some b2))],vec v4 9 1 ((srt nodes_p).length) ((srt nodes_p).flatMap Qj)]) rfl;have hS40:=hS39.front 4 rfl (ms':=[blk b3 313 [(.map (some b2))],vec v6 9 1 ((cpt r1_).length) ((cpt r1_).flatMap Qj),vec (.slice none 0 0) 9 1 0 [],blk b7 60 [(.map (some b6))],emap b6 (fun y:Bool=>(Value.bool (y))) (fun _=>none),vec v4 9 1 ((srt nodes_p).length) ((srt nodes_p).flatMap Qj)]) rfl;have hS41:=hS40.front 3 rfl (ms':=[blk b7 60 [(.map (some b6))],blk b3 313 [(.map (some b2))],vec v6 9 1 ((cpt r1_).length) ((cpt r1_).flatMap Qj),vec (.slice none 0 0) 9 1 0 [],emap b6 (fun y:Bool=>(Value.bool (y))) (fun _=>none),vec v4 9 1 ((srt nodes_p).length) ((srt nodes_p).flatMap Qj)]) rfl;have hS42:=hS41.front 4 rfl (ms':=[emap b6 (fun y:Bool=>(Value.bool (y))) (fun _=>none),blk b7 60 [(.map (some b6))],blk b3 313 [(.map (some b2))],vec v6 9 1 ((cpt r1_).length) ((cpt r1_).flatMap Qj),vec (.slice none 0 0) 9 1 0 [],vec v4 9 1 ((srt nodes_p).length) ((srt nodes_p).flatMap Qj)]) rfl;have hS43:=hS42.front 4 rfl (ms':=[vec (.slice none 0 0) 9 1 0 [],emap b6 (fun y:Bool=>(Value.bool (y))) (fun _=>none),blk b7 60 [(.map (some b6))],blk b3 313 [(.map (some b2))],vec v6 9 1 ((cpt r1_).length) ((cpt r1_).flatMap Qj),vec v4 9 1 ((srt nodes_p).length) ((srt nodes_p).flatMap Qj)]) rfl;have hS44:=hS43.front 5 rfl (ms':=[vec v4 9 1 ((srt nodes_p).length) ((srt nodes_p).flatMap Qj),vec (.slice none 0 0) 9 1 0 [],emap b6 (fun y:Bool=>(Value.bool (y))) (fun _=>none),blk b7 60 [(.map (some b6))],blk b3 313 [(.map (some b2))],vec v6 9 1 ((cpt r1_).length) ((cpt r1_).flatMap Qj)]) rfl;refine y8p (fun left_3 out_3 F_4 f z=> ∃(v13:Value) (v14:Value) (σ7:Hv) (g:Fr),f=(upd (upd (upd (upd g 6 v13) 7 (.pointer (some ⟨b3,0,none⟩))) 10 v14) 11 (.pointer (some ⟨b7,0,none⟩)))/\St ⟨w,σ,[]⟩ z σ7 [vec v13 9 1 left_3.length ((left_3).flatMap Qj),vec v14 9 1 out_3.length ((out_3).flatMap Qj),emap b6 (fun y:Bool=>(Value.bool (y))) F_4,blk b7 60 [(.map (some b6))],blk b3 313 [(.map (some b2))],vec v6 9 1 ((cpt r1_).length) ((cpt r1_).flatMap Qj)]/\Sub σ6 σ7/\v13.oneCell'=true/\Sml left_3.length/\v14.oneCell'=true/\Sml out_3.length) hP ⟨v4,(.slice none 0 0),σ6,_,(Jd rfl (Jd rfl (Jd rfl (Jd rfl rfl)))),hS44,(Sub.refl _),(q1x ho1.1),(show Sml (srt nodes_p).length by rw[Wd];exact hsm1),rfl,(by simp[Sml])⟩ ?_;clear hP;rintro left_3 out_3 F_4 Y5 hP f w20 ⟨v13,v14,σ7,g,rfl,hS45,hsub7,ho10,hl8,ho11,hl9⟩;refine wp_seq (Qy (Zg (v:=v13) rfl (j41 hS45 rfl (i:=0) rfl Tryz.underlying70 ?_)));have hlen4:left_3.length<=9223372036854775807:=by have:=hl8;unfold Sml at this;omega
   replace hP:=hP hlen4
   refine u72 (r:=(decide ((0:Int)<((left_3.length:Nat):Int)))) rfl rfl rfl (wpList_nil (Qq ?_));refine if_d ((0:Int)<((left_3.length:Nat):Int)) rfl (fun ht4=> ?_) (fun ht4=> ?_)
   .
    replace hP:=hP.1 ht4
    refine wp_skip (Qq (wp_block (Qy (Zg (v:=v13) rfl (j7q (la:=[]) (lb:=[(.pointer (some ⟨b3,0,none⟩)),(.pointer (some ⟨b7,0,none⟩))]) rfl rfl ?_)))));obtain⟨Y6,hK4,hP⟩:=hP;refine z1t (args:=[v13,(.func (.func 224) #[] #[(.pointer (some ⟨b3,0,none⟩)),(.pointer (some ⟨b7,0,none⟩))])]) rfl Tryz.call223 (Calls.mono (R:=fun e z=> ∃(r_1:Int) (σ8:Hv),e= .returned (.int .i64 r_1)/\Y6 r_1/\St ⟨w,σ,[]⟩ z σ8 [vec v13 9 1 left_3.length ((left_3).flatMap Qj),vec v14 9 1 out_3.length ((out_3).flatMap Qj),emap b6 (fun y:Bool=>(Value.bool (y))) F_4,blk b7 60 [(.map (some b6))],blk b3 313 [(.map (some b2))],vec v6 9 1 ((cpt r1_).length) ((cpt r1_).flatMap Qj)]/\Sub σ7 σ8) ?_ ?_)
    .
     refine enter Tryz.func223 rfl rfl rfl ?_;refine Qy (Qz (v:=(.int .i64 (0:Int))) rfl (wpList_nil (Qq (wp_seq (Qy (Zg (v:=v13) rfl (j41 hS45 rfl (i:=0) rfl Tryz.underlying70 (Zg (v:=(.int .i64 (0:Int))) rfl (wpList_nil (Qq (wp_block ?_)))))))))));refine w9d (fun k_5 f z=> ∃(σ9:Hv) (g:Fr),f=(upd (upd (upd (upd g 0 v13) 1 (.func (.func 224) #[] #[(.pointer (some ⟨b3,0,none⟩)),(.pointer (some ⟨b7,0,none⟩))])) 7 (.int .i64 ((left_3.length:Nat):Int))) 8 (.int .i64 ((k_5:Nat):Int)))/\St ⟨w,σ,[]⟩ z σ9 [vec v13 9 1 left_3.length ((left_3).flatMap Qj),vec v14 9 1 out_3.length ((out_3).flatMap Qj),emap b6 (fun y:Bool=>(Value.bool (y))) F_4,blk b7 60 [(.map (some b6))],blk b3 313 [(.map (some b2))],vec v6 9 1 ((cpt r1_).length) ((cpt r1_).flatMap Qj)]/\Sub σ7 σ9) hP ⟨σ7,_,(Jd rfl (Jd rfl (Jd rfl (Jd rfl rfl)))),hS45,(Sub.refl _)⟩ ?_;clear hP;rintro k_5 Y7 hP f w21 ⟨σ9,g,rfl,hS46,hsub9⟩;refine Qy (y3s (r:=(decide (((k_5:Nat):Int)<((left_3.length:Nat):Int)))) rfl rfl rfl (wpList_nil (Qq (wp_seq ?_))));refine if_d (((k_5:Nat):Int)<((left_3.length:Nat):Int)) rfl (fun ht5=> ?_) (fun ht5=> ?_)
     .
      replace hP:=hP.1 ht5
      refine wp_skip (Qq (wp_seq (wp_block (Qy (Zg (v:=(.int .i64 ((k_5:Nat):Int))) rfl (Qz (v:=(.int .i64 ((k_5:Nat):Int))) rfl (wpList_nil (Qq (Qy (Zg (v:=(.func (.func 224) #[] #[(.pointer (some ⟨b3,0,none⟩)),(.pointer (some ⟨b7,0,none⟩))])) rfl (Zg (v:=v13) rfl (Zg (v:=(.int .i64 ((k_5:Nat):Int))) rfl ?_))))))))))));obtain⟨x2_,hx2⟩:=getq (l:=left_3) (k:=k_5) (by have:=ht5;omega)
      replace hP:=hP x2_ hx2
      obtain⟨g1,cp1,hv2⟩:=w9e (hS46.get (i:=0) rfl) (Qh hx2);refine Bn (k:=k_5) (a':=⟨g1,k_5*1,none⟩) hv2 rfl rfl (Qh hx2) Tryz.underlying70 Tryz.sizeOf9 (by simp[Um]) (q92 (v:=(.string x2_)) rfl Tryz.isAgg9 (w3g q6x (j:=0) hv2 (hS46.get (i:=0) rfl) hx2 rfl) (y3v (args:=[(.string x2_),(.pointer (some ⟨b3,0,none⟩)),(.pointer (some ⟨b7,0,none⟩))]) rfl rfl Tryz.call224 ?_));refine enter Tryz.func224 rfl rfl rfl ?_;refine Qy (Qz (v:=(.bool false)) rfl (wpList_nil (Qq (Qy (q92 (v:=(.map (some b2))) rfl Tryz.isAgg313 (hS46.cell (i:=4) rfl rfl) (Zg (v:=(.string x2_)) rfl ?_))))));obtain⟨v15,hl10,hz1⟩:=RMp.at (z:= .slice none 0 0) (z0:=[]) RSl.nil hr9 x2_;obtain⟨a3,cap3,rfl⟩:=hz1.shape;refine u2g (v:=(.slice a3 ((F_2 x2_).getD []).length cap3)) hl10 (View.of (Sub.trans hsub7 hsub9) hS46.view) rfl rfl Tryz.underlying313 Tryz.underlying9 Tryz.zeroValue70 (j7q (la:=[]) (lb:=[(.pointer (some ⟨b7,0,none⟩))]) rfl rfl (z1t (args:=[(.slice a3 ((F_2 x2_).getD []).length cap3),(.func (.func 226) #[] #[(.pointer (some ⟨b7,0,none⟩))])]) rfl Tryz.call225 ?_));refine enter Tryz.func225 rfl rfl rfl ?_;refine Qy (Qz (v:=(.bool false)) rfl (wpList_nil (Qq (Qy (Zg (v:=(.slice a3 ((F_2 x2_).getD []).length cap3)) rfl (Zg (v:=(.func (.func 226) #[] #[(.pointer (some ⟨b7,0,none⟩))])) rfl ?_))))));obtain⟨Y8,hK5,hP⟩:=hP;refine z1t (args:=[(.slice a3 ((F_2 x2_).getD []).length cap3),(.func (.func 226) #[] #[(.pointer (some ⟨b7,0,none⟩))])]) rfl Tryz.call223 (Calls.mono (R:=fun e z=> ∃(r_2:Int) (σ10:Hv),e= .returned (.int .i64 r_2)/\Y8 r_2/\St ⟨w,σ,[]⟩ z σ10 [vec v13 9 1 left_3.length ((left_3).flatMap Qj),vec v14 9 1 out_3.length ((out_3).flatMap Qj),emap b6 (fun y:Bool=>(Value.bool (y))) F_4,blk b7 60 [(.map (some b6))],blk b3 313 [(.map (some b2))],vec v6 9 1 ((cpt r1_).length) ((cpt r1_).flatMap Qj)]/\Sub σ9 σ10) ?_ ?_)
      .
       refine enter Tryz.func223 rfl rfl rfl ?_;refine Qy (Qz (v:=(.int .i64 (0:Int))) rfl (wpList_nil (Qq (wp_seq (Qy (Zg (v:=(.slice a3 ((F_2 x2_).getD []).length cap3)) rfl (z5f rfl Tryz.underlying70 ?_)))))));have hlen6:=RSl.len63 hz1
       replace hP:=hP hlen6
       refine Zg (v:=(.int .i64 (0:Int))) rfl (wpList_nil (Qq (wp_block ?_)));refine w9d (fun k_7 f z=> ∃(σ11:Hv) (g:Fr),f=(upd (upd (upd (upd g 0 (.slice a3 ((F_2 x2_).getD []).length cap3)) 1 (.func (.func 226) #[] #[(.pointer (some ⟨b7,0,none⟩))])) 7 (.int .i64 ((((F_2 x2_).getD []).length:Nat):Int))) 8 (.int .i64 ((k_7:Nat):Int)))/\St ⟨w,σ,[]⟩ z σ11 [vec v13 9 1 left_3.length ((left_3).flatMap Qj),vec v14 9 1 out_3.length ((out_3).flatMap Qj),emap b6 (fun y:Bool=>(Value.bool (y))) F_4,blk b7 60 [(.map (some b6))],blk b3 313 [(.map (some b2))],vec v6 9 1 ((cpt r1_).length) ((cpt r1_).flatMap Qj)]/\Sub σ9 σ11) hP ⟨σ9,_,(Jd rfl (Jd rfl (Jd rfl (Jd rfl rfl)))),hS46,(Sub.refl _)⟩ ?_;clear hP;rintro k_7 Y9 hP f w22 ⟨σ11,g,rfl,hS47,hsub11⟩;refine Qy (y3s (r:=(decide (((k_7:Nat):Int)<((((F_2 x2_).getD []).length:Nat):Int)))) rfl rfl rfl (wpList_nil (Qq (wp_seq ?_))));refine if_d (((k_7:Nat):Int)<((((F_2 x2_).getD []).length:Nat):Int)) rfl (fun ht6=> ?_) (fun ht6=> ?_)
       .
        replace hP:=hP.1 ht6
        refine wp_skip (Qq (wp_seq (wp_block (Qy (Zg (v:=(.int .i64 ((k_7:Nat):Int))) rfl (Qz (v:=(.int .i64 ((k_7:Nat):Int))) rfl (wpList_nil (Qq (Qy (Zg (v:=(.func (.func 226) #[] #[(.pointer (some ⟨b7,0,none⟩))])) rfl (Zg (v:=(.slice a3 ((F_2 x2_).getD []).length cap3)) rfl (Zg (v:=(.int .i64 ((k_7:Nat):Int))) rfl ?_))))))))))));obtain⟨x3_,hx3⟩:=getq (l:=((F_2 x2_).getD [])) (k:=k_7) (by have:=ht6;omega)
        replace hP:=hP x3_ hx3
        obtain⟨ad2,cs2,ha2,hl11,hr10,hR2,hlt2⟩:=RSl.at hz1 hx3;cases hR2;refine Bn (k:=k_7) (a':=(ad2.add (k_7*1))) (congrArg (fun z=>Value.slice z _ _) ha2) rfl rfl hlt2 Tryz.underlying70 Tryz.sizeOf9 rfl (q92 (v:=(.string x3_)) rfl Tryz.isAgg9 (hr10.cell (View.of (Sub.trans (Sub.trans hsub7 hsub9) hsub11) hS47.view) 0 rfl rfl) (y3v (args:=[(.string x3_),(.pointer (some ⟨b7,0,none⟩))]) rfl rfl Tryz.call226 ?_));refine enter Tryz.func226 rfl rfl rfl ?_;refine Qy (Qz (v:=(.bool false)) rfl (wpList_nil (Qq (Qy (q92 (v:=(.map (some b6))) rfl Tryz.isAgg60 (hS47.cell (i:=3) rfl rfl) (Zg (v:=(.string x3_)) rfl (u2e (v:=(.bool (((F_4 x3_).getD false)))) (i:=2) hS47 rfl rfl rfl Tryz.underlying60 Tryz.underlying9 Tryz.zeroValue4 (y8q (fun y:Bool=>(Value.bool (y))) _ rfl) (y8h (r:=(!((F_4 x3_).getD false))) rfl rfl (Qz (v:=(.bool (!((F_4 x3_).getD false)))) rfl (wpList_nil (Qq (wp_ret (ret1 rfl (show ev _ _ _=(.bool (!((F_4 x3_).getD false))) from rfl) ?_)))))))))))));refine⟨_,rfl,?_⟩;refine wpList_nil (Qq ?_);refine u5x rfl (fun ht7=> ?_) (fun ht7=> ?_)
        .
         replace hP:=hP.2 (by first|(rw[ht7];exact Bool.false_ne_true)|simp[ht7])
         refine Qy (Zg (v:=(.int .i64 ((k_7:Nat):Int))) rfl (Qz (v:=(.int .i64 ((k_7:Nat):Int))) rfl (wpList_nil (Qq (wp_ret (w0r (q0l (q0l (w0r (q0l (ret1 rfl (show ev _ _ _=(.int .i64 ((k_7:Nat):Int)) from rfl) ?_)))))))))));exact⟨((k_7:Nat):Int),σ11,rfl,hP,hS47,hsub11⟩
        .
         replace hP:=hP.1 ht7
         refine wp_skip (y0p (Qq (j7p (y0o (r:=((k_7+1:Nat):Int)) rfl rfl (nw (by omega) (by omega) (by have:=hlen6;omega)) (Zg (v:=(.int .i64 ((k_7+1:Nat):Int))) rfl (wpList_nil (Qq ?_)))))));exact⟨k_7+1,_,rfl,hP,σ11,_,(Jd rfl (Jd rfl (Jd rfl (Jd rfl rfl)))),hS47,hsub11⟩
       .
        replace hP:=hP.2 ht6
        refine wp_exit (j2p (j2p (w3b (Qq (Qy (Qz (v:=(.int .i64 (-1:Int))) rfl (wpList_nil (Qq (wp_ret (ret1 rfl (show ev _ _ _=(.int .i64 (-1:Int)) from rfl) ?_))))))))));exact⟨(-1:Int),σ11,rfl,hP,hS47,hsub11⟩
      .
       rintro _ w23 ⟨r_2,σ10,rfl,hY4,hS48,hsub10⟩;refine⟨_,rfl,?_⟩
       replace hP:=hK5 r_2 hY4
       refine u5u (r:=(decide ((0:Int)<=r_2))) rfl rfl rfl (Qz (v:=(.bool (decide ((0:Int)<=r_2)))) rfl (wpList_nil (Qq (wp_ret (ret1 rfl (show ev _ _ _=(.bool (decide ((0:Int)<=r_2))) from rfl) ?_)))));refine⟨_,rfl,?_⟩;refine y8h (r:=(!decide ((0:Int)<=r_2))) rfl rfl (Qz (v:=(.bool (!decide ((0:Int)<=r_2)))) rfl (wpList_nil (Qq (wp_ret (ret1 rfl (show ev _ _ _=(.bool (!decide ((0:Int)<=r_2))) from rfl) ?_)))));refine⟨_,rfl,?_⟩;refine wpList_nil (Qq ?_);refine u5w ((0:Int)<=r_2) rfl (fun ht8=> ?_) (fun ht8=> ?_)
       .
        replace hP:=hP.2 ht8
        refine Qy (Zg (v:=(.int .i64 ((k_5:Nat):Int))) rfl (Qz (v:=(.int .i64 ((k_5:Nat):Int))) rfl (wpList_nil (Qq (wp_ret (w0r (q0l (q0l (w0r (q0l (ret1 rfl (show ev _ _ _=(.int .i64 ((k_5:Nat):Int)) from rfl) ?_)))))))))));exact⟨((k_5:Nat):Int),σ10,rfl,hP,hS48,(Sub.trans hsub9 hsub10)⟩
       .
        replace hP:=hP.1 ht8
        refine wp_skip (y0p (Qq (j7p (y0o (r:=((k_5+1:Nat):Int)) rfl rfl (nw (by omega) (by omega) (by have:=hlen4;omega)) (Zg (v:=(.int .i64 ((k_5+1:Nat):Int))) rfl (wpList_nil (Qq ?_)))))));exact⟨k_5+1,_,rfl,hP,σ10,_,(Jd rfl (Jd rfl (Jd rfl (Jd rfl rfl)))),hS48,(Sub.trans hsub9 hsub10)⟩
     .
      replace hP:=hP.2 ht5
      refine wp_exit (j2p (j2p (w3b (Qq (Qy (Qz (v:=(.int .i64 (-1:Int))) rfl (wpList_nil (Qq (wp_ret (ret1 rfl (show ev _ _ _=(.int .i64 (-1:Int)) from rfl) ?_))))))))));exact⟨(-1:Int),σ9,rfl,hP,hS46,hsub9⟩
    .
     rintro _ w24 ⟨r_1,σ8,rfl,hY5,hS49,hsub8⟩;refine⟨_,rfl,?_⟩
     replace hP:=hK4 r_1 hY5
     refine Qz (v:=(.int .i64 r_1)) rfl (wpList_nil (Qq (wp_seq (Qy (Zg (v:=(.int .i64 r_1)) rfl (y3s (r:=(decide (r_1<(0:Int)))) rfl rfl rfl (wpList_nil (Qq ?_))))))));refine if_d (r_1<(0:Int)) rfl (fun ht9=> ?_) (fun ht9=> ?_)
     .
      replace hP:=hP.1 ht9
      refine Qy (Qz (v:=(.slice none 0 0)) rfl (Qz (v:=(.int .i64 (12:Int))) rfl (wpList_nil (Qq (wp_ret (q0l (w0r (q0l (w0r (q0l (ret2 rfl (show ev _ _ _=(.slice none 0 0) from rfl) (show ev _ _ _=(.int .i64 (12:Int)) from rfl) ?_)))))))))));have hS50:=hS49.addNil 9 1;exact⟨[],(12:Int),(.slice none 0 0),rfl,(St.back (hS50.keep 1 (ms':=[vec (.slice none 0 0) 9 1 0 []]) rfl) (Sub.refl _)),(by simp[Sml]),hP⟩
     .
      replace hP:=hP.2 ht9
      refine wp_skip (Qq (Qy (Zg (v:=v14) rfl (Zg (v:=v13) rfl (Zg (v:=(.int .i64 r_1)) rfl ?_)))));obtain⟨j1_,hj1,hP⟩:=hP;obtain⟨x4_,hx4,hP⟩:=hP;obtain⟨g2,cp2,hv3⟩:=w9e (hS49.get (i:=0) rfl) (Qh hx4);refine Bn (k:=j1_) (a':=⟨g2,j1_*1,none⟩) hv3 rfl hj1 (Qh hx4) Tryz.underlying70 Tryz.sizeOf9 (by simp[Um]) (q92 (v:=(.string x4_)) rfl Tryz.isAgg9 (w3g q6x (j:=0) hv3 (hS49.get (i:=0) rfl) hx4 rfl) (w1v (cs:=[(.string x4_)]) (e:=9) hS49 (fun _=>by kernel_rfl) ?_));intro b8 w25 hS51;obtain⟨hsm4,hP⟩:=hP;refine u2f (Ms:=fun v16=>[blk b8 9 [(.string x4_)],vec v13 9 1 left_3.length ((left_3).flatMap Qj),vec v16 9 1 ((out_3++[x4_]).length) ((out_3++[x4_]).flatMap Qj),emap b6 (fun y:Bool=>(Value.bool (y))) F_4,blk b7 60 [(.map (some b6))],blk b3 313 [(.map (some b2))],vec v6 9 1 ((cpt r1_).length) ((cpt r1_).flatMap Qj)]) (k':=(out_3++[x4_]).length) (xs':=(out_3++[x4_]).flatMap Qj) Tryz.underlying70 Tryz.type9 rfl rfl (bytes:=16) rfl rfl (Nat.succ_pos _) hS51 rfl (q:=2) rfl rfl rfl (z3b (hS51.get (i:=0) rfl)) (ones rfl) hsm4 (by omega) (by first|rfl|exact List.length_append.symm|simp) (by simp[Qj]) (fun _=>rfl) ?_;intro v16 w26 ho12 hS52;have hS53:=hS52.drop 0 (ms':=[vec v13 9 1 left_3.length ((left_3).flatMap Qj),vec v16 9 1 ((out_3++[x4_]).length) ((out_3++[x4_]).flatMap Qj),emap b6 (fun y:Bool=>(Value.bool (y))) F_4,blk b7 60 [(.map (some b6))],blk b3 313 [(.map (some b2))],vec v6 9 1 ((cpt r1_).length) ((cpt r1_).flatMap Qj)]) rfl;refine Qz (v:=v16) rfl (wpList_nil (Qq (wp_seq (dr (fun z=>St ⟨w,σ,[]⟩ z σ8 [vec v13 9 1 left_3.length ((left_3).flatMap Qj),vec v16 9 1 ((out_3++[x4_]).length) ((out_3++[x4_]).flatMap Qj),blk b7 60 [(.map (some b6))],blk b3 313 [(.map (some b2))],vec v6 9 1 ((cpt r1_).length) ((cpt r1_).flatMap Qj)]) (by kernel_rfl) rfl ?_))));have hS54:=hS53.drew;refine dt 0 1 (v:=(.map (some b6))) (by kernel_rfl) rfl rfl (fun _ _ _ h=>h) (hS54.sublist (.cons_cons _ (.cons_cons _ (.cons _ (List.Sublist.refl _))))) (fun _ hJ _ hK=>q92 (v:=(.map (some b6))) rfl Tryz.isAgg60 (hJ.cell (i:=2) rfl rfl) ⟨rfl,hK⟩) (dt 1 3 (v:=v13) (by kernel_rfl) rfl rfl (fun _ _ _ h=>h) (hS54.sublist (.cons_cons _ (.cons_cons _ (.cons _ (List.Sublist.refl _))))) (fun _ _ _ hK=>Zg (v:=v13) rfl ⟨rfl,hK⟩) (dt 2 7 (v:=(.int .i64 r_1)) (by kernel_rfl) rfl rfl (fun _ _ _ h=>h) (hS54.sublist (.cons_cons _ (.cons_cons _ (.cons _ (List.Sublist.refl _))))) (fun _ _ _ hK=>Zg (v:=(.int .i64 r_1)) rfl ⟨rfl,hK⟩) ?_));obtain⟨j2_,hj2,hP⟩:=hP;obtain⟨x5_,hx5,hP⟩:=hP;obtain⟨g3,cp3,hv4⟩:=w9e (hS54.get (i:=0) rfl) (Qh hx5);refine dt 3 15 (v:=(.pointer (some ⟨g3,j2_*1,none⟩))) (by kernel_rfl) rfl rfl (fun _ _ _ h=>h) (hS54.sublist (.cons_cons _ (.cons_cons _ (.cons _ (List.Sublist.refl _))))) (fun _ _ _ hK=>Bn (k:=j2_) (a':=⟨g3,j2_*1,none⟩) hv4 rfl hj2 (Qh hx5) Tryz.underlying70 Tryz.sizeOf9 (by simp[Um]) ⟨rfl,hK⟩) (dt 4 31 (v:=(.string x5_)) (by kernel_rfl) rfl rfl (fun _ _ _ h=>h) (hS54.sublist (.cons_cons _ (.cons_cons _ (.cons _ (List.Sublist.refl _))))) (fun _ hJ _ hK=>q92 (v:=(.string x5_)) rfl Tryz.isAgg9 (w3g q6x (j:=0) hv4 (hJ.get (i:=0) rfl) hx5 rfl) ⟨rfl,hK⟩) (d1 5 63 (by kernel_rfl) rfl (u53 (y0:=true) (i:=2) (ms':=[vec v13 9 1 left_3.length ((left_3).flatMap Qj),vec v16 9 1 ((out_3++[x4_]).length) ((out_3++[x4_]).flatMap Qj),emap b6 (fun y:Bool=>(Value.bool (y))) (put F_4 x5_ true),blk b7 60 [(.map (some b6))],blk b3 313 [(.map (some b2))],vec v6 9 1 ((cpt r1_).length) ((cpt r1_).flatMap Qj)]) hS54 rfl rfl rfl rfl Tryz.underlying60 Tryz.underlying9 rfl ?_)));intro w27 hS55;refine wpList_nil ?_;refine⟨rfl,(hS55.sublist (.cons_cons _ (.cons_cons _ (.cons _ (List.Sublist.refl _))))),w1w (J':=fun z=>St ⟨w,σ,[]⟩ z σ8 [vec v13 9 1 left_3.length ((left_3).flatMap Qj),vec v16 9 1 ((out_3++[x4_]).length) ((out_3++[x4_]).flatMap Qj),emap b6 (fun y:Bool=>(Value.bool (y))) (put F_4 x5_ true),blk b7 60 [(.map (some b6))],blk b3 313 [(.map (some b2))],vec v6 9 1 ((cpt r1_).length) ((cpt r1_).flatMap Qj)]) (fun w h=>h.sublist (.cons_cons _ (.cons_cons _ (.cons _ (List.Sublist.refl _))))) _ _ _ _ ?_⟩;refine dz (by kernel_rfl) (Qq (j7p (Zg (v:=v13) rfl (Zg (v:=(.int .i64 r_1)) rfl (Zg (v:=(.int .i64 r_1)) rfl ?_)))));obtain⟨hi1,hP⟩:=hP;refine y0o (r:=(r_1+(1:Int))) rfl rfl (nwi rfl hi1) ?_;obtain⟨j3_,hj3,hP⟩:=hP;obtain⟨hd1,hP⟩:=hP;obtain⟨hd2,hP⟩:=hP;obtain⟨hsm5,hP⟩:=hP;have hd3:r_1=((j3_:Nat):Int)/\(r_1+(1:Int))=((j3_+1:Nat):Int):=⟨by omega,by omega⟩;refine z1t (args:=[v13,(.int .i64 ((j3_:Nat):Int)),(.int .i64 ((j3_+1:Nat):Int))]) (by rw[<-hd3.1,<-hd3.2];rfl) Tryz.call227 (Calls.mono (y0s (i:=j3_) (j:=(j3_+1)) Tryz.slices_Delete_string hS55.view (hS55.get (i:=0) rfl) (fun b hb=>hS55.off _ (List.mem_of_getElem? (i:=0) rfl) b hb) (by omega) hd2 hd1) ?_);rintro _ w28 ⟨v17,rfl,hf2,hg7,ho13⟩;refine⟨_,rfl,?_⟩;have ho14:=q1x ho13;have hS56:=hS55.growV (i:=0) (o':=vec v17 9 1 ((left_3.take j3_++left_3.drop (j3_+1)).length) ((left_3.take j3_++left_3.drop (j3_+1)).flatMap Qj)) rfl hg7 hf2 ho13 (ms':=[vec v17 9 1 ((left_3.take j3_++left_3.drop (j3_+1)).length) ((left_3.take j3_++left_3.drop (j3_+1)).flatMap Qj),vec v16 9 1 ((out_3++[x4_]).length) ((out_3++[x4_]).flatMap Qj),emap b6 (fun y:Bool=>(Value.bool (y))) (put F_4 x5_ true),blk b7 60 [(.map (some b6))],blk b3 313 [(.map (some b2))],vec v6 9 1 ((cpt r1_).length) ((cpt r1_).flatMap Qj)]) rfl;refine Qz (v:=v17) rfl (wpList_nil (y0p (Qq ?_)));exact⟨left_3.take j3_++left_3.drop (j3_+1),out_3++[x4_],put F_4 x5_ true,_,rfl,hP,v17,v16,σ8,_,(Jd rfl (Jd rfl (Jd rfl (Jd rfl rfl)))),hS56,(Sub.trans hsub7 hsub8),ho14,hsm5,ho12,hsm4⟩
   .
    replace hP:=hP.2 ht4
    refine wp_exit (j2p (j2p (w3b (Qq (Qy (Zg (v:=v14) rfl (Qz (v:=v14) rfl (Qz (v:=(.int .i64 (0:Int))) rfl (wpList_nil (Qq (wp_ret (ret2 rfl (show ev _ _ _=v14 from rfl) (show ev _ _ _=(.int .i64 (0:Int)) from rfl) ?_))))))))))));have hS57:=hS45.front 1 rfl (ms':=[vec v14 9 1 out_3.length ((out_3).flatMap Qj),vec v13 9 1 left_3.length ((left_3).flatMap Qj),emap b6 (fun y:Bool=>(Value.bool (y))) F_4,blk b7 60 [(.map (some b6))],blk b3 313 [(.map (some b2))],vec v6 9 1 ((cpt r1_).length) ((cpt r1_).flatMap Qj)]) rfl;exact⟨out_3,(0:Int),v14,rfl,(St.back (hS57.keep 1 (ms':=[vec v14 9 1 out_3.length ((out_3).flatMap Qj)]) rfl) (Sub.refl _)),hl9,hP⟩
end Go.Proofs.YtkbjibhkaddepaaGreatDoor
end
noncomputable section
open Go Go.RowKit Go.Fl Go.Fl.Lk Go.Fx
namespace Go.En
theorem w93{σ:Hv}{w:World}{g:Nat}{T:C}{n:Nat}{l:List (car T)}(hV:View σ w)(hs:SRep D (fun _=>none) σ (.pointer (some ⟨g,0,none⟩)) (.fap T n l)){i j:Nat}{x:car T}{s:FV Sg}(hx:l[i]? =some x)(hj:(D.shape T x)[j]? =some s)(hz:j<D.size T):
  ∃v,w.cell? ⟨g,i*D.size T+j,none⟩=some v/\RepF D σ v s:=by
 generalize hq:Value.pointer (some (⟨g,0,none⟩:Addr))=q at hs;cases hs with
 |fap ad cs T' N l' hN h hl hr=>
  cases hq;have hrow:=hr i x hx;have hlen:=okP.ok.len T x;have hjl:j<((cs.drop (i*D.size T)).take (D.size T)).length:=by rw[hrow.1,hlen];exact hz
  obtain⟨v,hv⟩: ∃v,((cs.drop (i*D.size T)).take (D.size T))[j]? =some v:=⟨_,List.getElem?_eq_getElem hjl⟩;refine⟨v,?_,hrow.2 j v s hv hj⟩;rw[List.getElem?_take,if_pos hz,List.getElem?_drop] at hv;have:=hV.cell (h _ v hv);rw[Um,Nat.zero_add] at this;exact this
theorem y9t: ∀c,c<256->v9t[c]? =some ((Go.Lib.firstT c:Nat):Int):=by decide
theorem u6x: ∀i,i<16->(w32[i]?).map (fun a=>(a.lo,a.hi))=some (((Go.Lib.accLo i:Nat):Int),((Go.Lib.accHi i:Nat):Int)):=by decide
theorem tabs{σ:Hv}{w:World}(hV:View σ w)(hG:Glb D σ):Go.Lib.Utf8Tabs (Proofs.Tryz.lays196_ren.g 3) (Proofs.Tryz.lays196_ren.g 4) w:=by
 refine⟨fun c hc=> ?_,fun i hi=> ?_⟩
 .have h:=hG.known (Proofs.Tryz.lays196_ren.g 3);obtain⟨v,h1,h2⟩:=w93 (T:= .u8) (n:=256) (l:=v9t) hV h (i:=c) (j:=0) (s:= .int .u8 ((Go.Lib.firstT c:Nat):Int)) (y9t c hc) rfl (by decide);cases h2;simpa [show D.size C.u8=1 from rfl] using h1
 .have h:=hG.known (Proofs.Tryz.lays196_ren.g 4);have ha:=u6x i hi;obtain⟨a,e1,e2⟩:=Option.map_eq_some_iff.1 ha;obtain⟨v,h1,h2⟩:=w93 (T:= .acc) (n:=16) (l:=w32) hV h (i:=i) (j:=0) (s:= .int .u8 a.lo) e1 rfl (by decide);obtain⟨v',h1',h2'⟩:=w93 (T:= .acc) (n:=16) (l:=w32) hV h (i:=i) (j:=1) (s:= .int .u8 a.hi) e1 rfl (by decide);cases h2;cases h2';simp only[Prod.mk.injEq] at e2;rw[e2.1] at h1;rw[e2.2] at h1';refine⟨by rw[Nat.mul_comm];simpa [show D.size C.acc=2 from rfl] using h1,by rw[Nat.mul_comm];simpa [show D.size C.acc=2 from rfl] using h1'⟩
theorem v6s{w w':World}(h:Below w.heap.size w w'):Keeps [] w w':=⟨h.os,h.tape,h.output,h.size,fun k hk _=>h.block k hk⟩
theorem q9y{σ:Hv}{w w1:World}{args:List (Tr Sg)}{vals:List Value}{K:List (Tr Sg)->List (Tr Sg)->Prop}{rets outs:List (Tr Sg)}{rv:List Value}(hS:St ⟨w,σ,feet []⟩ w σ [])(hK:K rets outs)(hb:Below w.heap.size w w1)(hL:LayL D σ rets rv [])(hT:LayT D σ args outs vals [] []):
  Back D σ w args vals [] K (.returned (retV rv)) w1:=by
 have hk:=v6s hb;refine⟨rets,outs,rv,σ,[],[],rfl,hK,hL,hT,?_⟩;refine⟨hk,fun b o hbo=> ?_,Sub.refl _,fun _ _ _=>rfl,by simp,by simp,by simp,by simp⟩;have h1:=hS.view b o hbo;have hlt:b<w.heap.size:=by
  rcases Nat.lt_or_ge b w.heap.size with h|h
  .exact h
  .rw[Array.getElem?_eq_none h] at h1;cases h1
 rw[hk.block b hlt (by simp)];exact h1
theorem j56:z4b Proofs.Tryz.prog D 206 (conV ([.v]:LP) ([.str]:LV) ([.bool]:LV) ([.same]:LV) (fun a K=>Uq a.1 (fun q0=>K (q0,()) ((),())))):=by
 intro args K hm w σ vals ins hG hL hS;obtain⟨a,ha,hm⟩:=Qk hm;have hargs:=V3 ha;subst hargs;obtain⟨s,_⟩:=a;cases hL with
 |cons hp hr=>
 cases hr;cases hp with
 |f hf=>
 cases hf;have hm:s.size<=9223372036854775807/\K [.f (.bool (Go.Lib.validD s.data.toList))] [.same]:=hm;refine Calls.mono (Go.Proofs.Any.utf8_ValidString Proofs.Tryz.lays196 s w hm.1 (tabs hS.view hG)) ?_;rintro e w' ⟨rfl,hb⟩;exact q9y (rv:=[.bool (Go.Lib.validD s.data.toList)]) hS hm.2 hb (.cons (ms:=[]) (.f (.bool _)) .nil) (.skip (a0:=[]) .nil)
theorem j57:z4b Proofs.Tryz.prog D 251 (conV ([.v,.v]:LP) ([.str,.str]:LV) ([.bool]:LV) ([.same,.same]:LV) (fun a K=>q3q a.1 a.2.1 (fun q0=>K (q0,()) ((),(),())))):=by
 intro args K hm w σ vals ins hG hL hS;obtain⟨a,ha,hm⟩:=Qk hm;have hargs:=V3 ha;subst hargs;obtain⟨s,t,_⟩:=a;cases hL with
 |cons hp hr=>
 cases hr with
 |cons hq hr=>
 cases hr;cases hp with
 |f hf=>
 cases hf;cases hq with
 |f hf=>
 cases hf;have hm:s.size<4294967281/\K [.f (.bool (Go.Lib.contains s.data.toList t.data.toList))] [.same,.same]:=hm;obtain⟨n,hn⟩:=hG.free 6 .i64 rfl;refine Calls.mono (Proofs.Tryz.strings_Contains s t n w hm.1 (hS.view.cell hn)) ?_;rintro e w' ⟨rfl,rfl⟩;exact q9y (rv:=[.bool (Go.Lib.contains s.data.toList t.data.toList)]) hS hm.2 (Below.refl _ _) (.cons (ms:=[]) (.f (.bool _)) .nil) (.skip (a0:=[]) (.skip (a0:=[]) .nil))
theorem w6z:z4b Proofs.Tryz.prog D 318 (conV ([.v]:LP) ([.str]:LV) ([.int .i64,.ifc]:LV) ([.same]:LV) (fun a K=>q57 a.1 (fun q0 q1=>K (q0,q1,()) ((),())))):=by
 intro args K hm w σ vals ins hG hL hS;obtain⟨a,ha,hm⟩:=Qk hm;have hargs:=V3 ha;subst hargs;obtain⟨s,_⟩:=a;cases hL with
 |cons hp hr=>
 cases hr;cases hp with
 |f hf=>
 cases hf;have hm:s.size<=281474976710656/\y9s s (fun n b=>K [.f (.int .i64 n),.f (.ifc b)] [.same]):=hm;obtain⟨hsz,hm⟩:=hm;have err: ∀g:Nat,D.glob g= .fptr [.ifc false] 0-> ∃ev,w.cell? ⟨g,0,none⟩=some ev/\(ev= .nilIface\/ ∃te pe,ev= .iface te pe):=by
  intro g hg;have h:=hG.known g;rw[hg] at h;generalize hq:Value.pointer (some (⟨g,0,none⟩:Addr))=q at h;cases h with
  |fptr ad cs l off hv hr=>
  cases hq;obtain⟨v,hvl⟩: ∃v,cs=[v]:=List.length_eq_one_iff.1 hr.1;subst hvl;have hc:=hS.view.cell (hv 0 v rfl);have hR:=hr.2 0 v _ rfl rfl;refine⟨v,?_,?_⟩
  .rw[Um] at hc;exact hc
  .cases hR with
   |ifcS t p=>exact .inr ⟨t,p,rfl⟩
 unfold y9s at hm;split at hm
 .rename_i v hv;refine Calls.mono (Proofs.Tryz.strconv_Atoi_ok s (by omega) v hv w) ?_;rintro e w' ⟨rfl,hw⟩;have hb:Below w.heap.size w w':=by
   rcases hw with rfl|⟨t,rfl⟩
   .exact Below.refl _ _
   .exact Go.Lib.bytesWorld_below _ _ _
  exact q9y (rv:=[.int .i64 v,.nilIface]) hS hm hb (.cons (ms:=[]) (.f (.int _ _)) (.cons (ms:=[]) (.f .ifcN) .nil)) (.skip (a0:=[]) .nil)
 .rename_i hv;obtain⟨ev,h1,h2⟩:=err 10 rfl;refine Calls.mono (Proofs.Tryz.strconv_Atoi_range s hsz hv ev w h1 h2) ?_;rintro e w' ⟨N,rfl,_,_,hb⟩;exact q9y (rv:=[.int .i64 _,.iface _ _]) hS hm hb (.cons (ms:=[]) (.f (.int _ _)) (.cons (ms:=[]) (.f (.ifcS _ _)) .nil)) (.skip (a0:=[]) .nil)
 .rename_i hv;obtain⟨ev,h1,h2⟩:=err 9 rfl;refine Calls.mono (Proofs.Tryz.strconv_Atoi_syntax s hsz hv ev w h1 h2) ?_;rintro e w' ⟨N,rfl,_,_,hb⟩;exact q9y (rv:=[.int .i64 _,.iface _ _]) hS hm hb (.cons (ms:=[]) (.f (.int _ _)) (.cons (ms:=[]) (.f (.ifcS _ _)) .nil)) (.skip (a0:=[]) .nil)
theorem w60:z4b Proofs.Tryz.prog D 164 (conV ([.v]:LP) ([.int .i64]:LV) ([.str]:LV) ([.same]:LV) (fun a K=>z3m a.1 (fun q0=>K (q0,()) ((),())))):=by
 intro args K hm w σ vals ins hG hL hS;obtain⟨a,ha,hm⟩:=Qk hm;have hargs:=V3 ha;subst hargs;obtain⟨i,_⟩:=a;cases hL with
 |cons hp hr=>
 cases hr;cases hp with
 |f hf=>
 cases hf;have hm:InI i/\K [.f (.str ⟨(Go.Lib.itoa i).toArray⟩)] [.same]:=hm;obtain⟨t,q,hb⟩:=hG.blk 5 _ rfl;have htab:Go.Lib.TabIs Proofs.Tryz.prog w "internal/strconv.uint64pow10" .u64 Go.Lib.pow10Tab:=by unfold Go.Lib.TabIs World.var?;rw[show (Proofs.Tryz.prog).globalNamed "internal/strconv.uint64pow10" =some 5 by kernel_rfl,Option.bind_some,hS.view _ _ hb];kernel_rfl
 refine Calls.mono (Proofs.Tryz.strconv_Itoa i hm.1.1 hm.1.2 w htab) ?_;rintro e w' ⟨rfl,k,os,rfl⟩;exact q9y (rv:=[.string ⟨(Go.Lib.itoa i).toArray⟩]) hS hm.2 (Go.Lib.below_grow _ _ (Nat.le_refl _) _ _) (.cons (ms:=[]) (.f (.str _)) .nil) (.skip (a0:=[]) .nil)
theorem w2k(l:List BA):l.flatMap Qj=l.map Value.string:=by
 induction l with
 |nil=>rfl
 |cons a l ih=>rw[List.flatMap_cons,List.map_cons,ih];rfl
theorem u6y(l:List BA):(cpt l).length<=l.length:=by
 unfold cpt Go.Lib.compact;rw[List.length_map];have h: ∀(d:Array (List UInt8)) (m:Nat),(Go.Lib.compactUpTo d m).length<=m:=by intro d m;unfold Go.Lib.compactUpTo;rw[List.length_map];exact Nat.le_trans (List.length_filter_le _ _) (by simp)
 simpa using h _ _
theorem y5z{σ:Hv}{xs:List Value}{l:List BA}(h:Els D σ C.str xs l):xs=l.flatMap Qj:=by
 have h1:xs.length=l.length:=by rw[h.1];exact Nat.mul_one _
 rw[w2k];refine List.ext_getElem? fun i=> ?_
 rw[List.getElem?_map];rcases Nat.lt_or_ge i l.length with hi|hi
 .obtain⟨v,hv⟩: ∃v,xs[i]? =some v:=⟨_,List.getElem?_eq_getElem (by omega)⟩;obtain⟨x,hx⟩: ∃x,l[i]? =some x:=⟨_,List.getElem?_eq_getElem hi⟩;have hR:=(h.2 i x hx).2 0 v (.str x) (by rw[show D.size C.str=1 from rfl,Nat.mul_one,List.getElem?_take,if_pos (by decide),List.getElem?_drop];exact hv) rfl;rw[hv,hx];cases hR;rfl
 .rw[List.getElem?_eq_none (by omega),List.getElem?_eq_none hi];rfl
theorem w94(σ:Hv)(l:List BA):Els D σ C.str (l.flatMap Qj) l:=by
 rw[w2k];refine⟨by rw[List.length_map];exact (Nat.mul_one _).symm,fun i x hx=> ?_⟩;rw[show D.size C.str=1 from rfl,Nat.mul_one];have hx:l[i]? =some x:=hx;have e:((l.map Value.string).drop i).take 1=[.string x]:=by rw[<-List.map_drop,List.drop_eq_getElem_cons (List.getElem?_eq_some_iff.1 hx).1,(List.getElem?_eq_some_iff.1 hx).2];rfl
 rw[e];refine⟨rfl,fun j v s hj hs=> ?_⟩;cases j with
 |zero=>cases hj;cases hs;exact .str x
 |succ j=>cases hj
theorem q82:z4b Proofs.Tryz.prog D 137 (conV ([.own 9 C.str]:LP) ([.vec 9 C.str]:LV) ([]:LV) ([.vec 9 C.str]:LV) (fun a K=>J1 a.1 (fun q0=>K () (q0,())))):=by
 intro args K hm w σ vals ins hG hL hS;obtain⟨a,ha,hm⟩:=Qk hm;have hargs:=V3 ha;subst hargs;obtain⟨s,_⟩:=a;cases hL with
 |cons hp hr=>
 cases hr;cases hp with
 |vec hE hl h1=>
 have hx:=y5z hE;subst hx;have hm:K [] [.vec 9 C.str (srt s)]:=hm;refine Calls.mono (v82 Proofs.Tryz.slices_Sort_string Proofs.Tryz.slices_Sort_string_none hS.view (hS.get (i:=0) rfl) rfl (fun b hb=>hS.off _ (List.mem_of_getElem? (i:=0) rfl) b hb) (by omega)) ?_;rintro _ w1 ⟨rfl,hg,ho⟩;have hS1:=hS.growV (i:=0) (o':=vec _ 9 1 s.length ((srt s).flatMap Qj)) rfl hg rfl ho (ms':=[vec _ 9 1 s.length ((srt s).flatMap Qj)]) rfl;refine⟨[],_,[],σ,[],[vec _ 9 1 (srt s).length ((srt s).flatMap Qj)],rfl,hm,.nil,.keep (.vec (w94 σ _) (Nat.le_trans (Nat.le_of_eq (Wd _)) hl) h1) .nil,?_⟩;have e:(srt s).length=s.length:=Wd _;rw[e];exact hS1
theorem q5n:z4b Proofs.Tryz.prog D 220 (conV ([.own 9 C.str]:LP) ([.vec 9 C.str]:LV) ([.vec 9 C.str]:LV) ([.same]:LV) (fun a K=>Wh a.1 (fun q0=>K (q0,()) ((),())))):=by
 intro args K hm w σ vals ins hG hL hS;obtain⟨a,ha,hm⟩:=Qk hm;have hargs:=V3 ha;subst hargs;obtain⟨s,_⟩:=a;cases hL with
 |cons hp hr=>
 cases hr;cases hp with
 |vec hE hl h1=>
 have hx:=y5z hE;subst hx;have hm:K [.vec 9 C.str (cpt s)] [.same]:=hm;refine Calls.mono (w3f Proofs.Tryz.slices_Compact_string Proofs.Tryz.slices_Compact_string_empty hS.view (hS.get (i:=0) rfl) rfl (fun b hb=>hS.off _ (List.mem_of_getElem? (i:=0) rfl) b hb) (by omega)) ?_;rintro _ w1 ⟨v1,rfl,hf,hg,ho⟩;have hlc:(cpt s).length<=140737488355328:=Nat.le_trans (u6y _) hl;have hS1:=hS.growV (i:=0) (o':=vec v1 9 1 (cpt s).length ((cpt s).flatMap Qj)) rfl hg hf ho (ms':=[vec v1 9 1 (cpt s).length ((cpt s).flatMap Qj)]) rfl;exact⟨[.vec 9 C.str (cpt s)],[.same],[v1],σ,[vec v1 9 1 (cpt s).length ((cpt s).flatMap Qj)],[],rfl,hm,.cons (.vec (w94 σ _) hlc (q1x ho)) .nil,.skip .nil,hS1⟩
theorem u3y{σ:Hv}{v:Value}{l:List BA}(h:RepF D σ v (.sl C.str l)):RSl 1 (REnc Qj) σ v l:=by obtain⟨a,cap,e1,e2,e3,e4⟩:=h.toRSl okP.ok;refine⟨a,cap,e1,e2,e3,fun i x hx=> ?_⟩;obtain⟨ad,cs,f1,f2,f3,f4⟩:=e4 i x hx;refine⟨ad,cs,f1,f2,f3,?_⟩;obtain⟨u,rfl⟩: ∃u,cs=[u]:=List.length_eq_one_iff.1 f2;have g1:=f4.2 0 u (.str x) rfl rfl;cases g1;rfl
theorem y9u{σ:Hv}{v:Value}{l:List Edg}(h:RepF D σ v (.sl C.edge l)):RSl 2 (REnc u55) σ v (l.map fun e=>(e.1,e.2)):=by
 obtain⟨a,cap,e1,e2,e3,e4⟩:=h.toRSl okP.ok;have hl:(l.map fun e=>(e.1,e.2)).length=l.length:=List.length_map ..;refine⟨a,cap,by rw[hl];exact e1,by rw[hl];exact e2,by rw[hl];exact e3,fun i x hx=> ?_⟩;rw[List.getElem?_map] at hx;obtain⟨y,hy,rfl⟩:=Option.map_eq_some_iff.1 hx;obtain⟨ad,cs,f1,f2,f3,f4⟩:=e4 i y hy;refine⟨ad,cs,f1,f2,f3,?_⟩;obtain⟨u,v,rfl⟩: ∃u v,cs=[u,v]:=by
  match cs,f2 with
  |[u,v],_=>exact⟨u,v,rfl⟩
 have g1:=f4.2 0 u (.str y.src) rfl rfl;have g2:=f4.2 1 v (.str y.dst) rfl rfl;cases g1;cases g2;rfl
theorem w95:z4b Proofs.Tryz.prog D 178 (conV ([.sl C.str,.sl C.edge]:LP) ([.sl C.str,.sl C.edge]:LV) ([.vec 9 C.str,.int .i64]:LV) ([.same,.same]:LV) (fun a K=>P_graph_Order a.1 a.2.1 (fun q0 q1=>K (q0,q1,()) ((),(),())))):=by
 intro args K hm w σ vals ins hG hL hS;obtain⟨a,ha,hm⟩:=Qk hm;have hargs:=V3 ha;subst hargs;obtain⟨s,t,_⟩:=a;cases hL with
 | @cons _ _ v1 _ _ _ hp hr=>
 cases hr with
 | @cons _ _ v2 _ _ _ hq hr=>
 cases hr;cases hp with
 |f hf1=>
 cases hq with
 |f hf2=>
 have hm:Go.Fl.P_graph_Order s (t.map fun e=>(e.1,e.2)) (fun l n=>K [.vec 9 C.str l,.f (.int .i64 n)] [.same,.same]):=hm;refine Calls.mono (Go.Proofs.YtkbjibhkaddepaaGreatDoor.w_graph_Order s (t.map fun e=>(e.1,e.2)) v1 v2 hS.view (u3y hf1) (y9u hf2) hm) ?_;rintro e w1 ⟨l,n,v,rfl,hS1,hsm,hK⟩;have hl:l.length<=140737488355328:=by unfold Sml at hsm;omega
 exact⟨[.vec 9 C.str l,.f (.int .i64 n)],[.same,.same],[v,.int .i64 n],σ,[vec v 9 1 l.length (l.flatMap Qj)],[],rfl,hK,.cons (.vec (w94 σ _) hl (q1x (hS1.get (i:=0) rfl))) (.cons (ms:=[]) (.f (.int _ _)) .nil),.skip (a0:=[]) (.skip (a0:=[]) .nil),hS1⟩
theorem w4f:z4b Proofs.Tryz.prog D 302 (conV ([.v,.v]:LP) ([.str,.str]:LV) ([.vec 9 C.str]:LV) ([.same,.same]:LV) (fun a K=>z0v a.1 a.2.1 (fun q0=>K (q0,()) ((),(),())))):=by
 intro args K hm w σ vals ins hG hL hS;obtain⟨a,ha,hm⟩:=Qk hm;have hargs:=V3 ha;subst hargs;obtain⟨s,t,_⟩:=a;cases hL with
 |cons hp hr=>
 cases hr with
 |cons hq hr=>
 cases hr;cases hp with
 |f hf=>
 cases hf;cases hq with
 |f hf=>
 cases hf;have hm:t.size=1/\s.size<4294967281/\K [.vec 9 C.str (q2n s t)] [.same,.same]:=hm;obtain⟨h1,hsz,hm⟩:=hm;obtain⟨n,hn⟩:=hG.free 6 .i64 rfl;have hlen:(q2n s t).length=Go.Lib.countB s t+1:=Go.Lib.splitB_all t (by omega) 0 _ s rfl;have hcnt:=Go.Lib.countB_le t (by omega) s.size s (Nat.le_refl _);refine Calls.mono (Proofs.Tryz.strings_Split s t n w hsz (hS.view.cell hn) (by omega)) ?_;rintro e w' ⟨rfl,rfl⟩;have ho:(vec (.slice (some ⟨w.heap.size,0,none⟩) (q2n s t).length (q2n s t).length) 9 1 (q2n s t).length ((q2n s t).flatMap Qj)).ok (w.alloc (.cells ((q2n s t).map Value.string).toArray 9)):=by refine⟨by rw[w2k];simp,.inr ⟨w.heap.size,_,_,rfl,Nat.zero_le _,heap_alloc_new _ _,Nat.le_refl _,by unfold maxLen;omega,by simp,?_⟩⟩;rw[w2k,Nat.mul_one];exact t99 (by rw[List.length_map];exact Nat.le_refl _)
 have hS1:=hS.add (V2 w _) ho (by rintro k ⟨⟩;exact Nat.le_refl _);have hl:(q2n s t).length<=140737488355328:=by omega
 have hr:=(⟨[.vec 9 C.str (q2n s t)],[.same,.same],[_],σ,[_],[],rfl,hm,.cons (.vec (w94 σ _) hl (q1x ho)) .nil,.skip (a0:=[]) (.skip (a0:=[]) .nil),hS1⟩:Back D σ w [.f (.str s),.f (.str t)] [.string s,.string t] [] K (.returned (retV [.slice (some ⟨w.heap.size,0,none⟩) (q2n s t).length (q2n s t).length])) (w.alloc (.cells ((q2n s t).map Value.string).toArray 9)));rw[hlen] at hr;exact hr
end Go.En
end
noncomputable section
open Go Go.RowKit Go.Fl Go.Fl.Lk Go.Fx
namespace Go.En
def q7h(X:Vp):Con Sg:=conS [] [.vec 111 C.decl] fun a K=>X (fun q0=>K (q0,()))
theorem z2e:MT 29 (q7h Gw):=mS (l:=[]) trivial []
def v9v(X:w2g):Con Sg:=conV [.ptr 92 [.c,.v]] [.ptr 92 [.sl C.u8,.int .i64]] [.bool] [.ptr 92 [.same,.int .i64]] fun a K=>X a.1.1 a.1.2.1 (fun q0 q1=>K (q0,()) (((),q1,()),()))
theorem y9v:MT 61 (v9v w9s):=mP (rk:=[.v]) (l:=[]) trivial []
def Ud(X:Zn):Con Sg:=conV [.ptr 92 [.c,.v],.v] [.ptr 92 [.sl C.u8,.int .i64],.int .i64] [.int .i64] [.ptr 92 [.same,.int .i64],.same] fun a K=>X a.1.1 a.1.2.1 a.2.1 (fun q0 q1=>K (q0,()) (((),q1,()),(),()))
theorem y9w{w2w:w2g}(h:AL [(61,v9v w2w)]):MT 30 (Ud (w9t w2w)):=mP (rk:=[.v]) h []
theorem Hg:MT 30 (Ud Wl):=y9w ⟨y9v,trivial⟩
def j1p(X:q21):Con Sg:=conV [.ptr 92 [.c,.v]] [.ptr 92 [.sl C.u8,.int .i64]] [.str] [.ptr 92 [.same,.int .i64]] fun a K=>X a.1.1 a.1.2.1 (fun q0 q1=>K (q0,()) (((),q1,()),()))
theorem y9x{Qb:Zn}(h:AL [(30,Ud Qb)]):MT 31 (j1p (w9u Qb)):=mP (rk:=[.v]) h []
theorem w2l:MT 31 (j1p z5n):=y9x ⟨Hg,trivial⟩
def j58(X:q8j):Con Sg:=conV [.ptr 92 [.c,.v],.v] [.ptr 92 [.sl C.u8,.int .i64],.int .i64] [.int .i64] [.ptr 92 [.same,.int .i64],.same] fun a K=>X a.1.1 a.1.2.1 a.2.1 (fun q0 q1=>K (q0,()) (((),q1,()),(),()))
theorem y9y{Qb:Zn}(h:AL [(30,Ud Qb)]):MT 32 (j58 (w9v Qb)):=mP (rk:=[.v]) h []
theorem w96:MT 32 (j58 j01):=y9y ⟨Hg,trivial⟩
def w97(X:j02):Con Sg:=conS [.int .i64,.vec 9 C.str] [.sl C.str] fun a K=>X a.1 a.2.1 (fun q0=>K (q0,()))
theorem v9w:MT 34 (w97 w2h):=mS (l:=[]) trivial []
def w2m(X:z5o):Con Sg:=conV [.ptr 92 [.c,.v]] [.ptr 92 [.sl C.u8,.int .i64]] [.vec 9 C.str] [.ptr 92 [.same,.int .i64]] fun a K=>X a.1.1 a.1.2.1 (fun q0 q1=>K (q0,()) (((),q1,()),()))
theorem y9z{Qb:Zn}(h:AL [(30,Ud Qb)]):MT 62 (w2m (w9w Qb)):=mP (rk:=[.own 9 C.str]) h [(9,⟨bl 397,[],[(0,(92,2))],[(.slot 4,.own 9 C.str),sI 5,(.cell 0 1,.int .i64)]⟩),(17,⟨bl 8121,[0],[],[sI 6,(.obj 1,.own 9 C.str)]⟩)]
theorem v9x:MT 62 (w2m j5j):=y9z ⟨Hg,trivial⟩
def w98(X:j3g):Con Sg:=conV [.ptr 92 [.c,.v]] [.ptr 92 [.sl C.u8,.int .i64]] [.str] [.ptr 92 [.same,.int .i64]] fun a K=>X a.1.1 a.1.2.1 (fun q0 q1=>K (q0,()) (((),q1,()),()))
theorem u3z{Qb:Zn}(h:AL [(30,Ud Qb)]):MT 70 (w98 (v6p Qb)):=mP (rk:=[.v]) h []
theorem y50:MT 70 (w98 w33):=u3z ⟨Hg,trivial⟩
def z9d(X:q22):Con Sg:=conV [.ptr 92 [.c,.v],.v] [.ptr 92 [.sl C.u8,.int .i64],.int .i64] [.el C.val] [.ptr 92 [.same,.int .i64],.same] fun a K=>X a.1.1 a.1.2.1 a.2.1 (fun q0 q1=>K (q0,()) (((),q1,()),(),()))
theorem y51{Qb:Zn}{Wz:q21}(h:AL [(30,Ud Qb),(31,j1p Wz)]):MT 64 (z9d (j5k Qb Wz)):=mP (rk:=[.el C.val]) h []
theorem w4g:MT 64 (z9d q0v):=y51 ⟨Hg,w2l,trivial⟩
def w2n(X:j5l):Con Sg:=conV [.ptr 92 [.c,.v]] [.ptr 92 [.sl C.u8,.int .i64]] [.el C.ex] [.ptr 92 [.same,.int .i64]] fun a K=>X a.1.1 a.1.2.1 (fun q0 q1=>K (q0,()) (((),q1,()),()))
theorem y90{Q6:Vp}{Qb:Zn}{z7j:j3g}{Jr:q22}(h:AL [(29,q7h Q6),(30,Ud Qb),(70,w98 z7j),(64,z9d Jr)]):MT 105 (w2n (w9x Q6 Qb z7j Jr)):=mP (rk:=[.el C.ex]) h [(68,⟨bl 4286840701,[3,2],[(5,(66,5)),(0,(92,2)),(1,(66,5))],[(.cell 5 0,.int .i64),(.cell 5 1,.str),(.cell 5 2,.str),(.cell 5 3,.own 72 C.val),(.cell 5 4,.own 66 C.ex),(.cell 0 1,.int .i64),(.cell 1 0,.int .i64),(.cell 1 1,.str),(.cell 1 2,.str),(.cell 1 3,.own 72 C.val),(.cell 1 4,.own 66 C.ex)]⟩),(60,⟨bl 17163319925,[],[(0,(92,2)),(5,(66,5)),(1,(66,5))],[(.cell 0 1,.int .i64),(.cell 5 0,.int .i64),(.cell 5 1,.str),(.cell 5 2,.str),(.cell 5 3,.own 72 C.val),(.cell 5 4,.own 66 C.ex),(.cell 1 0,.int .i64),(.cell 1 1,.str),(.cell 1 2,.str),(.cell 1 3,.own 72 C.val),(.cell 1 4,.own 66 C.ex)]⟩),(37,⟨bl 1055806024022645,[1],[(5,(66,5)),(0,(92,2))],[sI 7,(.cell 5 3,.own 72 C.val),(.cell 0 1,.int .i64)]⟩)]
theorem y91:MT 105 (w2n j03):=y90 ⟨z2e,Hg,y50,w4g,trivial⟩
def w2o(X:q52):Con Sg:=conV [.ptr 92 [.c,.v],.sl C.str,.v] [.ptr 92 [.sl C.u8,.int .i64],.sl C.str,.int .i64] [.el C.ex] [.ptr 92 [.same,.int .i64],.same,.same] fun a K=>X a.1.1 a.1.2.1 a.2.1 a.2.2.1 (fun q0 q1=>K (q0,()) (((),q1,()),(),(),()))
def v3m:PT:=Q5 ([(8,⟨bl 24647,[0,1],[],[sI 7]⟩),(28,⟨bl 3298996281543,[0,1],[],[sB 49]⟩),(37,⟨bl 1148984153929181127,[1],[(0,(92,2)),(4,(66,5))],[sI 11,(.cell 0 1,.int .i64),(.cell 4 0,.int .i64),(.cell 4 1,.str),(.cell 4 2,.str),(.cell 4 3,.own 72 C.val),(.cell 4 4,.own 66 C.ex)]⟩),(46,⟨bl 1152917567256169316295,[0,12,11,4],[(13,(66,5))],[(.cell 13 0,.int .i64),(.cell 13 1,.str),(.cell 13 2,.str),(.cell 13 3,.sl C.val),(.cell 13 4,.sl C.ex)]⟩)]:LS)
theorem y1a(Qb:Zn)(j7c:j5l)(X:q52)(list:List Int)(at_:Int)(segments:List BA)(levels:Int)(K:Ex->Int->Prop):w2i Qb j7c X list at_ segments levels K=fnV (((WL [(30,Ud Qb),(105,w2n j7c)]).with 63 (w2o X)).pl v3m) 4 63 ([.ptr 92 [.c,.v],.sl C.str,.v]:LP) ([.el C.ex]:LP) ([.ptr 92 [.sl C.u8,.int .i64],.sl C.str,.int .i64]:LV) ([.el C.ex]:LV) ([.ptr 92 [.same,.int .i64],.same,.same]:LV) ((list,at_,()),segments,levels,()) (fun r o=>K r.1 o.1.2.1):=by kernel_rfl
theorem v9y:MT 63 (w2o j5m):=by
 show MT _ (conV ([.ptr 92 [.c,.v],.sl C.str,.v]:LP) ([.ptr 92 [.sl C.u8,.int .i64],.sl C.str,.int .i64]:LV) ([.el C.ex]:LV) ([.ptr 92 [.same,.int .i64],.same,.same]:LV) fun a K=>j5m a.1.1 a.1.2.1 a.2.1 a.2.2.1 (fun q0 q1=>K (q0,()) (((),q1,()),(),(),())));refine mR (l:=[(30,Ud Wl),(105,w2n j03)]) (u:=4) (rk:=[.el C.ex]) (p:=v3m) ⟨Hg,y91,trivial⟩ (by kernel_rfl) fun a K h X hX=> ?_
 exact h (fun list at_ segments levels K=>X ((list,at_,()),segments,levels,()) fun r o=>K r.1 o.1.2.1) (fun list at_ segments levels K hs=>hX ((list,at_,()),segments,levels,()) (fun r o=>K r.1 o.1.2.1) (Eq.mp (y1a Wl j03 (fun list at_ segments levels K=>X ((list,at_,()),segments,levels,()) fun r o=>K r.1 o.1.2.1) list at_ segments levels K) hs))
def z9e(X:q6z):Con Sg:=conV [.ptr 92 [.c,.v],.ptr 46 [.v,.v,.v,.sl C.decl,.own 144 C.seg,.own 34 C.flag,.own 102 C.layer,.own 68 C.exper]] [.ptr 92 [.sl C.u8,.int .i64],.ptr 46 [.str,.str,.int .i64,.sl C.decl,.vec 144 C.seg,.vec 34 C.flag,.vec 102 C.layer,.vec 68 C.exper]] [] [.ptr 92 [.same,.int .i64],.ptr 46 [.str,.str,.int .i64,.sl C.decl,.vec 144 C.seg,.vec 34 C.flag,.vec 102 C.layer,.vec 68 C.exper]] fun a K=>X a.1.1 a.1.2.1 a.2.1.1 a.2.1.2.1 a.2.1.2.2.1 a.2.1.2.2.2.1 a.2.1.2.2.2.2.1 a.2.1.2.2.2.2.2.1 a.2.1.2.2.2.2.2.2.1 a.2.1.2.2.2.2.2.2.2.1 (fun q0 q1 q2 q3 q4 q5 q6 q7 q8=>K () (((),q0,()),(q1,q2,q3,q4,q5,q6,q7,q8,()),()))
theorem v3n{Qb:Zn}{q4r:j02}{q6j:z5o}{q6k:q52}(h:AL [(30,Ud Qb),(34,w97 q4r),(62,w2m q6j),(63,w2o q6k)]):MT 33 (z9e (z8p Qb q4r q6j q6k)):=mP (rk:=[]) h [(5,⟨bl 1427,[3,4,5],[(0,(92,2)),(1,(46,8))],[sI 5,(.cell 0 1,.int .i64),(.cell 1 4,.own 144 C.seg)]⟩),(14,⟨bl 67010035,[11,10,9,1],[(12,(144,9)),(0,(92,2))],[(.cell 12 1,.str),(.cell 0 1,.int .i64)]⟩),(18,⟨bl 67010035,[11,10,9,1],[(12,(144,9)),(0,(92,2))],[(.cell 12 4,.int .i64),(.cell 12 5,.str),(.cell 12 6,.str),(.cell 12 7,.sl C.val),(.cell 12 8,.sl C.ex),(.cell 0 1,.int .i64)]⟩)]
theorem v3o:MT 33 (z9e z1w):=v3n ⟨Hg,v9w,v9x,v9y,trivial⟩
end Go.En
end
noncomputable section
open Go Go.RowKit Go.Fl Go.Fl.Lk Go.Fx
namespace Go.En
def z9f(X:q23):Con Sg:=conS [.el C.env] [.vec 9 C.str] fun a K=>X a.1 (fun q0=>K (q0,()))
theorem w4h:MT 65 (z9f q24):=mS (l:=[]) trivial [(7,⟨[0,1,2],[0],[],[(.slot 3,.own 9 C.str),sI 4]⟩)]
def j59(X:q98):Con Sg:=conV [.ptr 92 [.c,.v],.v] [.ptr 92 [.sl C.u8,.int .i64],.int .i64] [.vec 162 C.range] [.ptr 92 [.same,.int .i64],.same] fun a K=>X a.1.1 a.1.2.1 a.2.1 (fun q0 q1=>K (q0,()) (((),q1,()),(),()))
theorem y52{Qb:Zn}{Vi:q8j}(h:AL [(30,Ud Qb),(32,j58 Vi)]):MT 39 (j59 (w34 Qb Vi)):=mP (rk:=[.own 162 C.range]) h [(26,⟨[0,1,4],[],[(0,(92,2))],[(.slot 5,.own 162 C.range),sI 6,sI 7,(.cell 0 1,.int .i64)]⟩),(32,⟨bl 8444249301319923,[0,1],[],[sI 11]⟩),(9,⟨[0,1,4],[],[(0,(92,2))],[(.slot 5,.own 162 C.range),sI 6,sI 7,sI 8,(.cell 0 1,.int .i64)]⟩),(20,⟨bl 2144334835,[0,1],[],[sI 10]⟩)]
theorem v3p:MT 39 (j59 z8q):=y52 ⟨Hg,w96,trivial⟩
def w4i(X:z8r):Con Sg:=conV [.ptr 92 [.c,.v],.v] [.ptr 92 [.sl C.u8,.int .i64],.int .i64] [.el C.serve] [.ptr 92 [.same,.int .i64],.same] fun a K=>X a.1.1 a.1.2.1 a.2.1 (fun q0 q1=>K (q0,()) (((),q1,()),(),()))
theorem y53{Qb:Zn}{Wz:q21}{q4s:q98}{Q6:Vp}(h:AL [(30,Ud Qb),(31,j1p Wz),(39,j59 q4s),(29,q7h Q6)]):MT 13 (w4i (w35 Qb Wz q4s Q6)):=mP (rk:=[.el C.serve]) h []
theorem y54:MT 13 (w4i j5n):=y53 ⟨Hg,w2l,v3p,z2e,trivial⟩
def v3q(X:j5o):Con Sg:=conV [] [] [.ptr 215 [.vec 289 C.node,.map C.node C.i64,.bool]] [] fun a K=>X (fun q0 q1 q2=>K ((q0,q1,q2,()),()) ())
theorem y55:MT 106 (v3q v3l):=mP (rk:=[.ptr 215 [.own 289 C.node,.map C.node C.i64,.v]]) (l:=[]) trivial []
def Bg(X:W2):Con Sg:=conS [.int .i64] [.bool] fun a K=>X a.1 (fun q0=>K (q0,()))
theorem z08:MT 128 (Bg We):=mS (l:=[]) trivial []
def v3r(X:j5p):Con Sg:=conS [.sl C.str,.sl C.str] [.bool] fun a K=>X a.1 a.2.1 (fun q0=>K (q0,()))
theorem y56:MT 94 (v3r j5q):=mS (l:=[]) trivial [(9,⟨bl 1987,[],[],[sI 5]⟩)]
def z41(X:Bq):Con Sg:=conS [.el C.val,.el C.val] [.bool] fun a K=>X a.1 a.2.1 (fun q0=>K (q0,()))
theorem y1b{j7d:j5p}(h:AL [(94,v3r j7d)]):MT 53 (z41 (j79 j7d)):=mS h []
theorem j8p:MT 53 (z41 q49):=y1b ⟨y56,trivial⟩
def q4a(X:Rx):Con Sg:=conS [.sl C.val,.sl C.val] [.bool] fun a K=>X a.1 a.2.1 (fun q0=>K (q0,()))
theorem w4j{Wc:Bq}(h:AL [(53,z41 Wc)]):MT 256 (q4a (q99 Wc)):=mS h [(9,⟨bl 1987,[],[],[sI 5]⟩)]
theorem w4k:MT 256 (q4a Ge):=w4j ⟨j8p,trivial⟩
def z6p(X:Uo):Con Sg:=conV [.el C.ex,.el C.ex] [.el C.ex,.el C.ex] [.bool] [.same,.same] fun a K=>X a.1 a.2.1 (fun q0=>K (q0,()) ((),(),()))
def j2x:PT:=Q5 ([(258000009,⟨bl 1987,[],[],[sI 5]⟩)]:LS)
theorem w4l(q4t:Rx)(X:Uo)(a:Ex)(b:Ex)(K:Bool->Prop):z5p q4t X a b K=fnV (((WL [(256,q4a q4t)]).with 197 (z6p X)).pl j2x) 4 197 ([.el C.ex,.el C.ex]:LP) ([.v]:LP) ([.el C.ex,.el C.ex]:LV) ([.bool]:LV) ([.same,.same]:LV) (a,b,()) (fun r _=>K r.1):=by kernel_rfl
theorem w99:MT 197 (z6p q25):=by
 show MT _ (conV ([.el C.ex,.el C.ex]:LP) ([.el C.ex,.el C.ex]:LV) ([.bool]:LV) ([.same,.same]:LV) fun a K=>q25 a.1 a.2.1 (fun q0=>K (q0,()) ((),(),())));refine mR (l:=[(256,q4a Ge)]) (u:=4) (rk:=[.v]) (p:=j2x) ⟨w4k,trivial⟩ (by kernel_rfl) fun a K h X hX=> ?_
 exact h (fun a b K=>X (a,b,()) fun r _=>K r.1) (fun a b K hs=>hX (a,b,()) (fun r _=>K r.1) (Eq.mp (w4l Ge (fun a b K=>X (a,b,()) fun r _=>K r.1) a b K) hs))
def q5o(X:q1z):Con Sg:=conS [.sl C.ex,.el C.ex] [.int .i64] fun a K=>X a.1 a.2.1 (fun q0=>K (q0,()))
theorem v6t{q9a:Uo}(h:AL [(197,z6p q9a)]):MT 157 (q5o (j3h q9a)):=mS h [(5,⟨[0,1,3],[0],[],[sI 5]⟩)]
theorem w4m:MT 157 (q5o U3):=v6t ⟨w99,trivial⟩
def z3r(X:Vq):Con Sg:=conV [.sl C.ex,.el C.ex] [.sl C.ex,.el C.ex] [.sl C.ex] [.same,.same] fun a K=>X a.1 a.2.1 (fun q0=>K (q0,()) ((),(),()))
def z9g:PT:=Q5 ([(6,⟨[1,3,4],[0],[],[(.slot 0,.sl C.ex)]⟩),(9,⟨[1,3,4],[0],[],[(.slot 0,.sl C.ex),sI 5]⟩)]:LS)
theorem w0v(U5:q1z)(Q0:W2)(X:Vq)(l:List Ex)(e:Ex)(K:List Ex->Prop):z3d U5 Q0 X l e K=fnV (((WL [(157,q5o U5),(128,Bg Q0)]).with 154 (z3r X)).pl z9g) 4 154 ([.sl C.ex,.el C.ex]:LP) ([.sl C.ex]:LP) ([.sl C.ex,.el C.ex]:LV) ([.sl C.ex]:LV) ([.same,.same]:LV) (l,e,()) (fun r _=>K r.1):=by kernel_rfl
theorem w61:MT 154 (z3r q53):=by
 show MT _ (conV ([.sl C.ex,.el C.ex]:LP) ([.sl C.ex,.el C.ex]:LV) ([.sl C.ex]:LV) ([.same,.same]:LV) fun a K=>q53 a.1 a.2.1 (fun q0=>K (q0,()) ((),(),())));refine mR (l:=[(157,q5o U3),(128,Bg We)]) (u:=4) (rk:=[.sl C.ex]) (p:=z9g) ⟨w4m,z08,trivial⟩ (by kernel_rfl) fun a K h X hX=> ?_
 exact h (fun l e K=>X (l,e,()) fun r _=>K r.1) (fun l e K hs=>hX (l,e,()) (fun r _=>K r.1) (Eq.mp (w0v U3 We (fun l e K=>X (l,e,()) fun r _=>K r.1) l e K) hs))
def z09(X:Ry):Con Sg:=conS [.sl C.rule] [.sl C.ex] fun a K=>X a.1 (fun q0=>K (q0,()))
theorem w4n{q6l:Vq}(h:AL [(154,z3r q6l)]):MT 107 (z09 (z0a q6l)):=mS h [(7,⟨[0,2],[],[],[(.slot 3,.sl C.ex),sI 4]⟩)]
theorem w4o:MT 107 (z09 q26):=w4n ⟨w61,trivial⟩
end Go.En
end
noncomputable section
open Go Go.RowKit Go.Fl Go.Fl.Lk Go.Fx
namespace Go.En
def q4b(X:Wm):Con Sg:=conV [.ptr 215 [.own 289 C.node,.map C.node C.i64,.v],.v] [.ptr 215 [.vec 289 C.node,.map C.node C.i64,.bool],.int .i64] [.bool] [.ptr 215 [.vec 289 C.node,.map C.node C.i64,.bool],.same] fun a K=>X a.1.1 a.1.2.1 a.1.2.2.1 a.2.1 (fun q0 q1 q2 q3=>K (q0,()) ((q1,q2,q3,()),(),()))
theorem q83:MT 198 (q4b G1):=mP (rk:=[.v]) (l:=[]) trivial []
def z70(X:q1e):Con Sg:=conV [.ptr 215 [.own 289 C.node,.map C.node C.i64,.v],.v] [.ptr 215 [.vec 289 C.node,.map C.node C.i64,.bool],.int .i64] [.map C.i64 C.bool] [.ptr 215 [.vec 289 C.node,.map C.node C.i64,.bool],.same] fun a K=>X a.1.1 a.1.2.1 a.1.2.2.1 a.2.1 (fun q0 q1 q2 q3=>K (q0,()) ((q1,q2,q3,()),(),()))
theorem w0w:MT 258 (z70 q1f):=mP (rk:=[.map C.i64 C.bool]) (l:=[]) trivial [(7,⟨bl 1843,[0,1,2],[],[(.slot 6,.own 3 C.i64),(.obj 3,.map C.i64 C.bool)]⟩)]
def q5p(X:Gf):Con Sg:=conV [.ptr 215 [.own 289 C.node,.map C.node C.i64,.v],.v] [.ptr 215 [.vec 289 C.node,.map C.node C.i64,.bool],.int .i64] [.vec 3 C.i64] [.ptr 215 [.vec 289 C.node,.map C.node C.i64,.bool],.same] fun a K=>X a.1.1 a.1.2.1 a.1.2.2.1 a.2.1 (fun q0 q1 q2 q3=>K (q0,()) ((q1,q2,q3,()),(),()))
theorem j8q{Q2:Wm}{q1r:q1e}(h:AL [(198,q4b Q2),(258,z70 q1r)]):MT 200 (q5p (z4d Q2 q1r)):=mP (rk:=[.own 3 C.i64]) h [(13,⟨bl 32563,[5,0,4,2],[],[(.slot 6,.own 3 C.i64),sI 7]⟩)]
theorem j8r:MT 200 (q5p Br):=j8q ⟨q83,w0w,trivial⟩
def Vd(X:Zo):Con Sg:=conV [.ptr 215 [.own 289 C.node,.map C.node C.i64,.v],.v] [.ptr 215 [.vec 289 C.node,.map C.node C.i64,.bool],.int .i64] [.bool] [.ptr 215 [.vec 289 C.node,.map C.node C.i64,.bool],.same] fun a K=>X a.1.1 a.1.2.1 a.1.2.2.1 a.2.1 (fun q0 q1 q2 q3=>K (q0,()) ((q1,q2,q3,()),(),()))
theorem j2h{Q2:Wm}{q0a:Gf}(h:AL [(198,q4b Q2),(200,q5p q0a)]):MT 159 (Vd (q79 Q2 q0a)):=mP (rk:=[.v]) h [(11,⟨bl 16291,[5,0,4,2],[],[sI 6]⟩)]
theorem q0q:MT 159 (Vd Wa):=j2h ⟨q83,j8r,trivial⟩
def q05(X:Vr):Con Sg:=conV [.ptr 215 [.own 289 C.node,.map C.node C.i64,.v],.v] [.ptr 215 [.vec 289 C.node,.map C.node C.i64,.bool],.int .i64] [.int .i64] [.ptr 215 [.vec 289 C.node,.map C.node C.i64,.bool],.same] fun a K=>X a.1.1 a.1.2.1 a.1.2.2.1 a.2.1 (fun q0 q1 q2 q3=>K (q0,()) ((q1,q2,q3,()),(),()))
theorem z3s:MT 199 (q05 Wn):=mP (rk:=[.v]) (l:=[]) trivial []
def q1m(X:Hx):Con Sg:=conV [.ptr 215 [.own 289 C.node,.map C.node C.i64,.v],.v,.v] [.ptr 215 [.vec 289 C.node,.map C.node C.i64,.bool],.int .i64,.int .i64] [.int .i64,.int .i64] [.ptr 215 [.vec 289 C.node,.map C.node C.i64,.bool],.same,.same] fun a K=>X a.1.1 a.1.2.1 a.1.2.2.1 a.2.1 a.2.2.1 (fun q0 q1 q2 q3 q4=>K (q0,q1,()) ((q2,q3,q4,()),(),(),()))
theorem w0x{Za:Vr}(h:AL [(199,q05 Za)]):MT 259 (q1m (z7z Za)):=mP (rk:=[.v,.v]) h []
theorem w0y:MT 259 (q1m W4):=w0x ⟨z3s,trivial⟩
def Gq(X:V4):Con Sg:=conV [.ptr 215 [.own 289 C.node,.map C.node C.i64,.v],.v,.v,.v] [.ptr 215 [.vec 289 C.node,.map C.node C.i64,.bool],.int .i64,.int .i64,.int .i64] [.int .i64] [.ptr 215 [.vec 289 C.node,.map C.node C.i64,.bool],.same,.same,.same] fun a K=>X a.1.1 a.1.2.1 a.1.2.2.1 a.2.1 a.2.2.1 a.2.2.2.1 (fun q0 q1 q2 q3=>K (q0,()) ((q1,q2,q3,()),(),(),(),()))
theorem w4p{Q2:Wm}{Za:Vr}(h:AL [(198,q4b Q2),(199,q05 Za)]):MT 158 (Gq (z8s Q2 Za)):=mP (rk:=[.v]) h []
theorem z9h:MT 158 (Gq Jq):=w4p ⟨q83,z3s,trivial⟩
def q5q(X:Jz):Con Sg:=conV [.ptr 215 [.own 289 C.node,.map C.node C.i64,.v],.v,.v,.v,.map C.a3 C.i64] [.ptr 215 [.vec 289 C.node,.map C.node C.i64,.bool],.int .i64,.int .i64,.int .i64,.map C.a3 C.i64] [.int .i64] [.ptr 215 [.vec 289 C.node,.map C.node C.i64,.bool],.same,.same,.same,.map C.a3 C.i64] fun a K=>X a.1.1 a.1.2.1 a.1.2.2.1 a.2.1 a.2.2.1 a.2.2.2.1 a.2.2.2.2.1 (fun q0 q1 q2 q3 q4=>K (q0,()) ((q1,q2,q3,()),(),(),(),q4,()))
def z2f:PT:=Q5 ([(36,⟨bl 4951760157141239551596952607,[3,4],[(0,(215,3))],[sI 23,(.cell 0 0,.own 289 C.node),(.cell 0 2,.bool),(.obj 2,.map C.node C.i64)]⟩)]:LS)
theorem j32(Za:Vr)(Uk:Hx)(J7:V4)(X:Jz)(ns:List Nd)(ids:(Nd->Option (Int)))(full:Bool)(f:Int)(g:Int)(h:Int)(known:(A3->Option (Int)))(K:Int->List Nd->(Nd->Option (Int))->Bool->(A3->Option (Int))->Prop):Gg Za Uk J7 X ns ids full f g h known K=fnV (((WL [(199,q05 Za),(259,q1m Uk),(158,Gq J7)]).with 201 (q5q X)).pl z2f) 4 201 ([.ptr 215 [.own 289 C.node,.map C.node C.i64,.v],.v,.v,.v,.map C.a3 C.i64]:LP) ([.v]:LP) ([.ptr 215 [.vec 289 C.node,.map C.node C.i64,.bool],.int .i64,.int .i64,.int .i64,.map C.a3 C.i64]:LV) ([.int .i64]:LV) ([.ptr 215 [.vec 289 C.node,.map C.node C.i64,.bool],.same,.same,.same,.map C.a3 C.i64]:LV) ((ns,ids,full,()),f,g,h,known,()) (fun r o=>K r.1 o.1.1 o.1.2.1 o.1.2.2.1 o.2.2.2.2.1):=by kernel_rfl
theorem j8s:MT 201 (q5q Bt):=by
 show MT _ (conV ([.ptr 215 [.own 289 C.node,.map C.node C.i64,.v],.v,.v,.v,.map C.a3 C.i64]:LP) ([.ptr 215 [.vec 289 C.node,.map C.node C.i64,.bool],.int .i64,.int .i64,.int .i64,.map C.a3 C.i64]:LV) ([.int .i64]:LV) ([.ptr 215 [.vec 289 C.node,.map C.node C.i64,.bool],.same,.same,.same,.map C.a3 C.i64]:LV) fun a K=>Bt a.1.1 a.1.2.1 a.1.2.2.1 a.2.1 a.2.2.1 a.2.2.2.1 a.2.2.2.2.1 (fun q0 q1 q2 q3 q4=>K (q0,()) ((q1,q2,q3,()),(),(),(),q4,())));refine mR (l:=[(199,q05 Wn),(259,q1m W4),(158,Gq Jq)]) (u:=4) (rk:=[.v]) (p:=z2f) ⟨z3s,w0y,z9h,trivial⟩ (by kernel_rfl) fun a K h X hX=> ?_
 exact h (fun ns ids full f g h known K=>X ((ns,ids,full,()),f,g,h,known,()) fun r o=>K r.1 o.1.1 o.1.2.1 o.1.2.2.1 o.2.2.2.2.1) (fun ns ids full f g h known K hs=>hX ((ns,ids,full,()),f,g,h,known,()) (fun r o=>K r.1 o.1.1 o.1.2.1 o.1.2.2.1 o.2.2.2.2.1) (Eq.mp (j32 Wn W4 Jq (fun ns ids full f g h known K=>X ((ns,ids,full,()),f,g,h,known,()) fun r o=>K r.1 o.1.1 o.1.2.1 o.1.2.2.1 o.2.2.2.2.1) ns ids full f g h known K) hs))
def Gs(X:Jf):Con Sg:=conV [.ptr 215 [.own 289 C.node,.map C.node C.i64,.v],.v,.v,.v] [.ptr 215 [.vec 289 C.node,.map C.node C.i64,.bool],.int .i64,.int .i64,.int .i64] [.int .i64] [.ptr 215 [.vec 289 C.node,.map C.node C.i64,.bool],.same,.same,.same] fun a K=>X a.1.1 a.1.2.1 a.1.2.2.1 a.2.1 a.2.2.1 a.2.2.2.1 (fun q0 q1 q2 q3=>K (q0,()) ((q1,q2,q3,()),(),(),(),()))
theorem j8t{Qs:Zo}{Q2:Wm}{q0b:Jz}(h:AL [(159,Vd Qs),(198,q4b Q2),(201,q5q q0b)]):MT 160 (Gs (z4e Qs Q2 q0b)):=mP (rk:=[.v]) h []
theorem q5r:MT 160 (Gs Vy):=j8t ⟨q0q,q83,j8s,trivial⟩
def q6e(X:q0w):Con Sg:=conV [.ptr 215 [.own 289 C.node,.map C.node C.i64,.v],.v] [.ptr 215 [.vec 289 C.node,.map C.node C.i64,.bool],.int .i64] [.int .i64] [.ptr 215 [.vec 289 C.node,.map C.node C.i64,.bool],.same] fun a K=>X a.1.1 a.1.2.1 a.1.2.2.1 a.2.1 (fun q0 q1 q2 q3=>K (q0,()) ((q1,q2,q3,()),(),()))
theorem w62{Q4:Jf}(h:AL [(160,Gs Q4)]):MT 155 (q6e (j2v Q4)):=mP (rk:=[.v]) h []
theorem w63:MT 155 (q6e Rb):=w62 ⟨q5r,trivial⟩
def q6f(X:q0x):Con Sg:=conV [.ptr 215 [.own 289 C.node,.map C.node C.i64,.v],.v,.v] [.ptr 215 [.vec 289 C.node,.map C.node C.i64,.bool],.int .i64,.int .i64] [.int .i64] [.ptr 215 [.vec 289 C.node,.map C.node C.i64,.bool],.same,.same] fun a K=>X a.1.1 a.1.2.1 a.1.2.2.1 a.2.1 a.2.2.1 (fun q0 q1 q2 q3=>K (q0,()) ((q1,q2,q3,()),(),(),()))
theorem w65{Qs:Zo}{Q4:Jf}(h:AL [(159,Vd Qs),(160,Gs Q4)]):MT 156 (q6f (j2w Qs Q4)):=mP (rk:=[.v]) h []
theorem w66:MT 156 (q6f Rd):=w65 ⟨q0q,q5r,trivial⟩
def q4c(X:G2):Con Sg:=conV [.ptr 215 [.own 289 C.node,.map C.node C.i64,.v],.v,.v] [.ptr 215 [.vec 289 C.node,.map C.node C.i64,.bool],.int .i64,.int .i64] [.int .i64] [.ptr 215 [.vec 289 C.node,.map C.node C.i64,.bool],.same,.same] fun a K=>X a.1.1 a.1.2.1 a.1.2.2.1 a.2.1 a.2.2.1 (fun q0 q1 q2 q3=>K (q0,()) ((q1,q2,q3,()),(),(),()))
theorem v0a{Qs:Zo}{Q4:Jf}(h:AL [(159,Vd Qs),(160,Gs Q4)]):MT 109 (q4c (j5r Qs Q4)):=mP (rk:=[.v]) h []
theorem j6a:MT 109 (q4c G3):=v0a ⟨q0q,q5r,trivial⟩
end Go.En
end
noncomputable section
open Go Go.RowKit Go.Fl Go.Fl.Lk Go.Fx
namespace Go.En
def z1a(X:Wt):Con Sg:=conV [.ptr 215 [.own 289 C.node,.map C.node C.i64,.v],.sl C.ex,.el C.ex] [.ptr 215 [.vec 289 C.node,.map C.node C.i64,.bool],.sl C.ex,.el C.ex] [.int .i64] [.ptr 215 [.vec 289 C.node,.map C.node C.i64,.bool],.same,.same] fun a K=>X a.1.1 a.1.2.1 a.1.2.2.1 a.2.1 a.2.2.1 (fun q0 q1 q2 q3=>K (q0,()) ((q1,q2,q3,()),(),(),()))
def z71:PT:=Q5 ([(16,⟨bl 129127,[3,0,1,2],[],[sB 26]⟩),(21,⟨bl 68249843815,[3],[(0,(215,3))],[sI 7,sI 8,(.cell 0 0,.own 289 C.node),(.cell 0 2,.bool),(.obj 2,.map C.node C.i64)]⟩)]:LS)
theorem j8u(q6m:q0w)(q6n:q0x)(Vj:G2)(U5:q1z)(J7:V4)(X:Wt)(ns:List Nd)(ids:(Nd->Option (Int)))(full:Bool)(atoms:List Ex)(e:Ex)(K:Int->List Nd->(Nd->Option (Int))->Bool->Prop):z0b q6m q6n Vj U5 J7 X ns ids full atoms e K=fnV (((WL [(155,q6e q6m),(156,q6f q6n),(109,q4c Vj),(157,q5o U5),(158,Gq J7)]).with 108 (z1a X)).pl z71) 4 108 ([.ptr 215 [.own 289 C.node,.map C.node C.i64,.v],.sl C.ex,.el C.ex]:LP) ([.v]:LP) ([.ptr 215 [.vec 289 C.node,.map C.node C.i64,.bool],.sl C.ex,.el C.ex]:LV) ([.int .i64]:LV) ([.ptr 215 [.vec 289 C.node,.map C.node C.i64,.bool],.same,.same]:LV) ((ns,ids,full,()),atoms,e,()) (fun r o=>K r.1 o.1.1 o.1.2.1 o.1.2.2.1):=by kernel_rfl
theorem w4q:MT 108 (z1a q27):=by
 show MT _ (conV ([.ptr 215 [.own 289 C.node,.map C.node C.i64,.v],.sl C.ex,.el C.ex]:LP) ([.ptr 215 [.vec 289 C.node,.map C.node C.i64,.bool],.sl C.ex,.el C.ex]:LV) ([.int .i64]:LV) ([.ptr 215 [.vec 289 C.node,.map C.node C.i64,.bool],.same,.same]:LV) fun a K=>q27 a.1.1 a.1.2.1 a.1.2.2.1 a.2.1 a.2.2.1 (fun q0 q1 q2 q3=>K (q0,()) ((q1,q2,q3,()),(),(),())));refine mR (l:=[(155,q6e Rb),(156,q6f Rd),(109,q4c G3),(157,q5o U3),(158,Gq Jq)]) (u:=4) (rk:=[.v]) (p:=z71) ⟨w63,w66,j6a,w4m,z9h,trivial⟩ (by kernel_rfl) fun a K h X hX=> ?_
 exact h (fun ns ids full atoms e K=>X ((ns,ids,full,()),atoms,e,()) fun r o=>K r.1 o.1.1 o.1.2.1 o.1.2.2.1) (fun ns ids full atoms e K hs=>hX ((ns,ids,full,()),atoms,e,()) (fun r o=>K r.1 o.1.1 o.1.2.1 o.1.2.2.1) (Eq.mp (j8u Rb Rd G3 U3 Jq (fun ns ids full atoms e K=>X ((ns,ids,full,()),atoms,e,()) fun r o=>K r.1 o.1.1 o.1.2.1 o.1.2.2.1) ns ids full atoms e K) hs))
def B2(X:Wf):Con Sg:=conS [.sl C.rule] [.vec 3 C.i64,.int .i64,.bool] fun a K=>X a.1 (fun q0 q1 q2=>K (q0,q1,q2,()))
theorem j8v{j7f:j5o}{q4u:Ry}{q4v:Wt}{Vj:G2}(h:AL [(106,v3q j7f),(107,z09 q4u),(108,z1a q4v),(109,q4c Vj)]):MT 66 (B2 (q5a j7f q4u q4v Vj)):=mS h [(13,⟨bl 28769,[],[(0,(215,3))],[sI 7,(.slot 8,.own 3 C.i64),sI 9,(.cell 0 0,.own 289 C.node),(.cell 0 2,.bool),(.obj 2,.map C.node C.i64)]⟩)]
theorem z42:MT 66 (B2 Gh):=j8v ⟨y55,w4o,w4q,j6a,trivial⟩
def w4r(X:z8t):Con Sg:=conV [.ptr 92 [.c,.v],.v] [.ptr 92 [.sl C.u8,.int .i64],.str] [.el C.layer] [.ptr 92 [.same,.int .i64],.same] fun a K=>X a.1.1 a.1.2.1 a.2.1 (fun q0 q1=>K (q0,()) (((),q1,()),(),()))
theorem y57{Wz:q21}{Qb:Zn}{Vi:q8j}(h:AL [(31,j1p Wz),(30,Ud Qb),(32,j58 Vi)]):MT 36 (w4r (w36 Wz Qb Vi)):=mP (rk:=[.el C.layer]) h [(8,⟨bl 130099,[1],[(2,(102,6)),(0,(92,2))],[(.cell 2 1,.str),(.cell 0 1,.int .i64)]⟩),(12,⟨bl 130099,[1],[(2,(102,6)),(0,(92,2))],[(.cell 2 3,.int .i64),(.cell 0 1,.int .i64)]⟩),(17,⟨bl 130099,[1],[(2,(102,6)),(0,(92,2))],[sI 6,sI 7,(.cell 2 5,.own 152 C.cool),(.cell 0 1,.int .i64)]⟩)]
theorem y58:MT 36 (w4r j5s):=y57 ⟨w2l,Hg,w96,trivial⟩
def w8q(X:j04):Con Sg:=conS [.int .i64] [.bool] fun a K=>X a.1 (fun q0=>K (q0,()))
theorem y1c:MT 110 (w8q j05):=mS (l:=[]) trivial []
def B3(X:Jt):Con Sg:=conS [.el C.env,.str] [.int .i64] fun a K=>X a.1 a.2.1 (fun q0=>K (q0,()))
theorem q4d:MT 96 (B3 Vf):=mS (l:=[]) trivial [(5,⟨[0,1,2],[0],[],[sI 5]⟩)]
def z9i(X:q28):Con Sg:=conS [.sl C.cool,.int .i64] [.vec 3 C.i64] fun a K=>X a.1 a.2.1 (fun q0=>K (q0,()))
theorem w4s:MT 163 (z9i q29):=mS (l:=[]) trivial [(7,⟨bl 563,[],[],[sI 6,(.obj 0,.own 3 C.i64)]⟩),(15,⟨bl 15987,[],[],[sI 7,(.obj 0,.own 3 C.i64)]⟩),(21,⟨bl 4243603187,[],[],[sI 8,(.obj 0,.own 3 C.i64)]⟩)]
def q5s(X:W5):Con Sg:=conS [.sl C.bool] [.vec 157 C.span] fun a K=>X a.1 (fun q0=>K (q0,()))
theorem z1b:MT 113 (q5s Rz):=mS (l:=[]) trivial [(7,⟨[0,2],[],[],[(.slot 3,.own 157 C.span),sI 4]⟩)]
def j33(X:z0c):Con Sg:=conS [.sl C.i64,.int .i64] [.vec 157 C.span] fun a K=>X a.1 a.2.1 (fun q0=>K (q0,()))
theorem v6u{Q7:W5}(h:AL [(113,q5s Q7)]):MT 162 (j33 (j3i Q7)):=mS h [(7,⟨bl 947,[],[],[sI 6,(.obj 0,.own 4 C.bool)]⟩)]
theorem v6v:MT 162 (j33 z5q):=v6u ⟨z1b,trivial⟩
def z9j(X:q0y):Con Sg:=conS [.sl C.span] [.vec 4 C.bool] fun a K=>X a.1 (fun q0=>K (q0,()))
theorem j6b:MT 112 (z9j z0d):=mS (l:=[]) trivial [(7,⟨bl 77,[],[],[sI 4,(.obj 0,.own 4 C.bool)]⟩),(13,⟨bl 518109,[],[],[sI 5,(.obj 0,.own 4 C.bool)]⟩)]
def j34(X:z0e):Con Sg:=conS [.sl C.span,.sl C.span] [.vec 157 C.span] fun a K=>X a.1 a.2.1 (fun q0=>K (q0,()))
theorem v6w{Jm:q0y}{Q7:W5}(h:AL [(112,z9j Jm),(113,q5s Q7)]):MT 161 (j34 (j3j Jm Q7)):=mS h [(7,⟨bl 3955,[1],[],[sI 7,(.obj 0,.own 4 C.bool)]⟩)]
theorem v6x:MT 161 (j34 z5r):=v6w ⟨j6b,z1b,trivial⟩
def j35(X:z0f):Con Sg:=conS [.el C.env,.str,.str,.int .i64] [.vec 157 C.span] fun a K=>X a.1 a.2.1 a.2.2.1 a.2.2.2.1 (fun q0=>K (q0,()))
theorem v6y{Qt:Jt}{q2k:z0e}{Bk:q28}{q51:z0c}(h:AL [(96,B3 Qt),(161,j34 q2k),(163,z9i Bk),(162,j33 q51)]):MT 111 (j35 (j3k Qt q2k Bk q51)):=mS h [(10,⟨bl 254751,[0],[],[(.slot 10,.own 157 C.span)]⟩),(13,⟨bl 254751,[0],[],[(.slot 10,.own 157 C.span),sI 11]⟩)]
theorem v6z:MT 111 (j35 z5s):=v6y ⟨q4d,v6x,w4s,v6v,trivial⟩
def z6q(X:q13):Con Sg:=conS [.sl C.span,.sl C.span] [.vec 157 C.span] fun a K=>X a.1 a.2.1 (fun q0=>K (q0,()))
theorem v60{Jm:q0y}{Q7:W5}(h:AL [(112,z9j Jm),(113,q5s Q7)]):MT 68 (z6q (j3l Jm Q7)):=mS h [(7,⟨bl 3955,[1],[],[sI 7,(.obj 0,.own 4 C.bool)]⟩)]
theorem w4t:MT 68 (z6q z0g):=v60 ⟨j6b,z1b,trivial⟩
end Go.En
end
noncomputable section
open Go Go.RowKit Go.Fl Go.Fl.Lk Go.Fx
namespace Go.En
def j8w(X:z4f):Con Sg:=conS [.el C.env,.str,.int .i64] [.vec 157 C.span,.int .i64] fun a K=>X a.1 a.2.1 a.2.2.1 (fun q0 q1=>K (q0,q1,()))
theorem y1d{j11:j04}{Qt:Jt}{z7k:z0f}{Hn:q13}(h:AL [(110,w8q j11),(96,B3 Qt),(111,j35 z7k),(68,z6q Hn)]):MT 67 (j8w (j8a j11 Qt z7k Hn)):=mS h []
theorem y1e:MT 67 (j8w j06):=y1d ⟨y1c,q4d,v6z,w4t,trivial⟩
def j36(X:z0h):Con Sg:=conS [.sl C.span,.int .i64] [.vec 157 C.span] fun a K=>X a.1 a.2.1 (fun q0=>K (q0,()))
theorem v61{Jm:q0y}{Q7:W5}(h:AL [(112,z9j Jm),(113,q5s Q7)]):MT 69 (j36 (j3m Jm Q7)):=mS h [(7,⟨bl 433,[],[],[sI 1,sI 6,(.obj 0,.own 4 C.bool)]⟩)]
theorem v62:MT 69 (j36 z5t):=v61 ⟨j6b,z1b,trivial⟩
def q4e(X:Up):Con Sg:=conV [.v] [.str] [.bool] [.same] fun a K=>X a.1 (fun q0=>K (q0,()) ((),()))
theorem z2g:MT 206 (q4e Uq):=⟨entB (by kernel_rfl),j56⟩
def B4(X:J0):Con Sg:=conS [.str] [.bool] fun a K=>X a.1 (fun q0=>K (q0,()))
theorem y1f{Z6:Up}(h:AL [(206,q4e Z6)]):MT 169 (B4 (j07 Z6)):=mS h [(9,⟨bl 4081,[],[],[sI 3]⟩)]
theorem q5t:MT 169 (B4 Ui):=y1f ⟨z2g,trivial⟩
def v3s(X:j5t):Con Sg:=conS [.str] [.bool] fun a K=>X a.1 (fun q0=>K (q0,()))
theorem y59:MT 207 (v3s j5u):=mS (l:=[]) trivial [(5,⟨[0],[],[],[sI 3]⟩)]
def j6c(X:q8k):Con Sg:=conS [] [.vec 9 C.str] fun a K=>X (fun q0=>K (q0,()))
theorem v0b:MT 208 (j6c q8l):=mS (l:=[]) trivial []
def B5(X:Ju):Con Sg:=conS [.str] [.bool] fun a K=>X a.1 (fun q0=>K (q0,()))
theorem y92{j7g:j5t}{q9b:q8k}(h:AL [(207,v3s j7g),(208,j6c q9b)]):MT 170 (B5 (w9y j7g q9b)):=mS h [(11,⟨bl 16361,[0],[],[sI 4]⟩)]
theorem q4f:MT 170 (B5 Rk):=y92 ⟨y59,v0b,trivial⟩
def z6r(X:q3a):Con Sg:=conS [.el C.settings] [.int .i64] fun a K=>X a.1 (fun q0=>K (q0,()))
theorem v0c{Qw:J0}{Qm:Ju}(h:AL [(169,B4 Qw),(170,B5 Qm)]):MT 122 (z6r (z5u Qw Qm)):=mS h []
theorem v0d:MT 122 (z6r q8m):=v0c ⟨q5t,q4f,trivial⟩
def z6s(X:q3b):Con Sg:=conS [.sl C.decl] [.int .i64] fun a K=>X a.1 (fun q0=>K (q0,()))
theorem v0e{Qm:Ju}(h:AL [(170,B5 Qm)]):MT 123 (z6s (z5v Qm)):=mS h [(9,⟨bl 113,[],[],[sI 3]⟩)]
theorem v0f:MT 123 (z6s q8n):=v0e ⟨q4f,trivial⟩
def z2h(X:R0):Con Sg:=conS [.sl C.str] [.int .i64] fun a K=>X a.1 (fun q0=>K (q0,()))
theorem v3t{Qw:J0}(h:AL [(169,B4 Qw)]):MT 209 (z2h (z8u Qw)):=mS h [(9,⟨bl 113,[],[],[sI 3]⟩)]
theorem j95:MT 209 (z2h q60):=v3t ⟨q5t,trivial⟩
def v3u(X:j5v):Con Sg:=conS [.el C.ex] [.bool] fun a K=>X a.1 (fun q0=>K (q0,()))
theorem y6a:MT 210 (v3u j5w):=mS (l:=[]) trivial []
def j37(X:z0i):Con Sg:=conS [.el C.ex] [.bool] fun a K=>X a.1 (fun q0=>K (q0,()))
theorem v63{Q0:W2}(h:AL [(128,Bg Q0)]):MT 308 (j37 (j3n Q0)):=mS h [(20,⟨bl 16327,[0],[],[sB 3,sB 4]⟩)]
theorem v64:MT 308 (j37 z5w):=v63 ⟨z08,trivial⟩
end Go.En
end
noncomputable section
open Go Go.RowKit Go.Fl Go.Fl.Lk Go.Fx
namespace Go.En
def w8r(X:j08):Con Sg:=conS [.el C.val] [.bool] fun a K=>X a.1 (fun q0=>K (q0,()))
theorem y1g:MT 253 (w8r q9s):=mS (l:=[]) trivial []
def z72(X:q1g):Con Sg:=conS [.str] [.int .i64,.int .i64] fun a K=>X a.1 (fun q0 q1=>K (q0,q1,()))
theorem w0z:MT 255 (z72 W6):=mS (l:=[]) trivial [(8,⟨bl 269,[],[],[(.slot 4,.str)]⟩),(11,⟨[0,4,8],[],[],[sI 5]⟩),(31,⟨bl 562915601547569,[],[],[sI 6,sI 7]⟩)]
def j1q(X:q5b):Con Sg:=conS [.str] [.el C.a3,.bool] fun a K=>X a.1 (fun q0 q1=>K (q0,q1,()))
theorem y1h{H9:q1g}(h:AL [(255,z72 H9)]):MT 195 (j1q (j09 H9)):=mS h [(9,⟨[0,2,4],[],[(1,(283,3)),(0,(283,3))],[sI 5,sI 6,(.cell 1 0,.int .i64),(.cell 1 1,.int .i64),(.cell 1 2,.int .i64),(.cell 0 0,.int .i64),(.cell 0 1,.int .i64),(.cell 0 2,.int .i64)]⟩),(15,⟨bl 19669,[1,0],[],[sI 5]⟩)]
theorem w8s:MT 195 (j1q q5c):=y1h ⟨w0z,trivial⟩
def w4u(X:z8v):Con Sg:=conS [.sl C.str] [.int .i64] fun a K=>X a.1 (fun q0=>K (q0,()))
theorem y6b{Qw:J0}(h:AL [(169,B4 Qw)]):MT 254 (w4u (j5x Qw)):=mS h [(9,⟨bl 225,[],[],[sI 3]⟩),(19,⟨bl 4073,[],[],[sI 4]⟩)]
theorem y6c:MT 254 (w4u z4g):=y6b ⟨q5t,trivial⟩
def z43(X:Bu):Con Sg:=conS [.el C.val] [.int .i64] fun a K=>X a.1 (fun q0=>K (q0,()))
theorem y1i{j12:j08}{Qw:J0}{Rg:q5b}{j7h:z8v}(h:AL [(253,w8r j12),(169,B4 Qw),(195,j1q Rg),(254,w4u j7h)]):MT 193 (z43 (j1a j12 Qw Rg j7h)):=mS h []
theorem j8x:MT 193 (z43 q2o):=y1i ⟨y1g,q5t,w8s,y6c,trivial⟩
def j6d(X:z8w):Con Sg:=conS [.el C.ex] [.int .i64] fun a K=>X a.1 (fun q0=>K (q0,()))
theorem y6d{z7l:z0i}{Q0:W2}{Qm:Ju}{Jb:Bu}(h:AL [(308,j37 z7l),(128,Bg Q0),(170,B5 Qm),(193,z43 Jb)]):MT 292 (j6d (w37 z7l Q0 Qm Jb)):=mS h [(17,⟨bl 134217667,[0],[],[sI 3]⟩),(31,⟨bl 9412450882139616968651,[0],[],[sI 4]⟩)]
theorem y6e:MT 292 (j6d z4h):=y6d ⟨v64,z08,q4f,j8x,trivial⟩
def w4v(X:q61):Con Sg:=conV [.el C.ex,.v,.ptr 3 [.v]] [.el C.ex,.int .i64,.ptr 3 [.int .i64]] [.int .i64] [.same,.same,.ptr 3 [.int .i64]] fun a K=>X a.1 a.2.1 a.2.2.1.1 (fun q0 q1=>K (q0,()) ((),(),(q1,()),()))
def w8t:PT:=Q5 ([(21,⟨bl 33553551,[1],[(0,(3,1))],[sI 8,(.cell 0 0,.int .i64)]⟩)]:LS)
theorem v65(j7i:z8w)(X:q61)(e:Ex)(depth:Int)(n:Int)(K:Int->Int->Prop):w38 j7i X e depth n K=fnV (((WL [(292,j6d j7i)]).with 264 (w4v X)).pl w8t) 4 264 ([.el C.ex,.v,.ptr 3 [.v]]:LP) ([.v]:LP) ([.el C.ex,.int .i64,.ptr 3 [.int .i64]]:LV) ([.int .i64]:LV) ([.same,.same,.ptr 3 [.int .i64]]:LV) (e,depth,(n,()),()) (fun r o=>K r.1 o.2.2.1.1):=by kernel_rfl
theorem y6f:MT 264 (w4v j5y):=by
 show MT _ (conV ([.el C.ex,.v,.ptr 3 [.v]]:LP) ([.el C.ex,.int .i64,.ptr 3 [.int .i64]]:LV) ([.int .i64]:LV) ([.same,.same,.ptr 3 [.int .i64]]:LV) fun a K=>j5y a.1 a.2.1 a.2.2.1.1 (fun q0 q1=>K (q0,()) ((),(),(q1,()),())));refine mR (l:=[(292,j6d z4h)]) (u:=4) (rk:=[.v]) (p:=w8t) ⟨y6e,trivial⟩ (by kernel_rfl) fun a K h X hX=> ?_
 exact h (fun e depth n K=>X (e,depth,(n,()),()) fun r o=>K r.1 o.2.2.1.1) (fun e depth n K hs=>hX (e,depth,(n,()),()) (fun r o=>K r.1 o.2.2.1.1) (Eq.mp (v65 z4h (fun e depth n K=>X (e,depth,(n,()),()) fun r o=>K r.1 o.2.2.1.1) e depth n K) hs))
def z9k(X:q3c):Con Sg:=conS [.el C.ex] [.int .i64] fun a K=>X a.1 (fun q0=>K (q0,()))
theorem y6g{j7j:q61}(h:AL [(264,w4v j7j)]):MT 211 (z9k (w39 j7j)):=mS h []
theorem w4w:MT 211 (z9k z4i):=y6g ⟨y6f,trivial⟩
def z9l(X:q62):Con Sg:=conS [.el C.seg] [.int .i64] fun a K=>X a.1 (fun q0=>K (q0,()))
theorem v3v{Qm:Ju}{Vw:R0}{j7k:j5v}{Uz:q3c}(h:AL [(170,B5 Qm),(209,z2h Vw),(210,v3u j7k),(211,z9k Uz)]):MT 171 (z9l (z8x Qm Vw j7k Uz)):=mS h []
theorem v3w:MT 171 (z9l z1x):=v3v ⟨q4f,j95,y6a,w4w,trivial⟩
def z6t(X:q3d):Con Sg:=conS [.sl C.seg] [.int .i64] fun a K=>X a.1 (fun q0=>K (q0,()))
theorem v0g{z2s:q62}(h:AL [(171,z9l z2s)]):MT 124 (z6t (z5x z2s)):=mS h [(9,⟨bl 225,[],[],[sI 3]⟩)]
theorem v0h:MT 124 (z6t q8o):=v0g ⟨v3w,trivial⟩
def z1c(X:R1):Con Sg:=conS [.el C.flag] [.int .i64] fun a K=>X a.1 (fun q0=>K (q0,()))
theorem w4x{Jb:Bu}(h:AL [(193,z43 Jb)]):MT 212 (z1c (z0j Jb)):=mS h [(15,⟨bl 8139,[0],[],[sI 4]⟩)]
theorem w4y:MT 212 (z1c q3e):=w4x ⟨j8x,trivial⟩
def q4g(X:Ur):Con Sg:=conS [.sl C.prereq] [.int .i64] fun a K=>X a.1 (fun q0=>K (q0,()))
theorem j6e{Qm:Ju}(h:AL [(170,B5 Qm)]):MT 213 (q4g (q3f Qm)):=mS h [(9,⟨bl 113,[],[],[sI 3]⟩)]
theorem j6f:MT 213 (q4g Rl):=j6e ⟨q4f,trivial⟩
end Go.En
end
noncomputable section
open Go Go.RowKit Go.Fl Go.Fl.Lk Go.Fx
namespace Go.En
def z9m(X:q63):Con Sg:=conS [.sl C.target,.int .i64] [.int .i64] fun a K=>X a.1 a.2.1 (fun q0=>K (q0,()))
theorem v3x{Qm:Ju}{Vw:R0}(h:AL [(170,B5 Qm),(209,z2h Vw)]):MT 214 (z9m (z8y Qm Vw)):=mS h [(9,⟨bl 899,[],[],[sI 5]⟩)]
theorem v3y:MT 214 (z9m z1y):=v3x ⟨q4f,j95,trivial⟩
def j8y(X:q9t):Con Sg:=conS [.sl C.range,.int .i64] [.int .i64] fun a K=>X a.1 a.2.1 (fun q0=>K (q0,()))
theorem w8u:MT 218 (j8y z4j):=mS (l:=[]) trivial [(11,⟨bl 899,[],[],[sI 5,sI 6]⟩)]
def j1r(X:q5d):Con Sg:=conS [.el C.serve,.int .i64] [.int .i64] fun a K=>X a.1 a.2.1 (fun q0=>K (q0,()))
theorem y1j{Qm:Ju}{Qw:J0}{q0d:q9t}(h:AL [(170,B5 Qm),(169,B4 Qw),(218,j8y q0d)]):MT 216 (j1r (j8b Qm Qw q0d)):=mS h []
theorem w8v:MT 216 (j1r z4k):=y1j ⟨q4f,q5t,w8u,trivial⟩
def j8z(X:z4l):Con Sg:=conS [.sl C.rule,.int .i64] [.int .i64] fun a K=>X a.1 a.2.1 (fun q0=>K (q0,()))
theorem y1k{Qm:Ju}{Uz:q3c}{q0e:q5d}(h:AL [(170,B5 Qm),(211,z9k Uz),(216,j1r q0e)]):MT 215 (j8z (j8c Qm Uz q0e)):=mS h [(9,⟨bl 3587,[],[],[sI 5]⟩),(19,⟨bl 33357347,[],[],[sI 6]⟩)]
theorem y1l:MT 215 (j8z j1b):=y1k ⟨q4f,w4w,w8v,trivial⟩
def w4z(X:z8z):Con Sg:=conS [.el C.flag] [.int .i64] fun a K=>X a.1 (fun q0=>K (q0,()))
theorem y6h{Qm:Ju}{q4w:R1}{Rs:Ur}{z2t:q63}{j13:z4l}{q0e:q5d}(h:AL [(170,B5 Qm),(212,z1c q4w),(213,q4g Rs),(214,z9m z2t),(215,j8z j13),(216,j1r q0e)]):MT 172 (w4z (w4a Qm q4w Rs z2t j13 q0e)):=mS h []
theorem y6i:MT 172 (w4z j5z):=y6h ⟨q4f,w4y,j6f,v3y,y1l,w8v,trivial⟩
def j80(X:z4m):Con Sg:=conS [.sl C.flag] [.int .i64] fun a K=>X a.1 (fun q0=>K (q0,()))
theorem y1m{j7l:z8z}(h:AL [(172,w4z j7l)]):MT 125 (j80 (j8d j7l)):=mS h [(9,⟨bl 225,[],[],[sI 3]⟩)]
theorem y1n:MT 125 (j80 j1c):=y1m ⟨y6i,trivial⟩
def j81(X:z4n):Con Sg:=conS [.el C.layer] [.int .i64] fun a K=>X a.1 (fun q0=>K (q0,()))
theorem y1o{Qm:Ju}{Qw:J0}(h:AL [(170,B5 Qm),(169,B4 Qw)]):MT 173 (j81 (j8e Qm Qw)):=mS h [(21,⟨bl 2199023255523,[0],[],[sI 3]⟩)]
theorem y1p:MT 173 (j81 j1d):=y1o ⟨q4f,q5t,trivial⟩
def j38(X:z0k):Con Sg:=conS [.sl C.layer] [.int .i64] fun a K=>X a.1 (fun q0=>K (q0,()))
theorem v66{j14:z4n}(h:AL [(173,j81 j14)]):MT 126 (j38 (j3o j14)):=mS h [(9,⟨bl 225,[],[],[sI 3]⟩)]
theorem v67:MT 126 (j38 z5y):=v66 ⟨y1p,trivial⟩
def w8w(X:j1e):Con Sg:=conS [.sl C.span] [.int .i64] fun a K=>X a.1 (fun q0=>K (q0,()))
theorem y1q:MT 217 (w8w j1f):=mS (l:=[]) trivial [(9,⟨bl 113,[],[],[sI 3]⟩)]
def z1d(X:R2):Con Sg:=conS [.el C.exper] [.int .i64] fun a K=>X a.1 (fun q0=>K (q0,()))
theorem w40{Qm:Ju}{Qw:J0}{j15:j1e}{q0d:q9t}{Uz:q3c}(h:AL [(170,B5 Qm),(169,B4 Qw),(217,w8w j15),(218,j8y q0d),(211,z9k Uz)]):MT 174 (z1d (z0l Qm Qw j15 q0d Uz)):=mS h []
theorem w41:MT 174 (z1d q3g):=w40 ⟨q4f,q5t,y1q,w8u,w4w,trivial⟩
def q72(X:Hy):Con Sg:=conS [.sl C.exper] [.int .i64] fun a K=>X a.1 (fun q0=>K (q0,()))
theorem w00{q4x:R2}(h:AL [(174,z1d q4x)]):MT 127 (q72 (q7u q4x)):=mS h [(9,⟨bl 225,[],[],[sI 3]⟩)]
theorem w01:MT 127 (q72 q1h):=w00 ⟨w41,trivial⟩
def q73(X:Hz):Con Sg:=conS [.el C.env] [.int .i64] fun a K=>X a.1 (fun q0=>K (q0,()))
theorem w02{q9c:q3a}{q9d:q3b}{q9e:q3d}{j16:z4m}{z7m:z0k}{q1s:Hy}(h:AL [(122,z6r q9c),(123,z6s q9d),(124,z6t q9e),(125,j80 j16),(126,j38 z7m),(127,q72 q1s)]):MT 80 (q73 (q7v q9c q9d q9e j16 z7m q1s)):=mS h []
theorem w03:MT 80 (q73 q1i):=w02 ⟨v0d,v0f,v0h,y1n,v67,w01,trivial⟩
end Go.En
end
noncomputable section
open Go Go.RowKit Go.Fl Go.Fl.Lk Go.Fx
namespace Go.En
def z44(X:Re):Con Sg:=conS [.sl C.seg] [.vec 9 C.str] fun a K=>X a.1 (fun q0=>K (q0,()))
theorem j1s:MT 81 (z44 q9u):=mS (l:=[]) trivial [(7,⟨[0,2],[],[],[(.slot 3,.own 9 C.str),sI 4]⟩)]
def q1n(X:Wv):Con Sg:=conS [.sl C.str,.str] [.bool] fun a K=>X a.1 a.2.1 (fun q0=>K (q0,()))
theorem q84:MT 47 (q1n U6):=mS (l:=[]) trivial [(5,⟨[0,1],[],[],[sI 5]⟩)]
def j6g(X:z4o):Con Sg:=conS [.sl C.decl,.str,.str] [.int .i64] fun a K=>X a.1 a.2.1 a.2.2.1 (fun q0=>K (q0,()))
theorem v3z:MT 129 (j6g q64):=mS (l:=[]) trivial [(5,⟨[0,1,2],[],[],[sI 7]⟩)]
def w42(X:j50):Con Sg:=conS [.int .i64,.el C.ex] [.bool] fun a K=>X a.1 a.2.1 (fun q0=>K (q0,()))
theorem y6j:MT 130 (w42 z0m):=mS (l:=[]) trivial [(11,⟨bl 8075,[0],[],[sI 5]⟩),(36,⟨bl 8795019288539,[0],[],[sB 46]⟩)]
def z9n(X:H0):Con Sg:=conV [.sl C.decl,.sl C.str,.el C.ex] [.sl C.decl,.sl C.str,.el C.ex] [.int .i64] [.same,.same,.same] fun a K=>X a.1 a.2.1 a.2.2.1 (fun q0=>K (q0,()) ((),(),(),()))
def w8x:PT:=Q5 ([(18,⟨bl 1047591,[0],[],[]⟩),(21,⟨bl 1047591,[0],[],[sI 8]⟩)]:LS)
theorem v68(Qx:Wv)(Q0:W2)(q09:z4o)(j0o:j50)(X:H0)(l:List Decl)(segments:List BA)(e:Ex)(K:Int->Prop):w4b Qx Q0 q09 j0o X l segments e K=fnV (((WL [(47,q1n Qx),(128,Bg Q0),(129,j6g q09),(130,w42 j0o)]).with 82 (z9n X)).pl w8x) 4 82 ([.sl C.decl,.sl C.str,.el C.ex]:LP) ([.v]:LP) ([.sl C.decl,.sl C.str,.el C.ex]:LV) ([.int .i64]:LV) ([.same,.same,.same]:LV) (l,segments,e,()) (fun r _=>K r.1):=by kernel_rfl
theorem w43:MT 82 (z9n z4p):=by
 show MT _ (conV ([.sl C.decl,.sl C.str,.el C.ex]:LP) ([.sl C.decl,.sl C.str,.el C.ex]:LV) ([.int .i64]:LV) ([.same,.same,.same]:LV) fun a K=>z4p a.1 a.2.1 a.2.2.1 (fun q0=>K (q0,()) ((),(),(),())));refine mR (l:=[(47,q1n U6),(128,Bg We),(129,j6g q64),(130,w42 z0m)]) (u:=4) (rk:=[.v]) (p:=w8x) ⟨q84,z08,v3z,y6j,trivial⟩ (by kernel_rfl) fun a K h X hX=> ?_
 exact h (fun l segments e K=>X (l,segments,e,()) fun r _=>K r.1) (fun l segments e K hs=>hX (l,segments,e,()) (fun r _=>K r.1) (Eq.mp (v68 U6 We q64 z0m (fun l segments e K=>X (l,segments,e,()) fun r _=>K r.1) l segments e K) hs))
def j1t(X:q54):Con Sg:=conS [.sl C.str,.str] [.sl C.str] fun a K=>X a.1 a.2.1 (fun q0=>K (q0,()))
theorem w2p:MT 104 (j1t q8p):=mS (l:=[]) trivial [(5,⟨[0,1,4],[],[],[sI 5]⟩)]
def z9o(X:Gx):Con Sg:=conV [.sl C.str,.el C.ex] [.sl C.str,.el C.ex] [.sl C.str] [.same,.same] fun a K=>X a.1 a.2.1 (fun q0=>K (q0,()) ((),(),()))
def j6h:PT:=Q5 ([(6,⟨[1,3,4],[0],[],[(.slot 0,.sl C.str)]⟩),(9,⟨[1,3,4],[0],[],[(.slot 0,.sl C.str),sI 5]⟩)]:LS)
theorem w67(Vk:q54)(X:Gx)(l:List BA)(e:Ex)(K:List BA->Prop):z1z Vk X l e K=fnV (((WL [(104,j1t Vk)]).with 176 (z9o X)).pl j6h) 4 176 ([.sl C.str,.el C.ex]:LP) ([.sl C.str]:LP) ([.sl C.str,.el C.ex]:LV) ([.sl C.str]:LV) ([.same,.same]:LV) (l,e,()) (fun r _=>K r.1):=by kernel_rfl
theorem v30:MT 176 (z9o q65):=by
 show MT _ (conV ([.sl C.str,.el C.ex]:LP) ([.sl C.str,.el C.ex]:LV) ([.sl C.str]:LV) ([.same,.same]:LV) fun a K=>q65 a.1 a.2.1 (fun q0=>K (q0,()) ((),(),())));refine mR (l:=[(104,j1t q8p)]) (u:=4) (rk:=[.sl C.str]) (p:=j6h) ⟨w2p,trivial⟩ (by kernel_rfl) fun a K h X hX=> ?_
 exact h (fun l e K=>X (l,e,()) fun r _=>K r.1) (fun l e K hs=>hX (l,e,()) (fun r _=>K r.1) (Eq.mp (w67 q8p (fun l e K=>X (l,e,()) fun r _=>K r.1) l e K) hs))
def z9p(X:q66):Con Sg:=conS [.el C.ex] [.sl C.str] fun a K=>X a.1 (fun q0=>K (q0,()))
theorem v32{z2u:Gx}(h:AL [(176,z9o z2u)]):MT 132 (z9p (z10 z2u)):=mS h []
theorem v33:MT 132 (z9p q2p):=v32 ⟨v30,trivial⟩
def z6u(X:q14):Con Sg:=conS [.sl C.seg] [.vec 238 C.edge] fun a K=>X a.1 (fun q0=>K (q0,()))
theorem v69{z2v:q66}(h:AL [(132,z9p z2v)]):MT 84 (z6u (z5z z2v)):=mS h [(7,⟨[0,2],[],[],[(.slot 3,.own 238 C.edge),sI 4]⟩),(15,⟨bl 518069,[],[],[(.slot 3,.own 238 C.edge),sI 6]⟩)]
theorem w44:MT 84 (z6u q15):=v69 ⟨v33,trivial⟩
def j82(X:z4q):Con Sg:=conS [.sl C.edge,.str] [.sl C.str] fun a K=>X a.1 a.2.1 (fun q0=>K (q0,()))
theorem y1r{Qx:Wv}{Vk:q54}(h:AL [(47,q1n Qx),(104,j1t Vk)]):MT 175 (j82 (j8f Qx Vk)):=mS h [(7,⟨bl 1555,[],[],[(.slot 5,.sl C.str),(.slot 6,.sl C.str)]⟩),(15,⟨bl 522899,[],[],[(.slot 5,.sl C.str),(.slot 6,.sl C.str),sI 8]⟩)]
theorem y1s:MT 175 (j82 j1g):=y1r ⟨q84,w2p,trivial⟩
def j39(X:z0n):Con Sg:=conS [.sl C.str,.sl C.edge] [.sl C.str] fun a K=>X a.1 a.2.1 (fun q0=>K (q0,()))
theorem v7a{j17:z4q}{Qx:Wv}{Vk:q54}(h:AL [(175,j82 j17),(47,q1n Qx),(104,j1t Vk)]):MT 131 (j39 (j3p j17 Qx Vk)):=mS h [(7,⟨[0,1,4],[],[],[(.slot 5,.sl C.str),sI 6]⟩)]
theorem v7b:MT 131 (j39 z50):=v7a ⟨y1s,q84,w2p,trivial⟩
def j4a(X:z0o):Con Sg:=conS [.sl C.str,.sl C.edge] [.str,.bool] fun a K=>X a.1 a.2.1 (fun q0 q1=>K (q0,q1,()))
theorem v7c{z7n:z0n}(h:AL [(131,j39 z7n)]):MT 83 (j4a (j3q z7n)):=mS h []
theorem v7d:MT 83 (j4a z52):=v7c ⟨v7b,trivial⟩
end Go.En
end
noncomputable section
open Go Go.RowKit Go.Fl Go.Fl.Lk Go.Fx
namespace Go.En
def q2v(X:Vs):Con Sg:=conS [.el C.env,.str] [.int .i64] fun a K=>X a.1 a.2.1 (fun q0=>K (q0,()))
theorem z2i:MT 56 (q2v Vt):=mS (l:=[]) trivial [(5,⟨[0,1,2],[0],[],[sI 5]⟩)]
def j83(X:z4r):Con Sg:=conS [.sl C.decl,.el C.serve] [.int .i64] fun a K=>X a.1 a.2.1 (fun q0=>K (q0,()))
theorem y1t{q09:z4o}(h:AL [(129,j6g q09)]):MT 133 (j83 (j8g q09)):=mS h []
theorem y1u:MT 133 (j83 j1h):=y1t ⟨v3z,trivial⟩
def z1e(X:R3):Con Sg:=conS [.el C.env,.el C.flag] [.int .i64] fun a K=>X a.1 a.2.1 (fun q0=>K (q0,()))
theorem w45{Jh:Re}{Zh:Vs}{U0:H0}{z5b:z4r}{Ji:Wf}(h:AL [(81,z44 Jh),(56,q2v Zh),(82,z9n U0),(133,j83 z5b),(66,B2 Ji)]):MT 85 (z1e (z0p Jh Zh U0 z5b Ji)):=mS h [(7,⟨bl 229423,[1,0],[],[sI 6,(.obj 2,.own 9 C.str)]⟩),(23,⟨bl 8355951,[1,0],[],[sI 8,(.obj 2,.own 9 C.str)]⟩)]
theorem w46:MT 85 (z1e q3h):=w45 ⟨j1s,z2i,w43,y1u,z42,trivial⟩
def j2y(X:q55):Con Sg:=conS [.el C.env] [.vec 9 C.str] fun a K=>X a.1 (fun q0=>K (q0,()))
theorem w68:MT 86 (j2y z3e):=mS (l:=[]) trivial [(7,⟨[0,1,2],[0],[],[(.slot 3,.own 9 C.str),sI 4]⟩)]
def z9q(X:q3i):Con Sg:=conS [.el C.env] [.vec 238 C.edge] fun a K=>X a.1 (fun q0=>K (q0,()))
theorem w47:MT 87 (z9q q3j):=mS (l:=[]) trivial [(7,⟨[0,1,2],[0],[],[(.slot 3,.own 238 C.edge),sI 4]⟩),(13,⟨bl 2007,[],[],[(.slot 3,.own 238 C.edge),sI 5]⟩)]
def z9r(X:q67):Con Sg:=conS [.sl C.span,.sl C.span] [.vec 157 C.span] fun a K=>X a.1 a.2.1 (fun q0=>K (q0,()))
theorem v34{Jm:q0y}{Q7:W5}(h:AL [(112,z9j Jm),(113,q5s Q7)]):MT 134 (z9r (z81 Jm Q7)):=mS h [(7,⟨bl 3955,[1],[],[sI 7,(.obj 0,.own 4 C.bool)]⟩)]
theorem v35:MT 134 (z9r z11):=v34 ⟨j6b,z1b,trivial⟩
def Bh(X:Wu):Con Sg:=conS [.el C.env,.int .i64] [.int .i64] fun a K=>X a.1 a.2.1 (fun q0=>K (q0,()))
theorem z9s{Qt:Jt}{Zh:Vs}{Jh:Re}{U0:H0}{z2w:q67}(h:AL [(96,B3 Qt),(56,q2v Zh),(81,z44 Jh),(82,z9n U0),(134,z9r z2w)]):MT 88 (Bh (R4 Qt Zh Jh U0 z2w)):=mS h [(13,⟨bl 17179836647,[1,0],[],[sI 8]⟩),(35,⟨bl 151078797935433964553191,[1,0],[],[(.slot 10,.own 157 C.span),sI 11,(.obj 4,.own 9 C.str)]⟩),(51,⟨bl 159723976762087930960904772882407,[1,0],[],[sI 13,(.obj 9,.own 157 C.span),(.obj 6,.own 157 C.span),(.obj 4,.own 9 C.str)]⟩)]
theorem z9t:MT 88 (Bh Us):=z9s ⟨q4d,z2i,j1s,w43,v35,trivial⟩
def q5u(X:Gi):Con Sg:=conS [.el C.env] [.str,.int .i64] fun a K=>X a.1 (fun q0 q1=>K (q0,q1,()))
theorem j84{q1t:Hz}{Jh:Re}{U0:H0}{Ho:q14}{z1r:z0o}{q4y:R3}{q6o:q55}{q4z:q3i}{U1:Wu}(h:AL [(80,q73 q1t),(81,z44 Jh),(82,z9n U0),(84,z6u Ho),(83,j4a z1r),(85,z1e q4y),(86,j2y q6o),(87,z9q q4z),(88,Bh U1)]):MT 49 (q5u (q5e q1t Jh U0 Ho z1r q4y q6o q4z U1)):=mS h [(13,⟨bl 15663155,[0],[],[sI 6,(.obj 1,.own 9 C.str)]⟩),(33,⟨bl 294571444427585160051,[0],[],[sI 10,(.obj 1,.own 9 C.str),(.obj 4,.own 238 C.edge)]⟩),(51,⟨bl 10121397798090180814242575234931,[0],[],[sI 14,(.obj 8,.own 9 C.str),(.obj 9,.own 238 C.edge),(.obj 4,.own 238 C.edge),(.obj 1,.own 9 C.str)]⟩)]
theorem j85:MT 49 (q5u Bv):=j84 ⟨w03,j1s,w43,w44,v7d,w46,w68,w47,z9t,trivial⟩
def j4b(X:z0q):Con Sg:=conS [.el C.env] [.bool] fun a K=>X a.1 (fun q0=>K (q0,()))
theorem v7e{q0f:Gi}(h:AL [(49,q5u q0f)]):MT 20 (j4b (j3r q0f)):=mS h []
theorem v7f:MT 20 (j4b q16):=v7e ⟨j85,trivial⟩
def z1f(X:R5):Con Sg:=conV [.ptr 92 [.c,.v],.v] [.ptr 92 [.sl C.u8,.int .i64],.int .i64] [.el C.env] [.ptr 92 [.same,.int .i64],.same] fun a K=>X a.1.1 a.1.2.1 a.2.1 (fun q0 q1=>K (q0,()) (((),q1,()),(),()))
theorem w48{Q6:Vp}{z2x:q6z}{Qb:Zn}{q4r:j02}{Jr:q22}{q6j:z5o}{j0p:z8r}{Bl:q23}{q6k:q52}{Ji:Wf}{j7m:z8t}{Wz:q21}{q4s:q98}{j18:z4f}{Vi:q8j}{Hn:q13}{z7o:z0h}{q2l:z0q}(h:AL [(29,q7h Q6),(33,z9e z2x),(30,Ud Qb),(34,w97 q4r),(64,z9d Jr),(62,w2m q6j),(13,w4i j0p),(65,z9f Bl),(63,w2o q6k),(66,B2 Ji),(36,w4r j7m),(31,j1p Wz),(39,j59 q4s),(67,j8w j18),(32,j58 Vi),(68,z6q Hn),(69,j36 z7o),(20,j4b q2l)]):MT 11 (z1f (z0r Q6 z2x Qb q4r Jr q6j j0p Bl q6k Ji j7m Wz q4s j18 Vi Hn z7o q2l)):=mP (rk:=[.el C.env]) h [(8,⟨bl 3123,[1],[(3,(46,8)),(0,(92,2))],[(.cell 3 0,.str),(.cell 3 1,.str),(.cell 3 2,.int .i64),(.cell 0 1,.int .i64),(.obj 2,.own 111 C.decl)]⟩),(15,⟨bl 98569331,[2,1],[(0,(92,2)),(3,(46,8))],[sI 7,(.cell 0 1,.int .i64),(.cell 3 5,.own 34 C.flag),(.obj 10,.own 144 C.seg),(.obj 12,.own 102 C.layer),(.obj 13,.own 68 C.exper)]⟩),(36000009,⟨bl 1073218007,[22,21],[(0,(92,2)),(23,(34,13))],[sI 9,(.cell 0 1,.int .i64),(.cell 23 2,.own 72 C.val),(.obj 13,.own 68 C.exper),(.obj 12,.own 102 C.layer),(.obj 17,.own 34 C.flag),(.obj 10,.own 144 C.seg)]⟩),(36000019,⟨bl 545366356788183,[22,21],[(23,(34,13)),(0,(92,2))],[sI 10,(.cell 23 5,.own 62 C.prereq),(.cell 0 1,.int .i64),(.obj 10,.own 144 C.seg),(.obj 17,.own 34 C.flag),(.obj 12,.own 102 C.layer),(.obj 13,.own 68 C.exper),(.obj 27,.own 72 C.val)]⟩),(36000029,⟨bl 17996814912849879,[22,21],[(23,(34,13)),(0,(92,2))],[sI 11,(.cell 23 6,.own 116 C.target),(.cell 0 1,.int .i64),(.obj 27,.own 72 C.val),(.obj 13,.own 68 C.exper),(.obj 12,.own 102 C.layer),(.obj 17,.own 34 C.flag),(.obj 10,.own 144 C.seg),(.obj 34,.own 62 C.prereq)]⟩),(36000038,⟨bl 19688565898261847554177638359,[23],[(51,(116,3)),(0,(92,2))],[(.cell 51 0,.str),(.cell 0 1,.int .i64),(.obj 50,.own 9 C.str),(.obj 34,.own 62 C.prereq),(.obj 10,.own 144 C.seg),(.obj 17,.own 34 C.flag),(.obj 12,.own 102 C.layer),(.obj 13,.own 68 C.exper),(.obj 27,.own 72 C.val),(.obj 42,.own 116 C.target)]⟩),(36000060,⟨bl 324518589926201333218846174621655,[22,21],[(0,(92,2)),(23,(34,13))],[(.cell 0 1,.int .i64),(.cell 23 7,.own 138 C.rule),(.obj 50,.own 9 C.str),(.obj 34,.own 62 C.prereq),(.obj 10,.own 144 C.seg),(.obj 17,.own 34 C.flag),(.obj 12,.own 102 C.layer),(.obj 13,.own 68 C.exper),(.obj 27,.own 72 C.val),(.obj 42,.own 116 C.target)]⟩),(36000047,⟨bl 324518589926201333218846174621655,[],[(0,(92,2)),(23,(34,13))],[sI 14,(.cell 0 1,.int .i64),(.cell 23 7,.own 138 C.rule),(.obj 50,.own 9 C.str),(.obj 34,.own 62 C.prereq),(.obj 10,.own 144 C.seg),(.obj 17,.own 34 C.flag),(.obj 12,.own 102 C.layer),(.obj 13,.own 68 C.exper),(.obj 27,.own 72 C.val),(.obj 42,.own 116 C.target)]⟩),(25,⟨bl 387030204812531,[2,1],[(0,(92,2)),(3,(46,8))],[sI 8,(.cell 0 1,.int .i64),(.cell 3 6,.own 102 C.layer),(.obj 13,.own 68 C.exper),(.obj 10,.own 144 C.seg),(.obj 17,.own 34 C.flag)]⟩),(35,⟨bl 811665570522726403571,[2,1],[(0,(92,2)),(3,(46,8))],[sI 9,(.cell 0 1,.int .i64),(.cell 3 7,.own 68 C.exper),(.obj 17,.own 34 C.flag),(.obj 10,.own 144 C.seg),(.obj 24,.own 102 C.layer)]⟩),(38000010,⟨bl 140737488348975,[37,36,35],[(40,(68,12)),(0,(92,2))],[(.cell 40 4,.int .i64),(.cell 0 1,.int .i64),(.obj 39,.own 162 C.range),(.obj 31,.own 68 C.exper),(.obj 24,.own 102 C.layer),(.obj 17,.own 34 C.flag),(.obj 10,.own 144 C.seg)]⟩),(38000014,⟨bl 140737488348975,[37,36,35],[(40,(68,12)),(0,(92,2))],[(.cell 40 7,.int .i64),(.cell 40 8,.str),(.cell 40 9,.str),(.cell 40 10,.sl C.val),(.cell 40 11,.sl C.ex),(.cell 0 1,.int .i64),(.obj 10,.own 144 C.seg),(.obj 17,.own 34 C.flag),(.obj 24,.own 102 C.layer),(.obj 31,.own 68 C.exper),(.obj 39,.own 162 C.range)]⟩)]
theorem w49:MT 11 (z1f q3k):=w48 ⟨z2e,v3o,Hg,v9w,w4g,v9x,y54,w4h,v9y,z42,y58,w2l,v3p,y1e,w96,w4t,v62,v7f,trivial⟩
def q85(X:Bw):Con Sg:=conS [.int .i64] [.bool] fun a K=>X a.1 (fun q0=>K (q0,()))
theorem j6i:MT 245 (q85 G4):=mS (l:=[]) trivial []
def W9(X:Zf):Con Sg:=conS [.sl C.str,.sl C.str] [.bool] fun a K=>X a.1 a.2.1 (fun q0=>K (q0,()))
theorem H7:MT 279 (W9 Z1):=mS (l:=[]) trivial [(9,⟨bl 8131,[],[],[sI 13]⟩)]
end Go.En
end
noncomputable section
open Go Go.RowKit Go.Fl Go.Fl.Lk Go.Fx
namespace Go.En
def z2j(X:q68):Con Sg:=conS [.el C.val,.el C.val] [.bool] fun a K=>X a.1 a.2.1 (fun q0=>K (q0,()))
theorem v36{Qr:Zf}(h:AL [(279,W9 Qr)]):MT 310 (z2j (z82 Qr)):=mS h []
theorem v38:MT 310 (z2j q2q):=v36 ⟨H7,trivial⟩
def z6v(X:R6):Con Sg:=conV [.el C.ex,.el C.ex] [.el C.ex,.el C.ex] [.bool] [.same,.same] fun a K=>X a.1 a.2.1 (fun q0=>K (q0,()) ((),(),()))
def j96:PT:=Q5 ([(310000009,⟨bl 130055,[],[],[sI 17]⟩),(312000009,⟨bl 130055,[],[],[sI 17]⟩)]:LS)
theorem v0i(z2y:q68)(X:R6)(a:Ex)(b:Ex)(K:Bool->Prop):j3s z2y X a b K=fnV (((WL [(310,z2j z2y)]).with 294 (z6v X)).pl j96) 4 294 ([.el C.ex,.el C.ex]:LP) ([.v]:LP) ([.el C.ex,.el C.ex]:LV) ([.bool]:LV) ([.same,.same]:LV) (a,b,()) (fun r _=>K r.1):=by kernel_rfl
theorem v7g:MT 294 (z6v q17):=by
 show MT _ (conV ([.el C.ex,.el C.ex]:LP) ([.el C.ex,.el C.ex]:LV) ([.bool]:LV) ([.same,.same]:LV) fun a K=>q17 a.1 a.2.1 (fun q0=>K (q0,()) ((),(),())));refine mR (l:=[(310,z2j q2q)]) (u:=4) (rk:=[.v]) (p:=j96) ⟨v38,trivial⟩ (by kernel_rfl) fun a K h X hX=> ?_
 exact h (fun a b K=>X (a,b,()) fun r _=>K r.1) (fun a b K hs=>hX (a,b,()) (fun r _=>K r.1) (Eq.mp (v0i q2q (fun a b K=>X (a,b,()) fun r _=>K r.1) a b K) hs))
def z3t(X:Vu):Con Sg:=conV [.own 66 C.ex,.el C.ex] [.vec 66 C.ex,.el C.ex] [.vec 66 C.ex] [.same,.same] fun a K=>X a.1 a.2.1 (fun q0=>K (q0,()) ((),(),()))
def z9u:PT:=Q5 ([(6,⟨[1,3,4],[1],[],[(.slot 0,.own 66 C.ex)]⟩),(9,⟨bl 234881050,[1],[],[(.slot 0,.own 66 C.ex),sI 28]⟩),(245000005,⟨bl 195,[0],[],[sI 8]⟩)]:LS)
theorem w04(Vl:Bw)(z1s:R6)(X:Vu)(l:List Ex)(e:Ex)(K:List Ex->Prop):z3f Vl z1s X l e K=fnV (((WL [(245,q85 Vl),(294,z6v z1s)]).with 266 (z3t X)).pl z9u) 4 266 ([.own 66 C.ex,.el C.ex]:LP) ([.own 66 C.ex]:LP) ([.vec 66 C.ex,.el C.ex]:LV) ([.vec 66 C.ex]:LV) ([.same,.same]:LV) (l,e,()) (fun r _=>K r.1):=by kernel_rfl
theorem w69:MT 266 (z3t q56):=by
 show MT _ (conV ([.own 66 C.ex,.el C.ex]:LP) ([.vec 66 C.ex,.el C.ex]:LV) ([.vec 66 C.ex]:LV) ([.same,.same]:LV) fun a K=>q56 a.1 a.2.1 (fun q0=>K (q0,()) ((),(),())));refine mR (l:=[(245,q85 G4),(294,z6v q17)]) (u:=4) (rk:=[.own 66 C.ex]) (p:=z9u) ⟨j6i,v7g,trivial⟩ (by kernel_rfl) fun a K h X hX=> ?_
 exact h (fun l e K=>X (l,e,()) fun r _=>K r.1) (fun l e K hs=>hX (l,e,()) (fun r _=>K r.1) (Eq.mp (w04 G4 q17 (fun l e K=>X (l,e,()) fun r _=>K r.1) l e K) hs))
def Hh(X:Wo):Con Sg:=conS [.el C.val] [.el C.val] fun a K=>X a.1 (fun q0=>K (q0,()))
theorem q86:MT 93 (Hh J3):=mS (l:=[]) trivial []
def z9v(X:Gy):Con Sg:=conV [.el C.ex] [.el C.ex] [.el C.ex] [.same] fun a K=>X a.1 (fun q0=>K (q0,()) ((),()))
def j6j:PT:=Q5 ([(296000007,⟨bl 7955,[],[],[(.slot 5,.own 72 C.val),sI 13]⟩),(266000007,⟨bl 7955,[],[],[(.slot 5,.own 66 C.ex),sI 13]⟩)]:LS)
theorem w7a(Q8:Wo)(X:Gy)(e:Ex)(K:Ex->Prop):z83 Q8 X e K=fnV (((WL [(93,Hh Q8)]).with 267 (z9v X)).pl j6j) 4 267 ([.el C.ex]:LP) ([.el C.ex]:LP) ([.el C.ex]:LV) ([.el C.ex]:LV) ([.same]:LV) (e,()) (fun r _=>K r.1):=by kernel_rfl
theorem v39:MT 267 (z9v z13):=by
 show MT _ (conV ([.el C.ex]:LP) ([.el C.ex]:LV) ([.el C.ex]:LV) ([.same]:LV) fun a K=>z13 a.1 (fun q0=>K (q0,()) ((),())));refine mR (l:=[(93,Hh J3)]) (u:=4) (rk:=[.el C.ex]) (p:=j6j) ⟨q86,trivial⟩ (by kernel_rfl) fun a K h X hX=> ?_
 exact h (fun e K=>X (e,()) fun r _=>K r.1) (fun e K hs=>hX (e,()) (fun r _=>K r.1) (Eq.mp (w7a J3 (fun e K=>X (e,()) fun r _=>K r.1) e K) hs))
def z3u(X:q0z):Con Sg:=conS [.el C.ex] [.vec 66 C.ex] fun a K=>X a.1 (fun q0=>K (q0,()))
theorem w7b{q6p:Vu}{z2z:Gy}(h:AL [(266,z3t q6p),(267,z9v z2z)]):MT 219 (z3u (z3g q6p z2z)):=mS h [(266000007,⟨bl 7955,[1],[],[(.slot 5,.own 66 C.ex),sI 13]⟩)]
theorem w7c:MT 219 (z3u z3h):=w7b ⟨w69,v39,trivial⟩
def Vh(X:Z5):Con Sg:=conV [.own 9 C.str] [.vec 9 C.str] [] [.vec 9 C.str] fun a K=>X a.1 (fun q0=>K () (q0,()))
theorem Rq:MT 137 (Vh J1):=⟨entB (by kernel_rfl),q82⟩
def Gt(X:Wg):Con Sg:=conV [.own 9 C.str] [.vec 9 C.str] [.vec 9 C.str] [.same] fun a K=>X a.1 (fun q0=>K (q0,()) ((),()))
theorem q5v:MT 220 (Gt Wh):=⟨entB (by kernel_rfl),q5n⟩
def q74(X:H1):Con Sg:=conS [.el C.ex] [.sl C.str] fun a K=>X a.1 (fun q0=>K (q0,()))
theorem w05{q6q:q0z}{Qu:Z5}{Jj:Wg}(h:AL [(219,z3u q6q),(137,Vh Qu),(220,Gt Jj)]):MT 177 (q74 (q7w q6q Qu Jj)):=mS h [(7,⟨bl 455,[1,0],[],[(.slot 3,.own 9 C.str),sI 9]⟩)]
theorem w06:MT 177 (q74 q1j):=w05 ⟨w7c,Rq,q5v,trivial⟩
def j6k(X:z54):Con Sg:=conV [.sl C.str,.sl C.edge] [.sl C.str,.sl C.edge] [.vec 9 C.str,.int .i64] [.same,.same] fun a K=>X a.1 a.2.1 (fun q0 q1=>K (q0,q1,()) ((),(),()))
theorem v0j:MT 178 (j6k P_graph_Order):=⟨entB (by kernel_rfl),w95⟩
def z1g(X:R7):Con Sg:=conS [.sl C.seg] [.vec 9 C.str,.int .i64] fun a K=>X a.1 (fun q0 q1=>K (q0,q1,()))
theorem w5a{q1u:H1}{q9f:z54}(h:AL [(177,q74 q1u),(178,j6k q9f)]):MT 135 (z1g (z0s q1u q9f)):=mS h [(9,⟨bl 3085,[],[],[(.slot 4,.own 9 C.str),(.slot 5,.own 238 C.edge),sI 12]⟩),(17,⟨bl 33488029,[6,5,3],[],[(.slot 5,.own 238 C.edge),sI 25]⟩)]
theorem w5b:MT 135 (z1g q3l):=w5a ⟨w06,v0j,trivial⟩
def z1h(X:Gj):Con Sg:=conS [.el C.subj,.str] [.int .i64] fun a K=>X a.1 a.2.1 (fun q0=>K (q0,()))
theorem z9w:MT 77 (z1h R8):=mS (l:=[]) trivial [(119000005,⟨bl 195,[1],[],[sI 8]⟩)]
end Go.En
end
noncomputable section
open Go Go.RowKit Go.Fl Go.Fl.Lk Go.Fx
namespace Go.En
def q5w(X:Gk):Con Sg:=conS [.el C.attr] [.el C.attr] fun a K=>X a.1 (fun q0=>K (q0,()))
theorem j86{Q8:Wo}(h:AL [(93,Hh Q8)]):MT 121 (q5w (q5f Q8)):=mS h []
theorem j87:MT 121 (q5w Bx):=j86 ⟨q86,trivial⟩
def z1i(X:R9):Con Sg:=conS [.el C.ctx] [.el C.ctx] fun a K=>X a.1 (fun q0=>K (q0,()))
theorem w5c{q0g:Gk}(h:AL [(121,q5w q0g)]):MT 78 (z1i (z0t q0g)):=mS h [(121000007,⟨bl 7955,[],[],[(.slot 5,.own 160 C.attr),sI 13]⟩)]
theorem w5d:MT 78 (z1i q3m):=w5c ⟨j87,trivial⟩
def U4(X:Z3):Con Sg:=conS [.el C.subj,.str] [.el C.ctx,.bool] fun a K=>X a.1 a.2.1 (fun q0 q1=>K (q0,q1,()))
theorem w7d{J8:Gj}{q40:R9}(h:AL [(77,z1h J8),(78,z1i q40)]):MT 44 (U4 (z3i J8 q40)):=mS h []
theorem q06:MT 44 (U4 Vv):=w7d ⟨z9w,w5d,trivial⟩
def q1o(X:W7):Con Sg:=conS [.el C.subj,.str,.str] [.el C.val,.bool] fun a K=>X a.1 a.2.1 a.2.2.1 (fun q0 q1=>K (q0,q1,()))
theorem w07{J8:Gj}{Q8:Wo}(h:AL [(77,z1h J8),(93,Hh Q8)]):MT 71 (q1o (q7x J8 Q8)):=mS h [(17,⟨bl 1912468303,[2,0],[(1,(72,4))],[sI 31,(.cell 1 0,.int .i64),(.cell 1 1,.int .i64),(.cell 1 2,.str),(.cell 1 3,.sl C.str)]⟩)]
theorem z73:MT 71 (q1o H2):=w07 ⟨z9w,q86,trivial⟩
def z6w(X:q3n):Con Sg:=conS [.el C.val,.el C.val] [.bool] fun a K=>X a.1 a.2.1 (fun q0=>K (q0,()))
theorem v0k{Qr:Zf}(h:AL [(279,W9 Qr)]):MT 248 (z6w (z55 Qr)):=mS h []
theorem v0l:MT 248 (z6w q3o):=v0k ⟨H7,trivial⟩
def Hi(X:Jg):Con Sg:=conS [.str,.str] [.bool] fun a K=>X a.1 a.2.1 (fun q0=>K (q0,()))
theorem q4h:MT 280 (Hi J4):=mS (l:=[]) trivial []
def q2f(X:V5):Con Sg:=conS [.str,.str] [.bool] fun a K=>X a.1 a.2.1 (fun q0=>K (q0,()))
theorem j4c{Q9:Jg}(h:AL [(280,Hi Q9)]):MT 249 (q2f (q18 Q9)):=mS h []
theorem j4d:MT 249 (q2f G5):=j4c ⟨q4h,trivial⟩
def q4i(X:Vg):Con Sg:=conS [.str,.str] [.bool] fun a K=>X a.1 a.2.1 (fun q0=>K (q0,()))
theorem z6x:MT 281 (q4i G6):=mS (l:=[]) trivial []
def q2g(X:V6):Con Sg:=conS [.str,.str] [.bool] fun a K=>X a.1 a.2.1 (fun q0=>K (q0,()))
theorem j4e{Vm:Vg}(h:AL [(281,q4i Vm)]):MT 250 (q2g (q19 Vm)):=mS h []
theorem j4f:MT 250 (q2g G7):=j4e ⟨z6x,trivial⟩
def z2k(X:q3p):Con Sg:=conV [.v,.v] [.str,.str] [.bool] [.same,.same] fun a K=>X a.1 a.2.1 (fun q0=>K (q0,()) ((),(),()))
theorem j6l:MT 251 (z2k q3q):=⟨entB (by kernel_rfl),j57⟩
def j6m(X:q8q):Con Sg:=conS [.el C.val] [.bool] fun a K=>X a.1 (fun q0=>K (q0,()))
theorem v0m:MT 299 (j6m q8r):=mS (l:=[]) trivial [(8,⟨bl 31,[0],[],[sB 5]⟩),(14,⟨bl 63,[0],[],[sB 17]⟩)]
def z9x(X:q69):Con Sg:=conS [.str] [.bool] fun a K=>X a.1 (fun q0=>K (q0,()))
theorem v4a{Z6:Up}(h:AL [(206,q4e Z6)]):MT 300 (z9x (z84 Z6)):=mS h [(9,⟨bl 32737,[],[],[(.obj 0,.siter)]⟩)]
theorem v4b:MT 300 (z9x z14):=v4a ⟨z2g,trivial⟩
end Go.En
end
noncomputable section
open Go Go.RowKit Go.Fl Go.Fl.Lk Go.Fx
namespace Go.En
def z9y(X:z0u):Con Sg:=conV [.v,.v] [.str,.str] [.vec 9 C.str] [.same,.same] fun a K=>X a.1 a.2.1 (fun q0=>K (q0,()) ((),(),()))
theorem w5e:MT 302 (z9y z0v):=⟨entB (by kernel_rfl),w4f⟩
def Hj(X:J5):Con Sg:=conS [.str,.str] [.str,.bool] fun a K=>X a.1 a.2.1 (fun q0 q1=>K (q0,q1,()))
theorem z6y{Q9:Jg}(h:AL [(280,Hi Q9)]):MT 325 (Hj (G8 Q9)):=mS h []
theorem z6z:MT 325 (Hj G9):=z6y ⟨q4h,trivial⟩
def q2h(X:V7):Con Sg:=conS [.str,.str] [.str,.bool] fun a K=>X a.1 a.2.1 (fun q0 q1=>K (q0,q1,()))
theorem j4g{Vn:J5}(h:AL [(325,Hj Vn)]):MT 317 (q2h (q2a Vn)):=mS h []
theorem j4h:MT 317 (q2h Ha):=j4g ⟨z6z,trivial⟩
def j2z(X:z3j):Con Sg:=conV [.v] [.str] [.int .i64,.ifc] [.same] fun a K=>X a.1 (fun q0 q1=>K (q0,q1,()) ((),()))
theorem w7e:MT 318 (j2z q57):=⟨entB (by kernel_rfl),w6z⟩
def q4j(X:Ut):Con Sg:=conS [.str] [.int .i64,.int .i64] fun a K=>X a.1 (fun q0 q1=>K (q0,q1,()))
theorem j6n{Hq:V7}{q1a:z3j}(h:AL [(317,q2h Hq),(318,j2z q1a)]):MT 303 (q4j (q3r Hq q1a)):=mS h [(11,⟨bl 4294966321,[],[],[(.obj 0,.siter)]⟩)]
theorem j6o:MT 303 (q4j Rm):=j6n ⟨j4h,w7e,trivial⟩
def q87(X:Hb):Con Sg:=conS [.str] [.el C.a3,.bool] fun a K=>X a.1 (fun q0 q1=>K (q0,q1,()))
theorem v0n{q41:z0u}{Rt:Ut}(h:AL [(302,z9y q41),(303,q4j Rt)]):MT 286 (q87 (z56 q41 Rt)):=mS h [(13,⟨bl 228405,[2],[(1,(283,3)),(0,(283,3))],[sI 18,(.cell 1 0,.int .i64),(.cell 1 1,.int .i64),(.cell 1 2,.int .i64),(.cell 0 0,.int .i64),(.cell 0 1,.int .i64),(.cell 0 2,.int .i64)]⟩)]
theorem j6p:MT 286 (q87 q3s):=v0n ⟨w5e,j6o,trivial⟩
def z60(X:q3t):Con Sg:=conS [.el C.val] [.int .i64] fun a K=>X a.1 (fun q0=>K (q0,()))
theorem v0o{q9g:q8q}{q7n:q69}{Wq:Hb}(h:AL [(299,j6m q9g),(300,z9x q7n),(286,q87 Wq)]):MT 283 (z60 (z57 q9g q7n Wq)):=mS h [(47,⟨bl 73643289922748022531,[0],[],[sI 66]⟩),(59,⟨bl 132521265739157328625411,[0],[],[sI 77]⟩)]
theorem v0p:MT 283 (z60 q8s):=v0o ⟨v0m,v4b,j6p,trivial⟩
def z1j(X:Ba):Con Sg:=conS [.el C.val,.el C.val] [.int .i64,.int .i64] fun a K=>X a.1 a.2.1 (fun q0 q1=>K (q0,q1,()))
theorem w5f{q42:q3t}{Wq:Hb}(h:AL [(283,z60 q42),(286,q87 Wq)]):MT 252 (z1j (z0w q42 Wq)):=mS h [(288000005,⟨bl 1539,[],[],[sI 11]⟩)]
theorem w5g:MT 252 (z1j Bb):=w5f ⟨v0p,j6p,trivial⟩
def q88(X:q3u):Con Sg:=conS [.el C.subj,.el C.ex] [.bool] fun a K=>X a.1 a.2.1 (fun q0=>K (q0,()))
theorem v0q{Jx:W7}{Vl:Bw}{q0h:q3n}{Hr:V5}{Hs:V6}{Ru:q3p}{Bm:Ba}(h:AL [(71,q1o Jx),(245,q85 Vl),(248,z6w q0h),(249,q2f Hr),(250,q2g Hs),(251,z2k Ru),(252,z1j Bm)]):MT 192 (q88 (z58 Jx Vl q0h Hr Hs Ru Bm)):=mS h [(279000005,⟨bl 195,[2],[],[sI 8]⟩),(80000005,⟨bl 195,[],[],[sI 8]⟩)]
theorem v0r:MT 192 (q88 By):=v0q ⟨z73,j6i,v0l,j4d,j4f,j6l,w5g,trivial⟩
def B6(X:Jv):Con Sg:=conV [.el C.subj,.sl C.str,.el C.ex] [.el C.subj,.sl C.str,.el C.ex] [.bool] [.same,.same,.same] fun a K=>X a.1 a.2.1 a.2.2.1 (fun q0=>K (q0,()) ((),(),(),()))
def j20:PT:=Q5 ([(245000005,⟨bl 195,[1,0],[],[sI 8]⟩),(80000005,⟨bl 195,[],[],[sI 8]⟩)]:LS)
theorem w5h(q9h:q3u)(X:Jv)(s:Subj)(in_:List BA)(e:Ex)(K:Bool->Prop):z59 q9h X s in_ e K=fnV (((WL [(192,q88 q9h)]).with 141 (B6 X)).pl j20) 4 141 ([.el C.subj,.sl C.str,.el C.ex]:LP) ([.v]:LP) ([.el C.subj,.sl C.str,.el C.ex]:LV) ([.bool]:LV) ([.same,.same,.same]:LV) (s,in_,e,()) (fun r _=>K r.1):=by kernel_rfl
theorem z61:MT 141 (B6 Uu):=by
 show MT _ (conV ([.el C.subj,.sl C.str,.el C.ex]:LP) ([.el C.subj,.sl C.str,.el C.ex]:LV) ([.bool]:LV) ([.same,.same,.same]:LV) fun a K=>Uu a.1 a.2.1 a.2.2.1 (fun q0=>K (q0,()) ((),(),(),())));refine mR (l:=[(192,q88 By)]) (u:=4) (rk:=[.v]) (p:=j20) ⟨v0r,trivial⟩ (by kernel_rfl) fun a K h X hX=> ?_
 exact h (fun s in_ e K=>X (s,in_,e,()) fun r _=>K r.1) (fun s in_ e K hs=>hX (s,in_,e,()) (fun r _=>K r.1) (Eq.mp (w5h By (fun s in_ e K=>X (s,in_,e,()) fun r _=>K r.1) s in_ e K) hs))
def q4k(X:Uv):Con Sg:=conS [.el C.seg,.el C.subj,.sl C.str] [.bool] fun a K=>X a.1 a.2.1 a.2.2.1 (fun q0=>K (q0,()))
theorem j6q{Qo:Z3}{Zi:Jv}(h:AL [(44,U4 Qo),(141,B6 Zi)]):MT 136 (q4k (q3v Qo Zi)):=mS h [(80000005,⟨bl 195,[],[],[sI 8]⟩)]
theorem j6r:MT 136 (q4k Rn):=j6q ⟨q06,z61,trivial⟩
def B7(X:Wi):Con Sg:=conS [.sl C.seg,.el C.subj] [.vec 9 C.str] fun a K=>X a.1 a.2.1 (fun q0=>K (q0,()))
theorem j88{q43:R7}{Rv:Uv}{Qu:Z5}(h:AL [(135,z1g q43),(136,q4k Rv),(137,Vh Qu)]):MT 89 (B7 (q5g q43 Rv Qu)):=mS h [(13,⟨bl 8380667,[1,0],[],[sI 23,(.obj 2,.map C.str C.seg)]⟩),(25,⟨bl 12918448379,[2,1,0],[],[(.slot 10,.own 9 C.str),sI 34]⟩)]
theorem z45:MT 89 (B7 Vz):=j88 ⟨w5b,j6r,Rq,trivial⟩
end Go.En
end
noncomputable section
open Go Go.RowKit Go.Fl Go.Fl.Lk Go.Fx
namespace Go.En
def q1p(X:W8):Con Sg:=conV [.el C.env,.el C.subj,.sl C.forced] [.el C.env,.el C.subj,.sl C.forced] [.ptr 184 [.str,.str,.int .i64,.sl C.decl,.sl C.seg,.sl C.flag,.sl C.layer,.sl C.exper,.sl C.ctx,.sl C.forced,.sl C.str,.map C.str C.decis,.map C.str C.bool]] [.same,.same,.same] fun a K=>X a.1 a.2.1 a.2.2.1 (fun q0 q1 q2 q3 q4 q5 q6 q7 q8 q9 q10 q11 q12=>K ((q0,q1,q2,q3,q4,q5,q6,q7,q8,q9,q10,q11,q12,()),()) ((),(),(),()))
theorem w08{Zc:Wi}(h:AL [(89,B7 Zc)]):MT 50 (q1p (q7y Zc)):=mP (rk:=[.ptr 184 [.c,.c,.c,.c,.c,.c,.c,.c,.c,.c,.sl C.str,.map C.str C.decis,.map C.str C.bool]]) h []
theorem z74:MT 50 (q1p H3):=w08 ⟨z45,trivial⟩
def Rr(X:Ww):Con Sg:=conV [.ptr 184 [.c,.c,.c,.c,.c,.c,.c,.c,.c,.c,.c,.map C.str C.decis,.map C.str C.bool],.v] [.ptr 184 [.str,.str,.int .i64,.sl C.decl,.sl C.seg,.sl C.flag,.sl C.layer,.sl C.exper,.sl C.ctx,.sl C.forced,.sl C.str,.map C.str C.decis,.map C.str C.bool],.str] [.el C.flag,.bool] [.ptr 184 [.same,.same,.same,.same,.same,.same,.same,.same,.same,.same,.same,.map C.str C.decis,.map C.str C.bool],.same] fun a K=>X a.1.1 a.1.2.1 a.1.2.2.1 a.1.2.2.2.1 a.1.2.2.2.2.1 a.1.2.2.2.2.2.1 a.1.2.2.2.2.2.2.1 a.1.2.2.2.2.2.2.2.1 a.1.2.2.2.2.2.2.2.2.1 a.1.2.2.2.2.2.2.2.2.2.1 a.1.2.2.2.2.2.2.2.2.2.2.1 a.1.2.2.2.2.2.2.2.2.2.2.2.1 a.1.2.2.2.2.2.2.2.2.2.2.2.2.1 a.2.1 (fun q0 q1 q2 q3=>K (q0,q1,()) (((),(),(),(),(),(),(),(),(),(),(),q2,q3,()),(),()))
theorem z2l:MT 51 (Rr J6):=mP (rk:=[.el C.flag,.v]) (l:=[]) trivial [(91000005,⟨bl 195,[3],[],[sI 8]⟩)]
def B9(X:Gl):Con Sg:=conS [.el C.flag,.el C.subj] [.int .i64] fun a K=>X a.1 a.2.1 (fun q0=>K (q0,()))
theorem j89{Qo:Z3}(h:AL [(44,U4 Qo)]):MT 16 (B9 (q5h Qo)):=mS h [(80000005,⟨bl 195,[],[],[sI 8]⟩),(5,⟨bl 3599,[1,0],[],[sI 12]⟩)]
theorem j9a:MT 16 (B9 V0):=j89 ⟨q06,trivial⟩
def j21(X:q58):Con Sg:=conS [.sl C.bytes] [.vec 5 C.u8] fun a K=>X a.1 (fun q0=>K (q0,()))
theorem w7f:MT 166 (j21 q59):=mS (l:=[]) trivial [(7,⟨bl 389,[],[],[(.slot 3,.own 5 C.u8),sI 9]⟩),(13,⟨bl 8101,[],[],[(.slot 3,.own 5 C.u8),sI 6]⟩)]
def z1k(X:Hc):Con Sg:=conS [.int .u64,.int .i64] [.int .u64] fun a K=>X a.1 a.2.1 (fun q0=>K (q0,()))
theorem j4i:MT 261 (z1k Hd):=mS (l:=[]) trivial []
def U7(X:Jn):Con Sg:=conV [.ptr 294 [.v,.v,.v,.v],.v] [.ptr 294 [.int .u64,.int .u64,.int .u64,.int .u64],.int .i64] [] [.ptr 294 [.int .u64,.int .u64,.int .u64,.int .u64],.same] fun a K=>X a.1.1 a.1.2.1 a.1.2.2.1 a.1.2.2.2.1 a.2.1 (fun q0 q1 q2 q3=>K () ((q0,q1,q2,q3,()),(),()))
theorem j2i{Zy:Hc}(h:AL [(261,z1k Zy)]):MT 204 (U7 (q0m Zy)):=mP (rk:=[]) h [(3,⟨[0,1,4],[],[(0,(294,4))],[sI 5,(.cell 0 0,.int IntKind.u64),(.cell 0 1,.int IntKind.u64),(.cell 0 2,.int IntKind.u64),(.cell 0 3,.int IntKind.u64)]⟩)]
theorem q8a:MT 204 (U7 Z4):=j2i ⟨j4i,trivial⟩
def q4l(X:Uw):Con Sg:=conV [.ptr 294 [.v,.v,.v,.v],.v] [.ptr 294 [.int .u64,.int .u64,.int .u64,.int .u64],.int .u64] [] [.ptr 294 [.int .u64,.int .u64,.int .u64,.int .u64],.same] fun a K=>X a.1.1 a.1.2.1 a.1.2.2.1 a.1.2.2.2.1 a.2.1 (fun q0 q1 q2 q3=>K () ((q0,q1,q2,q3,()),(),()))
theorem j6s{Zq:Jn}(h:AL [(204,U7 Zq)]):MT 203 (q4l (q3w Zq)):=mP (rk:=[]) h []
theorem j6t:MT 203 (q4l Rp):=j6s ⟨q8a,trivial⟩
def z9z(X:q7a):Con Sg:=conS [.int .u64,.int .u64,.sl C.u8] [.int .u64] fun a K=>X a.1 a.2.1 a.2.2.1 (fun q0=>K (q0,()))
theorem v4c{U2:Uw}{Zq:Jn}(h:AL [(203,q4l U2),(204,U7 Zq)]):MT 165 (z9z (z86 U2 Zq)):=mS h [(9,⟨bl 67101127,[],[(0,(294,4))],[sI 9,(.cell 0 0,.int IntKind.u64),(.cell 0 1,.int IntKind.u64),(.cell 0 2,.int IntKind.u64),(.cell 0 3,.int IntKind.u64)]⟩),(17,⟨bl 2147476423,[0],[],[(.slot 10,.int IntKind.u64),sI 33]⟩),(29,⟨bl 15762600843272903,[0],[],[(.slot 8,.int IntKind.u64),sI 54]⟩)]
theorem v4d:MT 165 (z9z z15):=v4c ⟨j6t,q8a,trivial⟩
def z62(X:q3x):Con Sg:=conS [.int .u64,.sl C.bytes] [.int .u64] fun a K=>X a.1 a.2.1 (fun q0=>K (q0,()))
theorem v0s{q6r:q58}{z22:q7a}(h:AL [(166,j21 q6r),(165,z9z z22)]):MT 115 (z62 (z6a q6r z22)):=mS h []
theorem v0t:MT 115 (z62 q8t):=v0s ⟨w7f,v4d,trivial⟩
def q5x(X:V8):Con Sg:=conS [.str,.str] [.int .i64] fun a K=>X a.1 a.2.1 (fun q0=>K (q0,()))
theorem v7h{q9i:q3x}(h:AL [(115,z62 q9i)]):MT 73 (q5x (j3t q9i)):=mS h []
theorem z63:MT 73 (q5x He):=v7h ⟨v0t,trivial⟩
def z90(X:q3y):Con Sg:=conS [.sl C.forced,.str] [.el C.forced,.bool] fun a K=>X a.1 a.2.1 (fun q0 q1=>K (q0,q1,()))
theorem w5i:MT 183 (z90 q3z):=mS (l:=[]) trivial [(5,⟨bl 787,[],[(0,(172,3))],[sI 10,(.cell 0 0,.str),(.cell 0 1,.str),(.cell 0 2,.int .i64)]⟩)]
def j6u(X:q8u):Con Sg:=conS [.el C.env,.el C.forced] [.bool] fun a K=>X a.1 a.2.1 (fun q0=>K (q0,()))
theorem v0u:MT 184 (j6u q8v):=mSg 8 (l:=[]) trivial [(277000005,⟨bl 195,[1],[],[sI 8]⟩),(278000005,⟨bl 195,[],[],[sI 8]⟩)]
end Go.En
end
noncomputable section
open Go Go.RowKit Go.Fl Go.Fl.Lk Go.Fx
namespace Go.En
def z64(X:q30):Con Sg:=conS [.el C.env,.el C.subj] [.bool] fun a K=>X a.1 a.2.1 (fun q0=>K (q0,()))
theorem v0v{Qo:Z3}{Zv:V8}(h:AL [(44,U4 Qo),(73,q5x Zv)]):MT 185 (z64 (z6b Qo Zv)):=mS h []
theorem v0w:MT 185 (z64 q8w):=v0v ⟨q06,z63,trivial⟩
def q5y(X:Gm):Con Sg:=conS [.el C.env,.el C.subj,.str] [.bool] fun a K=>X a.1 a.2.1 a.2.2.1 (fun q0=>K (q0,()))
theorem j9b{Zc:Wi}{Zi:Jv}(h:AL [(89,B7 Zc),(141,B6 Zi)]):MT 188 (q5y (q5i Zc Zi)):=mS h [(5,⟨bl 3615,[1,0],[],[sI 12]⟩)]
theorem j9c:MT 188 (q5y Bz):=j9b ⟨z45,z61,trivial⟩
def z65(X:B0):Con Sg:=conS [.sl C.range,.int .i64] [.int .i64] fun a K=>X a.1 a.2.1 (fun q0=>K (q0,()))
theorem j6v:MT 41 (z65 q31):=mS (l:=[]) trivial [(5,⟨bl 387,[],[],[sI 9]⟩)]
def q6g(X:q00):Con Sg:=conS [.el C.env,.el C.subj,.sl C.forced,.str] [.el C.asg,.int .i64] fun a K=>X a.1 a.2.1 a.2.2.1 a.2.2.2.1 (fun q0 q1=>K (q0,q1,()))
theorem w7g{Qo:Z3}{q44:q3y}{Zv:V8}{Vo:B0}{q0i:Gm}{q9j:q30}{q9k:q8u}(h:AL [(44,U4 Qo),(183,z90 q44),(73,q5x Zv),(41,z65 Vo),(188,q5y q0i),(185,z64 q9j),(184,j6u q9k)]):MT 139 (q6g (z3k Qo q44 Zv Vo q0i q9j q9k)):=mS h [(4,⟨bl 959,[3,2,1,0],[],[sI 10]⟩),(18,⟨bl 2198939402175,[9,5,3,2,1,0],[(7,(134,5))],[(.cell 7 2,.int .i64)]⟩),(22,⟨bl 17735122472271807,[12,7,9,5,3,2,1,0],[],[sB 64]⟩),(30,⟨bl 18464479196181823423,[12,7,9,5,3,2,1,0],[],[sB 87]⟩),(41,⟨bl 73193204841212587949592543167,[12,9,5,3,2,1,0],[(7,(134,5))],[sI 96,(.cell 7 1,.str),(.cell 7 3,.int .i64)]⟩),(46,⟨bl 1261615642555177651852752060351,[19,7],[],[sB 19]⟩),(48,⟨bl 1261615642555177651852752584639,[19,7],[],[sB 122]⟩),(244000005,⟨bl 195,[],[],[sI 8]⟩),(182000005,⟨bl 195,[],[],[sI 8]⟩)]
theorem w7h:MT 139 (q6g Rf):=w7g ⟨q06,w5i,z63,j6v,j9c,v0w,v0u,trivial⟩
def U8(X:Va):Con Sg:=conV [.ptr 184 [.c,.c,.c,.c,.c,.c,.c,.c,.c,.c,.c,.map C.str C.decis,.map C.str C.bool],.el C.exper] [.ptr 184 [.str,.str,.int .i64,.sl C.decl,.sl C.seg,.sl C.flag,.sl C.layer,.sl C.exper,.sl C.ctx,.sl C.forced,.sl C.str,.map C.str C.decis,.map C.str C.bool],.el C.exper] [.int .i64] [.ptr 184 [.same,.same,.same,.same,.same,.same,.same,.same,.same,.same,.same,.map C.str C.decis,.map C.str C.bool],.same] fun a K=>X a.1.1 a.1.2.1 a.1.2.2.1 a.1.2.2.2.1 a.1.2.2.2.2.1 a.1.2.2.2.2.2.1 a.1.2.2.2.2.2.2.1 a.1.2.2.2.2.2.2.2.1 a.1.2.2.2.2.2.2.2.2.1 a.1.2.2.2.2.2.2.2.2.2.1 a.1.2.2.2.2.2.2.2.2.2.2.1 a.1.2.2.2.2.2.2.2.2.2.2.2.1 a.1.2.2.2.2.2.2.2.2.2.2.2.2.1 a.2.1 (fun q0 q1 q2=>K (q0,()) (((),(),(),(),(),(),(),(),(),(),(),q1,q2,()),(),()))
theorem j2j{Qo:Z3}{Zv:V8}(h:AL [(44,U4 Qo),(73,q5x Zv)]):MT 140 (U8 (q0n Qo Zv)):=mP (rk:=[.v]) h [(5,⟨bl 32267,[3,0,1,2],[],[sI 15]⟩)]
theorem j2k:MT 140 (U8 Wb):=j2j ⟨q06,z63,trivial⟩
def j22(X:z3l):Con Sg:=conV [.v] [.int .i64] [.str] [.same] fun a K=>X a.1 (fun q0=>K (q0,()) ((),()))
theorem w7i:MT 164 (j22 z3m):=⟨entB (by kernel_rfl),w60⟩
def z66(X:q32):Con Sg:=conS [.int .i64] [.str] fun a K=>X a.1 (fun q0=>K (q0,()))
theorem v0x{q6s:z3l}(h:AL [(164,j22 q6s)]):MT 114 (z66 (j51 q6s)):=mS h []
theorem v0y:MT 114 (z66 q8x):=v0x ⟨w7i,trivial⟩
def z91(X:q7b):Con Sg:=conS [.el C.val] [.str,.bool] fun a K=>X a.1 (fun q0 q1=>K (q0,q1,()))
theorem v4e{q9l:q32}(h:AL [(114,z66 q9l)]):MT 72 (z91 (z87 q9l)):=mS h [(8,⟨bl 63,[0],[],[sB 6]⟩)]
theorem v4f:MT 72 (z91 z16):=v4e ⟨v0y,trivial⟩
def q75(X:H4):Con Sg:=conS [.el C.subj,.str,.str,.str] [.int .i64,.bool] fun a K=>X a.1 a.2.1 a.2.2.1 a.2.2.2.1 (fun q0 q1=>K (q0,q1,()))
theorem w09{Jx:W7}{z23:q7b}{Zv:V8}(h:AL [(71,q1o Jx),(72,z91 z23),(73,q5x Zv)]):MT 40 (q75 (q7z Jx z23 Zv)):=mS h []
theorem w1a:MT 40 (q75 q1k):=w09 ⟨z73,v4f,z63,trivial⟩
def q76(X:H5):Con Sg:=conS [.el C.subj,.el C.serve] [.int .i64,.int .i64,.bool] fun a K=>X a.1 a.2.1 (fun q0 q1 q2=>K (q0,q1,q2,()))
theorem w1b{q1v:H4}{Vo:B0}(h:AL [(40,q75 q1v),(41,z65 Vo)]):MT 14 (q76 (q70 q1v Vo)):=mS h []
theorem w1c:MT 14 (q76 q1l):=w1b ⟨w1a,j6v,trivial⟩
def Hk(X:V9):Con Sg:=conV [.ptr 184 [.c,.c,.c,.c,.c,.c,.c,.c,.c,.c,.c,.map C.str C.decis,.map C.str C.bool],.el C.flag,.el C.serve,.el C.reason] [.ptr 184 [.str,.str,.int .i64,.sl C.decl,.sl C.seg,.sl C.flag,.sl C.layer,.sl C.exper,.sl C.ctx,.sl C.forced,.sl C.str,.map C.str C.decis,.map C.str C.bool],.el C.flag,.el C.serve,.el C.reason] [.int .i64,.el C.reason] [.ptr 184 [.same,.same,.same,.same,.same,.same,.same,.same,.same,.same,.same,.map C.str C.decis,.map C.str C.bool],.same,.same,.same] fun a K=>X a.1.1 a.1.2.1 a.1.2.2.1 a.1.2.2.2.1 a.1.2.2.2.2.1 a.1.2.2.2.2.2.1 a.1.2.2.2.2.2.2.1 a.1.2.2.2.2.2.2.2.1 a.1.2.2.2.2.2.2.2.2.1 a.1.2.2.2.2.2.2.2.2.2.1 a.1.2.2.2.2.2.2.2.2.2.2.1 a.1.2.2.2.2.2.2.2.2.2.2.2.1 a.1.2.2.2.2.2.2.2.2.2.2.2.2.1 a.2.1 a.2.2.1 a.2.2.2.1 (fun q0 q1 q2 q3=>K (q0,q1,()) (((),(),(),(),(),(),(),(),(),(),(),q2,q3,()),(),(),(),()))
theorem j4j{q1w:H5}(h:AL [(14,q76 q1w)]):MT 142 (Hk (q2b q1w)):=mP (rk:=[.v,.el C.reason]) h []
theorem j4k:MT 142 (Hk Wj):=j4j ⟨w1c,trivial⟩
def U9(X:Ze):Con Sg:=conV [.ptr 184 [.c,.c,.c,.c,.c,.c,.c,.c,.c,.c,.c,.map C.str C.decis,.map C.str C.bool],.el C.flag] [.ptr 184 [.str,.str,.int .i64,.sl C.decl,.sl C.seg,.sl C.flag,.sl C.layer,.sl C.exper,.sl C.ctx,.sl C.forced,.sl C.str,.map C.str C.decis,.map C.str C.bool],.el C.flag] [.el C.decis] [.ptr 184 [.same,.same,.same,.same,.same,.same,.same,.same,.same,.same,.same,.map C.str C.decis,.map C.str C.bool],.same] fun a K=>X a.1.1 a.1.2.1 a.1.2.2.1 a.1.2.2.2.1 a.1.2.2.2.2.1 a.1.2.2.2.2.2.1 a.1.2.2.2.2.2.2.1 a.1.2.2.2.2.2.2.2.1 a.1.2.2.2.2.2.2.2.2.1 a.1.2.2.2.2.2.2.2.2.2.1 a.1.2.2.2.2.2.2.2.2.2.2.1 a.1.2.2.2.2.2.2.2.2.2.2.2.1 a.1.2.2.2.2.2.2.2.2.2.2.2.2.1 a.2.1 (fun q0 q1 q2=>K (q0,()) (((),(),(),(),(),(),(),(),(),(),(),q1,q2,()),(),()))
def q7i:PT:=Q5 ([(93000009,⟨bl 14909483,[9],[(10,(74,4)),(0,(184,13))],[sI 24,(.cell 10 0,.int .i64),(.cell 10 1,.int .i64),(.cell 10 2,.str),(.cell 10 3,.int .i64),(.obj 2,.map C.str C.bool),(.obj 1,.map C.str C.decis)]⟩),(93000027,⟨bl 2269884306126242091,[9],[(10,(74,4)),(0,(184,13))],[sI 61,(.cell 10 0,.int .i64),(.cell 10 1,.int .i64),(.cell 10 2,.str),(.cell 10 3,.int .i64),(.obj 1,.map C.str C.decis),(.obj 2,.map C.str C.bool)]⟩),(93000043,⟨bl 18173039004871905887270070919594283,[9],[(10,(74,4)),(0,(184,13))],[sI 114,(.cell 10 0,.int .i64),(.cell 10 1,.int .i64),(.cell 10 2,.str),(.cell 10 3,.int .i64),(.obj 2,.map C.str C.bool),(.obj 1,.map C.str C.decis)]⟩),(20,⟨bl 131067,[4,3],[(5,(76,11)),(0,(184,13))],[(.cell 5 0,.str),(.cell 5 1,.int .i64),(.cell 5 2,.int .i64),(.cell 5 3,.int .i64),(.cell 5 4,.str),(.cell 5 5,.sl C.str),(.cell 5 6,.int .i64),(.cell 5 7,.int .i64),(.cell 5 8,.str),(.cell 5 9,.int .i64),(.cell 5 10,.int .i64),(.obj 1,.map C.str C.decis),(.obj 2,.map C.str C.bool)]⟩),(16,⟨bl 68719476731,[10,1,2,0,9],[(5,(76,11))],[(.cell 5 2,.int .i64),(.cell 5 3,.int .i64),(.cell 5 4,.str),(.cell 5 5,.sl C.str)]⟩)]:LS)
theorem z8d(Q8:Wo)(Z7:Ww)(q0j:Gl)(q6t:q00)(Gb:Va)(Zi:Jv)(Uc:V9)(X:Ze)(salt:BA)(hkind:BA)(hold:Int)(attrs:List Decl)(segs:List Seg)(flags:List Flg)(layers:List Lay_)(expers:List Exper)(ctxs:List Ctxt)(fs:List Frc)(inn:List BA)(done:(BA->Option (Dcs)))(opn:(BA->Option (Bool)))(f:Flg)(K:Dcs->(BA->Option (Dcs))->(BA->Option (Bool))->Prop):q0o Q8 Z7 q0j q6t Gb Zi Uc X salt hkind hold attrs segs flags layers expers ctxs fs inn done opn f K=fnV (((WL [(93,Hh Q8),(51,Rr Z7),(16,B9 q0j),(139,q6g q6t),(140,U8 Gb),(141,B6 Zi),(142,Hk Uc)]).with 52 (U9 X)).pl q7i) 4 52 ([.ptr 184 [.c,.c,.c,.c,.c,.c,.c,.c,.c,.c,.c,.map C.str C.decis,.map C.str C.bool],.el C.flag]:LP) ([.el C.decis]:LP) ([.ptr 184 [.str,.str,.int .i64,.sl C.decl,.sl C.seg,.sl C.flag,.sl C.layer,.sl C.exper,.sl C.ctx,.sl C.forced,.sl C.str,.map C.str C.decis,.map C.str C.bool],.el C.flag]:LV) ([.el C.decis]:LV) ([.ptr 184 [.same,.same,.same,.same,.same,.same,.same,.same,.same,.same,.same,.map C.str C.decis,.map C.str C.bool],.same]:LV) ((salt,hkind,hold,attrs,segs,flags,layers,expers,ctxs,fs,inn,done,opn,()),f,()) (fun r o=>K r.1 o.1.2.2.2.2.2.2.2.2.2.2.2.1 o.1.2.2.2.2.2.2.2.2.2.2.2.2.1):=by kernel_rfl
theorem q8b:MT 52 (U9 Vb):=by
 show MT _ (conV ([.ptr 184 [.c,.c,.c,.c,.c,.c,.c,.c,.c,.c,.c,.map C.str C.decis,.map C.str C.bool],.el C.flag]:LP) ([.ptr 184 [.str,.str,.int .i64,.sl C.decl,.sl C.seg,.sl C.flag,.sl C.layer,.sl C.exper,.sl C.ctx,.sl C.forced,.sl C.str,.map C.str C.decis,.map C.str C.bool],.el C.flag]:LV) ([.el C.decis]:LV) ([.ptr 184 [.same,.same,.same,.same,.same,.same,.same,.same,.same,.same,.same,.map C.str C.decis,.map C.str C.bool],.same]:LV) fun a K=>Vb a.1.1 a.1.2.1 a.1.2.2.1 a.1.2.2.2.1 a.1.2.2.2.2.1 a.1.2.2.2.2.2.1 a.1.2.2.2.2.2.2.1 a.1.2.2.2.2.2.2.2.1 a.1.2.2.2.2.2.2.2.2.1 a.1.2.2.2.2.2.2.2.2.2.1 a.1.2.2.2.2.2.2.2.2.2.2.1 a.1.2.2.2.2.2.2.2.2.2.2.2.1 a.1.2.2.2.2.2.2.2.2.2.2.2.2.1 a.2.1 (fun q0 q1 q2=>K (q0,()) (((),(),(),(),(),(),(),(),(),(),(),q1,q2,()),(),())));refine mR (l:=[(93,Hh J3),(51,Rr J6),(16,B9 V0),(139,q6g Rf),(140,U8 Wb),(141,B6 Uu),(142,Hk Wj)]) (u:=4) (rk:=[.el C.decis]) (p:=q7i) ⟨q86,z2l,j9a,w7h,j2k,z61,j4k,trivial⟩ (by kernel_rfl) fun _ K h X hX=> ?_
 exact h (fun salt hkind hold attrs segs flags layers expers ctxs fs inn done opn f K=>X ((salt,hkind,hold,attrs,segs,flags,layers,expers,ctxs,fs,inn,done,opn,()),f,()) fun r o=>K r.1 o.1.2.2.2.2.2.2.2.2.2.2.2.1 o.1.2.2.2.2.2.2.2.2.2.2.2.2.1) (fun salt hkind hold attrs segs flags layers expers ctxs fs inn done opn f K hs=>hX ((salt,hkind,hold,attrs,segs,flags,layers,expers,ctxs,fs,inn,done,opn,()),f,()) (fun r o=>K r.1 o.1.2.2.2.2.2.2.2.2.2.2.2.1 o.1.2.2.2.2.2.2.2.2.2.2.2.2.1) (Eq.mp (z8d J3 J6 V0 Rf Wb Uu Wj (fun salt hkind hold attrs segs flags layers expers ctxs fs inn done opn f K=>X ((salt,hkind,hold,attrs,segs,flags,layers,expers,ctxs,fs,inn,done,opn,()),f,()) fun r o=>K r.1 o.1.2.2.2.2.2.2.2.2.2.2.2.1 o.1.2.2.2.2.2.2.2.2.2.2.2.2.1) salt hkind hold attrs segs flags layers expers ctxs fs inn done opn f K) hs))
end Go.En
end
noncomputable section
open Go Go.RowKit Go.Fl Go.Fl.Lk Go.Fx
namespace Go.En
def q4m(X:Ua):Con Sg:=conS [.el C.env,.el C.subj,.sl C.forced,.str] [.el C.decis,.int .i64] fun a K=>X a.1 a.2.1 a.2.2.1 a.2.2.2.1 (fun q0 q1=>K (q0,q1,()))
theorem w5j{Jy:W8}{Z7:Ww}{Zr:Ze}(h:AL [(50,q1p Jy),(51,Rr Z7),(52,U9 Zr)]):MT 21 (q4m (z0x Jy Z7 Zr)):=mS h []
theorem z92:MT 21 (q4m Bc):=w5j ⟨z74,z2l,q8b,trivial⟩
def z67(X:q33):Con Sg:=conS [] [.bool] fun a K=>X (fun q0=>K (q0,()))
theorem v0z{J9:Ua}(h:AL [(21,q4m J9)]):MT 9 (z67 (z6c J9)):=mS h []
theorem v00:MT 9 (z67 q8y):=v0z ⟨z92,trivial⟩
def y6k(X:w9z):Con Sg:=conV [.sl C.u8,.v] [.sl C.u8,.int .i64] [.ptr 92 [.sl C.u8,.int .i64]] [.same,.same] fun a K=>X a.1 a.2.1 (fun q0 q1=>K ((q0,q1,()),()) ((),(),()))
theorem u30:MT 10 (y6k w90):=mP (rk:=[.ptr 92 [.c,.v]]) (l:=[]) trivial [(6,⟨[1,4],[],[],[(.slot 0,.sl C.u8)]⟩)]
def j4l(X:z0y):Con Sg:=conV [.ptr 92 [.c,.v],.v] [.ptr 92 [.sl C.u8,.int .i64],.str] [.el C.ctx] [.ptr 92 [.same,.int .i64],.same] fun a K=>X a.1.1 a.1.2.1 a.2.1 (fun q0 q1=>K (q0,()) (((),q1,()),(),()))
theorem v7i{z7j:j3g}{Q6:Vp}{Qb:Zn}{Jr:q22}(h:AL [(70,w98 z7j),(29,q7h Q6),(30,Ud Qb),(64,z9d Jr)]):MT 38 (j4l (j3u z7j Q6 Qb Jr)):=mP (rk:=[.el C.ctx]) h [(9,⟨bl 8051,[4,1],[(2,(107,3)),(0,(92,2))],[sI 7,(.cell 2 2,.own 160 C.attr),(.cell 0 1,.int .i64)]⟩)]
theorem v7j:MT 38 (j4l z0z):=v7i ⟨y50,z2e,Hg,w4g,trivial⟩
def j4m(X:z00):Con Sg:=conV [.ptr 92 [.c,.v]] [.ptr 92 [.sl C.u8,.int .i64]] [.el C.subj] [.ptr 92 [.same,.int .i64]] fun a K=>X a.1.1 a.1.2.1 (fun q0 q1=>K (q0,()) (((),q1,()),()))
theorem v7k{Qb:Zn}{q2m:z0y}(h:AL [(30,Ud Qb),(38,j4l q2m)]):MT 12 (j4m (j3v Qb q2m)):=mP (rk:=[.el C.subj]) h [(10,⟨bl 125,[1],[(0,(92,2)),(2,(25,1))],[(.cell 0 1,.int .i64),(.cell 2 0,.own 107 C.ctx)]⟩)]
theorem v7l:MT 12 (j4m z6d):=v7k ⟨Hg,v7j,trivial⟩
def z1l(X:Ux):Con Sg:=conS [.el C.subj,.str] [.el C.ctx,.bool] fun a K=>X a.1 a.2.1 (fun q0 q1=>K (q0,q1,()))
theorem z47:MT 46 (z1l q34):=mS (l:=[]) trivial [(5,⟨bl 23,[0],[(1,(107,3))],[sI 6,(.cell 1 0,.str),(.cell 1 1,.str),(.cell 1 2,.sl C.attr)]⟩)]
def z68(X:q2c):Con Sg:=conS [.el C.subj,.str,.str] [.el C.val,.bool] fun a K=>X a.1 a.2.1 a.2.2.1 (fun q0 q1=>K (q0,q1,()))
theorem v7m{Zj:Ux}(h:AL [(46,z1l Zj)]):MT 74 (z68 (j3w Zj)):=mS h [(15,⟨bl 3668815,[2,0],[(1,(72,4))],[sI 10,(.cell 1 0,.int .i64),(.cell 1 1,.int .i64),(.cell 1 2,.str),(.cell 1 3,.sl C.str)]⟩)]
theorem w5k:MT 74 (z68 z01):=v7m ⟨z47,trivial⟩
def w5l(X:z6e):Con Sg:=conS [.int .i64] [.str] fun a K=>X a.1 (fun q0=>K (q0,()))
theorem v7n:MT 116 (w5l z6f):=mS (l:=[]) trivial [(9,⟨bl 980,[],[],[sI 0,(.slot 3,.str)]⟩),(16,⟨bl 16349,[],[],[sI 5]⟩)]
def w5m(X:z88):Con Sg:=conS [.el C.val] [.str,.bool] fun a K=>X a.1 (fun q0 q1=>K (q0,q1,()))
theorem y6l{z7q:z6e}(h:AL [(116,w5l z7q)]):MT 75 (w5m (w4c z7q)):=mS h [(20,⟨bl 6399,[0],[],[sB 16]⟩)]
theorem y6m:MT 75 (w5m j52):=y6l ⟨v7n,trivial⟩
def w8y(X:j1i):Con Sg:=conS [.sl C.bytes] [.vec 5 C.u8] fun a K=>X a.1 (fun q0=>K (q0,()))
theorem y1v:MT 168 (w8y j1j):=mS (l:=[]) trivial [(7,⟨[0,2],[],[],[(.slot 3,.own 5 C.u8),sI 4]⟩),(15,⟨bl 518069,[],[],[(.slot 3,.own 5 C.u8),sI 6]⟩)]
def w5n(X:z6g):Con Sg:=conS [.int .u64,.int .u64] [.int .u64] fun a K=>X a.1 a.2.1 (fun q0=>K (q0,()))
theorem v7o:MT 262 (w5n z6h):=mS (l:=[]) trivial []
def q77(X:H6):Con Sg:=conS [.el C.sip,.int .i64] [.el C.sip] fun a K=>X a.1 a.2.1 (fun q0=>K (q0,()))
theorem w1d{Ht:z6g}(h:AL [(262,w5n Ht)]):MT 205 (q77 (q71 Ht)):=mS h [(5,⟨bl 23,[1],[(0,(298,4))],[sI 5,(.cell 0 0,.int IntKind.u64),(.cell 0 1,.int IntKind.u64),(.cell 0 2,.int IntKind.u64),(.cell 0 3,.int IntKind.u64)]⟩)]
theorem w1e:MT 205 (q77 Jw):=w1d ⟨v7o,trivial⟩
end Go.En
end
noncomputable section
open Go Go.RowKit Go.Fl Go.Fl.Lk Go.Fx
namespace Go.En
def v01(X:j53):Con Sg:=conS [.int .u64,.int .u64,.sl C.u8] [.int .u64] fun a K=>X a.1 a.2.1 a.2.2.1 (fun q0=>K (q0,()))
theorem y93{Ul:H6}(h:AL [(205,q77 Ul)]):MT 167 (v01 (w91 Ul)):=mS h [(7,⟨bl 1046727,[],[(0,(298,4))],[sI 8,(.cell 0 0,.int IntKind.u64),(.cell 0 1,.int IntKind.u64),(.cell 0 2,.int IntKind.u64),(.cell 0 3,.int IntKind.u64)]⟩),(15,⟨bl 33552839,[0],[],[(.slot 9,.int IntKind.u64),sI 10]⟩),(24,⟨bl 274777243079,[0],[],[(.slot 9,.int IntKind.u64)]⟩)]
theorem y94:MT 167 (v01 w2j):=y93 ⟨w1e,trivial⟩
def w5o(X:z89):Con Sg:=conS [.int .u64,.sl C.bytes] [.int .u64] fun a K=>X a.1 a.2.1 (fun q0=>K (q0,()))
theorem y6n{j19:j1i}{w2z:j53}(h:AL [(168,w8y j19),(167,v01 w2z)]):MT 117 (w5o (w4d j19 w2z)):=mS h []
theorem y6o:MT 117 (w5o j54):=y6n ⟨y1v,y94,trivial⟩
def j1u(X:q35):Con Sg:=conS [.str,.str] [.int .i64] fun a K=>X a.1 a.2.1 (fun q0=>K (q0,()))
theorem y95{j7n:z89}(h:AL [(117,w5o j7n)]):MT 76 (j1u (w92 j7n)):=mS h []
theorem w2q:MT 76 (j1u q8z):=y95 ⟨y6o,trivial⟩
def z69(X:q36):Con Sg:=conS [.el C.subj,.str,.str,.str] [.int .i64,.bool] fun a K=>X a.1 a.2.1 a.2.2.1 a.2.2.2.1 (fun q0 q1=>K (q0,q1,()))
theorem v02{Hu:q2c}{j7o:z88}{Wr:q35}(h:AL [(74,z68 Hu),(75,w5m j7o),(76,j1u Wr)]):MT 42 (z69 (z6i Hu j7o Wr)):=mS h []
theorem v03:MT 42 (z69 q80):=v02 ⟨w5k,y6m,w2q,trivial⟩
def j9d(X:q9v):Con Sg:=conS [.sl C.range,.int .i64] [.int .i64] fun a K=>X a.1 a.2.1 (fun q0=>K (q0,()))
theorem w8z:MT 43 (j9d z4s):=mS (l:=[]) trivial [(5,⟨[0,1],[],[],[sI 5]⟩)]
def j4n(X:z02):Con Sg:=conS [.el C.subj,.el C.serve] [.int .i64,.int .i64,.bool] fun a K=>X a.1 a.2.1 (fun q0 q1 q2=>K (q0,q1,q2,()))
theorem v7p{q9m:q36}{Rh:q9v}(h:AL [(42,z69 q9m),(43,j9d Rh)]):MT 15 (j4n (j3x q9m Rh)):=mS h []
theorem v7q:MT 15 (j4n z6j):=v7p ⟨v03,w8z,trivial⟩
def z2m(X:q7c):Con Sg:=conS [.el C.flag,.el C.subj] [.int .i64] fun a K=>X a.1 a.2.1 (fun q0=>K (q0,()))
theorem v4g{Zj:Ux}{Qx:Wv}(h:AL [(46,z1l Zj),(47,q1n Qx)]):MT 17 (z2m (z9a Zj Qx)):=mS h [(5,⟨bl 15,[1,0],[],[sI 5]⟩)]
theorem v4h:MT 17 (z2m q2r):=v4g ⟨z47,q84,trivial⟩
def j9e(X:z4t):Con Sg:=conV [.ptr 92 [.c,.v],.el C.env] [.ptr 92 [.sl C.u8,.int .i64],.el C.env] [.vec 172 C.forced] [.ptr 92 [.same,.int .i64],.same] fun a K=>X a.1.1 a.1.2.1 a.2.1 (fun q0 q1=>K (q0,()) (((),q1,()),(),()))
theorem y1w{Qb:Zn}(h:AL [(30,Ud Qb)]):MT 48 (j9e (j8h Qb)):=mP (rk:=[.own 172 C.forced]) h [(7,⟨bl 27,[1],[(0,(92,2))],[(.slot 5,.own 172 C.forced),sI 6,(.cell 0 1,.int .i64)]⟩),(16,⟨bl 998651,[2],[(5,(172,3)),(0,(92,2))],[(.cell 5 0,.str),(.cell 0 1,.int .i64)]⟩),(32,⟨bl 998651,[2],[(5,(172,3)),(0,(92,2))],[(.cell 5 0,.str),(.cell 5 1,.str),(.cell 5 2,.int .i64),(.cell 0 1,.int .i64)]⟩),(26,⟨bl 274862128603,[],[(5,(172,3)),(0,(92,2))],[(.cell 5 0,.str),(.cell 0 1,.int .i64)]⟩)]
theorem y1x:MT 48 (j9e j1k):=y1w ⟨Hg,trivial⟩
def z7a(X:q37):Con Sg:=conS [.sl C.u8,.sl C.u8] [.el C.env,.el C.subj,.sl C.forced] fun a K=>X a.1 a.2.1 (fun q0 q1 q2=>K (q0,q1,q2,()))
theorem v04{w6u:w9z}{q45:R5}{z7r:z00}{j2a:z4t}(h:AL [(10,y6k w6u),(11,z1f q45),(12,j4m z7r),(48,j9e j2a)]):MT 18 (z7a (z6k w6u q45 z7r j2a)):=mS h []
theorem v05:MT 18 (z7a q38):=v04 ⟨u30,w49,v7l,y1x,trivial⟩
def z3v(X:q01):Con Sg:=conS [.el C.env,.el C.subj,.sl C.forced] [.vec 76 C.decis] fun a K=>X a.1 a.2.1 a.2.2.1 (fun q0=>K (q0,()))
theorem w7j{Jy:W8}{Zr:Ze}(h:AL [(50,q1p Jy),(52,U9 Zr)]):MT 25 (z3v (z3n Jy Zr)):=mS h [(9,⟨bl 260319,[1,0],[(2,(184,13))],[(.slot 8,.own 76 C.decis),sI 18,(.obj 3,.map C.str C.decis),(.obj 4,.map C.str C.bool)]⟩)]
theorem w7k:MT 25 (z3v q6a):=w7j ⟨z74,q8b,trivial⟩
def j9f(X:z4u):Con Sg:=conS [.sl C.str,.sl C.edge,.str] [.bool] fun a K=>X a.1 a.2.1 a.2.2.1 (fun q0=>K (q0,()))
theorem y1y{Qx:Wv}(h:AL [(47,q1n Qx)]):MT 196 (j9f (j8i Qx)):=mS h [(5,⟨[0,1,2],[],[],[sI 7]⟩)]
theorem y1z:MT 196 (j9f j1l):=y1y ⟨q84,trivial⟩
end Go.En
end
noncomputable section
open Go Go.RowKit Go.Fl Go.Fl.Lk Go.Fx
namespace Go.En
def j9g(X:z4v):Con Sg:=conS [.sl C.str,.sl C.edge] [.vec 9 C.str,.int .i64] fun a K=>X a.1 a.2.1 (fun q0 q1=>K (q0,q1,()))
theorem y18{Qx:Wv}{j2b:z4u}(h:AL [(47,q1n Qx),(196,j9f j2b)]):MT 153 (j9g (j8j Qx j2b)):=mS h [(5,⟨[0,1],[],[],[sI 6]⟩),(15,⟨bl 61507,[],[],[sI 7]⟩),(25,⟨bl 1006694595,[],[],[(.slot 8,.own 9 C.str)]⟩),(31,⟨bl 34902898118816195,[],[],[(.slot 9,.str),sB 10,sI 11,(.obj 2,.own 9 C.str)]⟩)]
theorem y2a:MT 153 (j9g j1m):=y18 ⟨q84,y1z,trivial⟩
def j4o(X:z03):Con Sg:=conS [.sl C.seg] [.vec 9 C.str,.int .i64] fun a K=>X a.1 (fun q0 q1=>K (q0,q1,()))
theorem v7r{Jh:Re}{Ho:q14}{j2c:z4v}(h:AL [(81,z44 Jh),(84,z6u Ho),(153,j9g j2c)]):MT 102 (j4o (j3y Jh Ho j2c)):=mS h []
theorem v7s:MT 102 (j4o z6l):=v7r ⟨j1s,w44,y2a,trivial⟩
def z93(X:q2s):Con Sg:=conS [.str,.str,.int .i64] [.bool] fun a K=>X a.1 a.2.1 a.2.2.1 (fun q0=>K (q0,()))
theorem j97:MT 150 (z93 q7d):=mS (l:=[]) trivial []
def z3w(X:q02):Con Sg:=conS [.el C.val,.el C.val] [.bool] fun a K=>X a.1 a.2.1 (fun q0=>K (q0,()))
theorem w7l{Qx:Wv}{Vx:q2s}(h:AL [(47,q1n Qx),(150,z93 Vx)]):MT 151 (z3w (z3o Qx Vx)):=mS h [(13,⟨bl 4047,[1,0],[],[sI 5]⟩)]
theorem w7m:MT 151 (z3w q6b):=w7l ⟨q84,j97,trivial⟩
def v4i(X:j55):Con Sg:=conS [.bool,.bool] [.int .i64] fun a K=>X a.1 a.2.1 (fun q0=>K (q0,()))
theorem y6p:MT 194 (v4i z4w):=mS (l:=[]) trivial []
def z94(X:q7e):Con Sg:=conS [.el C.val,.el C.val] [.int .i64,.int .i64] fun a K=>X a.1 a.2.1 (fun q0 q1=>K (q0,q1,()))
theorem v4j{Jb:Bu}{Qd:j55}{Rg:q5b}(h:AL [(193,z43 Jb),(194,v4i Qd),(195,j1q Rg)]):MT 152 (z94 (z9b Jb Qd Rg)):=mS h [(35,⟨bl 302157694953358261874639,[4,2,1,0],[],[sI 12]⟩)]
theorem v4k:MT 152 (z94 q7f):=v4j ⟨j8x,y6p,w8s,trivial⟩
def j1v(X:z4x):Con Sg:=conS [.el C.subj,.el C.ex] [.bool] fun a K=>X a.1 a.2.1 (fun q0=>K (q0,()))
theorem y2b{Hu:q2c}{Q0:W2}{Wc:Bq}{Vx:q2s}{q1b:q02}{q7o:q7e}(h:AL [(74,z68 Hu),(128,Bg Q0),(53,z41 Wc),(150,z93 Vx),(151,z3w q1b),(152,z94 q7o)]):MT 101 (j1v (j8k Hu Q0 Wc Vx q1b q7o)):=mS h [(17,⟨bl 34359734383,[2,1,0],[],[sI 7]⟩)]
theorem y2c:MT 101 (j1v q9w):=y2b ⟨w5k,z08,j8p,j97,w7m,v4k,trivial⟩
def q9z(X:Uj):Con Sg:=conV [.el C.subj,.sl C.str,.el C.ex] [.el C.subj,.sl C.str,.el C.ex] [.bool] [.same,.same,.same] fun a K=>X a.1 a.2.1 a.2.2.1 (fun q0=>K (q0,()) ((),(),(),()))
def w5p:PT:=Q5 ([(13,⟨bl 32303,[1,0],[],[sI 7]⟩),(27,⟨bl 6442483247,[1,0],[],[sI 8]⟩)]:LS)
theorem v4l(Qx:Wv)(j2d:z4x)(X:Uj)(s:Subj)(in_:List BA)(e:Ex)(K:Bool->Prop):j8l Qx j2d X s in_ e K=fnV (((WL [(47,q1n Qx),(101,j1v j2d)]).with 59 (q9z X)).pl w5p) 4 59 ([.el C.subj,.sl C.str,.el C.ex]:LP) ([.v]:LP) ([.el C.subj,.sl C.str,.el C.ex]:LV) ([.bool]:LV) ([.same,.same,.same]:LV) (s,in_,e,()) (fun r _=>K r.1):=by kernel_rfl
theorem j9h:MT 59 (q9z q2t):=by
 show MT _ (conV ([.el C.subj,.sl C.str,.el C.ex]:LP) ([.el C.subj,.sl C.str,.el C.ex]:LV) ([.bool]:LV) ([.same,.same,.same]:LV) fun a K=>q2t a.1 a.2.1 a.2.2.1 (fun q0=>K (q0,()) ((),(),(),())));refine mR (l:=[(47,q1n U6),(101,j1v q9w)]) (u:=4) (rk:=[.v]) (p:=w5p) ⟨q84,y2c,trivial⟩ (by kernel_rfl) fun a K h X hX=> ?_
 exact h (fun s in_ e K=>X (s,in_,e,()) fun r _=>K r.1) (fun s in_ e K hs=>hX (s,in_,e,()) (fun r _=>K r.1) (Eq.mp (v4l U6 q9w (fun s in_ e K=>X (s,in_,e,()) fun r _=>K r.1) s in_ e K) hs))
def z95(X:q7g):Con Sg:=conS [.el C.seg,.el C.subj,.sl C.str] [.bool] fun a K=>X a.1 a.2.1 a.2.2.1 (fun q0=>K (q0,()))
theorem v4m{Zj:Ux}{Qx:Wv}{W0:Uj}(h:AL [(46,z1l Zj),(47,q1n Qx),(59,q9z W0)]):MT 103 (z95 (z9c Zj Qx W0)):=mS h []
theorem v4n:MT 103 (z95 z17):=v4m ⟨z47,q84,j9h,trivial⟩
def q89(X:Hf):Con Sg:=conS [.sl C.seg,.el C.subj] [.sl C.str] fun a K=>X a.1 a.2.1 (fun q0=>K (q0,()))
theorem v06{z7s:z03}{z25:q7g}{Vk:q54}(h:AL [(102,j4o z7s),(103,z95 z25),(104,j1t Vk)]):MT 60 (q89 (z6m z7s z25 Vk)):=mS h [(9,⟨bl 31867,[1,0],[],[(.slot 7,.sl C.str),sI 8]⟩),(15,⟨bl 449883,[],[],[(.slot 7,.sl C.str),sI 9]⟩)]
theorem j6w:MT 60 (q89 B1):=v06 ⟨v7s,v4n,w2p,trivial⟩
def z7b(X:q2d):Con Sg:=conV [.el C.env,.el C.subj,.sl C.forced] [.el C.env,.el C.subj,.sl C.forced] [.ptr 194 [.str,.str,.int .i64,.sl C.decl,.sl C.seg,.sl C.flag,.sl C.layer,.sl C.exper,.sl C.ctx,.sl C.forced,.sl C.str,.vec 4 C.bool,.vec 76 C.decis]] [.same,.same,.same] fun a K=>X a.1 a.2.1 a.2.2.1 (fun q0 q1 q2 q3 q4 q5 q6 q7 q8 q9 q10 q11 q12=>K ((q0,q1,q2,q3,q4,q5,q6,q7,q8,q9,q10,q11,q12,()),()) ((),(),(),()))
theorem v7t{Jk:Hf}(h:AL [(60,q89 Jk)]):MT 54 (z7b (j3z Jk)):=mP (rk:=[.ptr 194 [.c,.c,.c,.c,.c,.c,.c,.c,.c,.c,.sl C.str,.own 4 C.bool,.own 76 C.decis]]) h []
theorem w5q:MT 54 (z7b z04):=v7t ⟨j6w,trivial⟩
def j1w(X:q9x):Con Sg:=conS [.el C.flag,.int .i64,.el C.reason] [.el C.decis] fun a K=>X a.1 a.2.1 a.2.2.1 (fun q0=>K (q0,()))
theorem w80:MT 144 (j1w q2u):=mS (l:=[]) trivial []
end Go.En
end
noncomputable section
open Go Go.RowKit Go.Fl Go.Fl.Lk Go.Fx
namespace Go.En
def j98(X:z18):Con Sg:=conS [.sl C.forced,.str] [.el C.forced,.bool] fun a K=>X a.1 a.2.1 (fun q0 q1=>K (q0,q1,()))
theorem v4o:MT 148 (j98 z19):=mS (l:=[]) trivial [(5,⟨[0,1,4],[],[(0,(172,3))],[sI 6,(.cell 0 0,.str),(.cell 0 1,.str),(.cell 0 2,.int .i64)]⟩)]
def q4n(X:Wx):Con Sg:=conS [.el C.env,.str] [.int .i64] fun a K=>X a.1 a.2.1 (fun q0=>K (q0,()))
theorem z2n:MT 57 (q4n Wy):=mS (l:=[]) trivial [(5,⟨[0,1,2],[0],[],[sI 5]⟩)]
def j99(X:z2a):Con Sg:=conS [.sl C.range,.int .i64] [.bool] fun a K=>X a.1 a.2.1 (fun q0=>K (q0,()))
theorem v4p:MT 149 (j99 z2b):=mS (l:=[]) trivial [(5,⟨[0,1],[],[],[sI 5]⟩)]
def j4p(X:z05):Con Sg:=conS [.el C.env,.sl C.forced,.el C.asg] [.el C.asg,.bool] fun a K=>X a.1 a.2.1 a.2.2.1 (fun q0 q1=>K (q0,q1,()))
theorem v7u{z27:z18}{Z8:Wx}{z29:z2a}(h:AL [(148,j98 z27),(57,q4n Z8),(149,j99 z29)]):MT 97 (j4p (j30 z27 Z8 z29)):=mS h []
theorem v7v:MT 97 (j4p z6n):=v7u ⟨v4o,z2n,v4p,trivial⟩
def j9i(X:z4y):Con Sg:=conS [.el C.env,.el C.subj] [.bool] fun a K=>X a.1 a.2.1 (fun q0=>K (q0,()))
theorem y2d{Zj:Ux}{Wr:q35}(h:AL [(46,z1l Zj),(76,j1u Wr)]):MT 98 (j9i (j8m Zj Wr)):=mS h []
theorem y2e:MT 98 (j9i j1n):=y2d ⟨z47,w2q,trivial⟩
def w0a(X:z2c):Con Sg:=conS [.sl C.span,.int .i64] [.bool] fun a K=>X a.1 a.2.1 (fun q0=>K (q0,()))
theorem v4q:MT 99 (w0a z2d):=mS (l:=[]) trivial [(5,⟨[0,1],[],[],[sI 5]⟩)]
def z3x(X:q03):Con Sg:=conS [.el C.env,.el C.subj,.str] [.bool] fun a K=>X a.1 a.2.1 a.2.2.1 (fun q0=>K (q0,()))
theorem w7n{Z8:Wx}{Jk:Hf}{W0:Uj}(h:AL [(57,q4n Z8),(60,q89 Jk),(59,q9z W0)]):MT 100 (z3x (z3p Z8 Jk W0)):=mS h []
theorem w7o:MT 100 (z3x q6c):=w7n ⟨z2n,j6w,j9h,trivial⟩
def z7c(X:z06):Con Sg:=conS [.el C.env,.el C.subj,.sl C.forced,.str] [.el C.asg,.int .i64] fun a K=>X a.1 a.2.1 a.2.2.1 a.2.2.2.1 (fun q0 q1=>K (q0,q1,()))
theorem v7w{Qt:Jt}{Zj:Ux}{z7t:z05}{j2e:z4y}{q7p:z2c}{q1c:q03}{Wr:q35}{Rh:q9v}(h:AL [(96,B3 Qt),(46,z1l Zj),(97,j4p z7t),(98,j9i j2e),(99,w0a q7p),(100,z3x q1c),(76,j1u Wr),(43,j9d Rh)]):MT 58 (z7c (j31 Qt Zj z7t j2e q7p q1c Wr Rh)):=mS h [(18,⟨bl 549738544959,[7,3,2,1,0],[(5,(134,5))],[(.cell 5 2,.int .i64)]⟩),(33,⟨bl 295129820961837808959,[10,7,3,1,0],[(5,(134,5)),(2,(134,5))],[sI 17,(.cell 5 0,.str),(.cell 5 1,.str),(.cell 5 2,.int .i64),(.cell 5 3,.int .i64),(.cell 5 4,.bool),(.cell 2 0,.str),(.cell 2 1,.str),(.cell 2 2,.int .i64),(.cell 2 3,.int .i64),(.cell 2 4,.bool)]⟩)]
theorem v7x:MT 58 (z7c q5j):=v7w ⟨q4d,z47,v7v,y2e,v4q,w7o,w2q,w8z,trivial⟩
def q4o(X:Bd):Con Sg:=conS [.el C.env,.el C.subj,.el C.exper] [.int .i64] fun a K=>X a.1 a.2.1 a.2.2.1 (fun q0=>K (q0,()))
theorem w5r{Qt:Jt}{Zj:Ux}{Wr:q35}(h:AL [(96,B3 Qt),(46,z1l Zj),(76,j1u Wr)]):MT 146 (q4o (z07 Qt Zj Wr)):=mS h []
theorem w5s:MT 146 (q4o Gn):=w5r ⟨q4d,z47,w2q,trivial⟩
def Ga(X:Vc):Con Sg:=conV [.ptr 194 [.c,.c,.c,.c,.c,.c,.c,.c,.c,.c,.c,.kow 4 C.bool,.kow 76 C.decis],.el C.flag,.el C.serve,.el C.reason] [.ptr 194 [.str,.str,.int .i64,.sl C.decl,.sl C.seg,.sl C.flag,.sl C.layer,.sl C.exper,.sl C.ctx,.sl C.forced,.sl C.str,.vec 4 C.bool,.vec 76 C.decis],.el C.flag,.el C.serve,.el C.reason] [.el C.decis] [.ptr 194 [.same,.same,.same,.same,.same,.same,.same,.same,.same,.same,.same,.kvec 4 C.bool,.kvec 76 C.decis],.same,.same,.same] fun a K=>X a.1.1 a.1.2.1 a.1.2.2.1 a.1.2.2.2.1 a.1.2.2.2.2.1 a.1.2.2.2.2.2.1 a.1.2.2.2.2.2.2.1 a.1.2.2.2.2.2.2.2.1 a.1.2.2.2.2.2.2.2.2.1 a.1.2.2.2.2.2.2.2.2.2.1 a.1.2.2.2.2.2.2.2.2.2.2.1 a.1.2.2.2.2.2.2.2.2.2.2.2.1 a.1.2.2.2.2.2.2.2.2.2.2.2.2.1 a.2.1 a.2.2.1 a.2.2.2.1 (fun q0 q1 q2=>K (q0,()) (((),(),(),(),(),(),(),(),(),(),(),q1,q2,()),(),(),(),()))
theorem j2l{z7u:z02}{Wk:q9x}(h:AL [(15,j4n z7u),(144,j1w Wk)]):MT 147 (Ga (q0p z7u Wk)):=mP (rk:=[.el C.decis]) h []
theorem j2m:MT 147 (Ga Jo):=j2l ⟨v7q,w80,trivial⟩
def Hl(X:Zk):Con Sg:=conV [.ptr 194 [.c,.c,.c,.c,.c,.c,.c,.c,.c,.c,.c,.kow 4 C.bool,.kow 76 C.decis],.v] [.ptr 194 [.str,.str,.int .i64,.sl C.decl,.sl C.seg,.sl C.flag,.sl C.layer,.sl C.exper,.sl C.ctx,.sl C.forced,.sl C.str,.vec 4 C.bool,.vec 76 C.decis],.int .i64] [.el C.decis] [.ptr 194 [.same,.same,.same,.same,.same,.same,.same,.same,.same,.same,.same,.kvec 4 C.bool,.kvec 76 C.decis],.same] fun a K=>X a.1.1 a.1.2.1 a.1.2.2.1 a.1.2.2.2.1 a.1.2.2.2.2.1 a.1.2.2.2.2.2.1 a.1.2.2.2.2.2.2.1 a.1.2.2.2.2.2.2.2.1 a.1.2.2.2.2.2.2.2.2.1 a.1.2.2.2.2.2.2.2.2.2.1 a.1.2.2.2.2.2.2.2.2.2.2.1 a.1.2.2.2.2.2.2.2.2.2.2.2.1 a.1.2.2.2.2.2.2.2.2.2.2.2.2.1 a.2.1 (fun q0 q1 q2=>K (q0,()) (((),(),(),(),(),(),(),(),(),(),(),q1,q2,()),(),()))
def q8c:PT:=Q5 ([(950022,⟨[],[],[],[]⟩),(96000009,⟨bl 28699,[5],[(6,(76,11)),(0,(194,13))],[sI 5,(.cell 6 0,.str),(.cell 6 1,.int .i64),(.cell 6 2,.int .i64),(.cell 6 3,.int .i64),(.cell 6 4,.str),(.cell 6 5,.sl C.str),(.cell 6 6,.int .i64),(.cell 6 7,.int .i64),(.cell 6 8,.str),(.cell 6 9,.int .i64),(.cell 6 10,.int .i64),(.obj 2,.own 76 C.decis),(.obj 1,.own 4 C.bool)]⟩),(96000025,⟨bl 17944029797838971,[1,2,0,5],[(6,(76,11))],[sI 7,(.cell 6 0,.str),(.cell 6 1,.int .i64),(.cell 6 2,.int .i64),(.cell 6 3,.int .i64),(.cell 6 4,.str),(.cell 6 5,.sl C.str),(.cell 6 6,.int .i64),(.cell 6 7,.int .i64),(.cell 6 8,.str),(.cell 6 9,.int .i64),(.cell 6 10,.int .i64)]⟩),(96000041,⟨bl 9407857421621669163259,[5],[(6,(76,11)),(0,(194,13))],[sI 11,(.cell 6 0,.str),(.cell 6 1,.int .i64),(.cell 6 2,.int .i64),(.cell 6 3,.int .i64),(.cell 6 4,.str),(.cell 6 5,.sl C.str),(.cell 6 6,.int .i64),(.cell 6 7,.int .i64),(.cell 6 8,.str),(.cell 6 9,.int .i64),(.cell 6 10,.int .i64),(.obj 1,.own 4 C.bool),(.obj 2,.own 76 C.decis)]⟩),(8,⟨[0,1,4],[3],[(0,(194,13))],[(.obj 1,.own 4 C.bool),(.obj 2,.own 76 C.decis)]⟩)]:LS)
theorem z96(Zh:Vs)(Wk:q9x)(z3a:q7c)(z7v:z06)(q46:Bd)(W0:Uj)(Ve:Vc)(X:Zk)(salt:BA)(hkind:BA)(hold:Int)(attrs:List Decl)(segs:List Seg)(flags:List Flg)(layers:List Lay_)(expers:List Exper)(ctxs:List Ctxt)(fs:List Frc)(inn:List BA)(done:List Bool)(opn:List Dcs)(i:Int)(K:Dcs->List Bool->List Dcs->Prop):q2e Zh Wk z3a z7v q46 W0 Ve X salt hkind hold attrs segs flags layers expers ctxs fs inn done opn i K=fnV (((WL [(56,q2v Zh),(144,j1w Wk),(17,z2m z3a),(58,z7c z7v),(146,q4o q46),(59,q9z W0),(147,Ga Ve)]).with 55 (Hl X)).pl q8c) 4 55 ([.ptr 194 [.c,.c,.c,.c,.c,.c,.c,.c,.c,.c,.c,.kow 4 C.bool,.kow 76 C.decis],.v]:LP) ([.el C.decis]:LP) ([.ptr 194 [.str,.str,.int .i64,.sl C.decl,.sl C.seg,.sl C.flag,.sl C.layer,.sl C.exper,.sl C.ctx,.sl C.forced,.sl C.str,.vec 4 C.bool,.vec 76 C.decis],.int .i64]:LV) ([.el C.decis]:LV) ([.ptr 194 [.same,.same,.same,.same,.same,.same,.same,.same,.same,.same,.same,.kvec 4 C.bool,.kvec 76 C.decis],.same]:LV) ((salt,hkind,hold,attrs,segs,flags,layers,expers,ctxs,fs,inn,done,opn,()),i,()) (fun r o=>K r.1 o.1.2.2.2.2.2.2.2.2.2.2.2.1 o.1.2.2.2.2.2.2.2.2.2.2.2.2.1):=by kernel_rfl
theorem z1m:MT 55 (Hl Ub):=by
 show MT _ (conV ([.ptr 194 [.c,.c,.c,.c,.c,.c,.c,.c,.c,.c,.c,.kow 4 C.bool,.kow 76 C.decis],.v]:LP) ([.ptr 194 [.str,.str,.int .i64,.sl C.decl,.sl C.seg,.sl C.flag,.sl C.layer,.sl C.exper,.sl C.ctx,.sl C.forced,.sl C.str,.vec 4 C.bool,.vec 76 C.decis],.int .i64]:LV) ([.el C.decis]:LV) ([.ptr 194 [.same,.same,.same,.same,.same,.same,.same,.same,.same,.same,.same,.kvec 4 C.bool,.kvec 76 C.decis],.same]:LV) fun a K=>Ub a.1.1 a.1.2.1 a.1.2.2.1 a.1.2.2.2.1 a.1.2.2.2.2.1 a.1.2.2.2.2.2.1 a.1.2.2.2.2.2.2.1 a.1.2.2.2.2.2.2.2.1 a.1.2.2.2.2.2.2.2.2.1 a.1.2.2.2.2.2.2.2.2.2.1 a.1.2.2.2.2.2.2.2.2.2.2.1 a.1.2.2.2.2.2.2.2.2.2.2.2.1 a.1.2.2.2.2.2.2.2.2.2.2.2.2.1 a.2.1 (fun q0 q1 q2=>K (q0,()) (((),(),(),(),(),(),(),(),(),(),(),q1,q2,()),(),())));refine mR (l:=[(56,q2v Vt),(144,j1w q2u),(17,z2m q2r),(58,z7c q5j),(146,q4o Gn),(59,q9z q2t),(147,Ga Jo)]) (u:=4) (rk:=[.el C.decis]) (p:=q8c) ⟨z2i,w80,v4h,v7x,w5s,j9h,j2m,trivial⟩ (by kernel_rfl) fun a K h X hX=> ?_
 exact h (fun salt hkind hold attrs segs flags layers expers ctxs fs inn done opn i K=>X ((salt,hkind,hold,attrs,segs,flags,layers,expers,ctxs,fs,inn,done,opn,()),i,()) fun r o=>K r.1 o.1.2.2.2.2.2.2.2.2.2.2.2.1 o.1.2.2.2.2.2.2.2.2.2.2.2.2.1) (fun salt hkind hold attrs segs flags layers expers ctxs fs inn done opn i K hs=>hX ((salt,hkind,hold,attrs,segs,flags,layers,expers,ctxs,fs,inn,done,opn,()),i,()) (fun r o=>K r.1 o.1.2.2.2.2.2.2.2.2.2.2.2.1 o.1.2.2.2.2.2.2.2.2.2.2.2.2.1) (Eq.mp (z96 Vt q2u q2r q5j Gn q2t Jo (fun salt hkind hold attrs segs flags layers expers ctxs fs inn done opn i K=>X ((salt,hkind,hold,attrs,segs,flags,layers,expers,ctxs,fs,inn,done,opn,()),i,()) fun r o=>K r.1 o.1.2.2.2.2.2.2.2.2.2.2.2.1 o.1.2.2.2.2.2.2.2.2.2.2.2.2.1) salt hkind hold attrs segs flags layers expers ctxs fs inn done opn i K) hs))
def z3y(X:q04):Con Sg:=conS [.el C.env,.el C.subj,.sl C.forced] [.vec 76 C.decis] fun a K=>X a.1 a.2.1 a.2.2.1 (fun q0=>K (q0,()))
theorem w7p{Hw:q2d}{Zz:Zk}(h:AL [(54,z7b Hw),(55,Hl Zz)]):MT 26 (z3y (z3q Hw Zz)):=mS h [(9,⟨bl 15583,[1,0],[(2,(194,13))],[(.slot 8,.own 76 C.decis),sI 9,(.cell 2 11,.own 4 C.bool),(.cell 2 12,.own 76 C.decis)]⟩)]
theorem w7q:MT 26 (z3y q6d):=w7p ⟨w5q,z1m,trivial⟩
end Go.En
end
noncomputable section
open Go Go.RowKit Go.Fl Go.Fl.Lk Go.Fx
namespace Go.En
def j1x(X:q5k):Con Sg:=conS [.el C.decis,.el C.decis] [.bool] fun a K=>X a.1 a.2.1 (fun q0=>K (q0,()))
theorem y2f{Wc:Bq}(h:AL [(53,z41 Wc)]):MT 22 (j1x (j8n Wc)):=mS h []
theorem w81:MT 22 (j1x z4z):=y2f ⟨j8p,trivial⟩
def z7d(X:q39):Con Sg:=conS [.sl C.decis,.sl C.decis] [.bool] fun a K=>X a.1 a.2.1 (fun q0=>K (q0,()))
theorem v07{q0k:q5k}(h:AL [(22,j1x q0k)]):MT 24 (z7d (z6o q0k)):=mS h [(9,⟨bl 1987,[],[],[sI 5]⟩)]
theorem v08:MT 24 (z7d q81):=v07 ⟨w81,trivial⟩
def j9j(X:z40):Con Sg:=conS [.el C.env,.el C.subj,.sl C.forced,.str] [.el C.decis,.int .i64] fun a K=>X a.1 a.2.1 a.2.2.1 a.2.2.2.1 (fun q0 q1=>K (q0,q1,()))
theorem y2g{Zh:Vs}{Hw:q2d}{Zz:Zk}(h:AL [(56,q2v Zh),(54,z7b Hw),(55,Hl Zz)]):MT 27 (j9j (j8o Zh Hw Zz)):=mS h []
theorem y2h:MT 27 (j9j j1o):=y2g ⟨z2i,w5q,z1m,trivial⟩
def Uy(X:Be):Con Sg:=conS [.sl C.u8,.sl C.u8,.el C.subj,.sl C.forced,.str] [.bool] fun a K=>X a.1 a.2.1 a.2.2.1 a.2.2.2.1 a.2.2.2.2.1 (fun q0=>K (q0,()))
theorem z97{q9n:q33}{q9o:q37}{q6u:q01}{q6v:q04}{q9p:q39}{J9:Ua}{j2f:z40}{q0k:q5k}(h:AL [(9,z67 q9n),(18,z7a q9o),(25,z3v q6u),(26,z3y q6v),(24,z7d q9p),(21,q4m J9),(27,j9j j2f),(22,j1x q0k)]):MT 6 (Uy (Bf q9n q9o q6u q6v q9p J9 j2f q0k)):=mS h [(15,⟨bl 70368727414943,[5,2,1,0],[],[sI 46]⟩),(21,⟨bl 17996806306707615,[9,7],[],[sI 54]⟩),(31,⟨bl 2361178720242992593055,[13,11,12],[],[sI 71]⟩)]
theorem z98:MT 6 (Uy Je):=z97 ⟨v00,v05,w7k,w7q,v08,z92,y2h,w81,trivial⟩
end Go.En
end
noncomputable section
namespace Go.En
open Go Go.Fl Go.Fl.Lk Go.Fx
theorem Cnd.mk{c A B:Prop}(h:c->A)(k: ¬c->B):Cnd c A B:=⟨h,k⟩
structure DS(list:List Int)(at_:Int):Prop where
 len:list.length<=1000
 lo:0<=at_
 hi:at_<=list.length
 byte: ∀x∈list,0<=x/\x<256
theorem getm{α:Type}{l:List α}{k:Nat}{x:α}(h:l[k]? =some x):x∈l:=List.mem_of_getElem? h
theorem j4q(n:Int):(Go.Utf8.encode n).size<=4:=by
 unfold Go.Utf8.encode;generalize (if Go.Utf8.valid n then n.toNat else Go.Utf8.runeError)=c;show (if c<0x80 then _ else if c<0x800 then _ else if c<0x10000 then _ else _:BA).size<=4;have h1: ∀a:UInt8,(ByteArray.mk #[a]).size<=4:=fun _=>(by decide:1<=4)
 have h2: ∀a b:UInt8,(ByteArray.mk #[a,b]).size<=4:=fun _ _=>(by decide:2<=4)
 have h3: ∀a b c:UInt8,(ByteArray.mk #[a,b,c]).size<=4:=fun _ _ _=>(by decide:3<=4)
 have h4: ∀a b c d:UInt8,(ByteArray.mk #[a,b,c,d]).size<=4:=fun _ _ _ _=>(by decide:4<=4)
 split
 .exact h1 _
 .split
  .exact h2 _ _
  .split
   .exact h3 _ _ _
   .exact h4 _ _ _ _
theorem Qi{list:List Int}{at_ n:Int}{K:Int->Int->Prop}(hD:DS list at_)(hn:1<=n)(h: ∀r a,0<=r->r<n->DS list a->K r a):Wl list at_ n K:=by
 obtain⟨h1,h2,h3,h4⟩:=hD;unfold Wl w9t w9s;refine fun _=>Cnd.mk (fun hl=> ?_) (fun _=>h _ _ (by omega) (by omega) ⟨h1,h2,h3,h4⟩)
 have hl:=of_decide_eq_true hl;refine⟨by unfold InI;omega,by unfold InI;omega,by omega,fun y hy=>⟨by unfold InI;have:=h4 _ (getm hy);omega,by omega,?_⟩⟩;obtain⟨a,b⟩:=h4 _ (getm hy);exact h _ _ (Int.tmod_nonneg _ a) (by have:=Int.tmod_lt_of_pos y (b:=n) (by omega);omega) ⟨h1,by omega,by omega,h4⟩
theorem q7j{list:List Int}{at_ n:Int}{K:Int->Int->Prop}(hD:DS list at_)(hn:1<=n)(h: ∀r a,0<=r->r<n->DS list a->K r a):j01 list at_ n K:=by
 unfold j01 w9v;refine Qi hD (by decide) fun r a r0 r1 hD=>⟨by unfold InI;omega,Qi hD (by decide) fun s b s0 s1 hD=>⟨by unfold InI;omega,by omega,?_⟩⟩
 exact h _ _ (Int.tmod_nonneg _ (by omega)) (by have:=Int.tmod_lt_of_pos (256*r+s) (b:=n) (by omega);omega) hD
theorem j6x{n:Int}{l:List BA}{K:List BA->Prop}(h0:0<=n)(h1:n<=l.length)(h:K (l.take n.toNat)):w2h n l K:=⟨⟨h0,h1⟩,h⟩
theorem z48{list:List Int}{at_:Int}{K:BA->Int->Prop}(hD:DS list at_)(h: ∀r a,r∈j5i->DS list a->K r a):z5n list at_ K:=by unfold z5n w9u;exact Qi hD (by decide) fun r a r0 r1 hD=>⟨⟨r0,r1⟩,fun y hy=>h _ _ (getm hy) hD⟩
theorem sz_k(n:Int):(B8 [107]++Go.Utf8.encode n).size<=5:=by rw[ByteArray.size_append];have:=j4q n;show 1+_<=5;omega
theorem v9z{list:List Int}{at_:Int}{K:BA->Int->Prop}(hD:DS list at_)(h: ∀r a,r.size<=5->DS list a->K r a):w33 list at_ K:=by
 unfold w33 v6p;refine Qi hD (by decide) fun r a r0 r1 hD=>⟨by unfold InI;omega,?_,h _ _ (sz_k _) hD⟩
 have:=j4q (IntKind.i32.wrap (48+r));have e:(B8 [107]).size=1:=rfl;omega
theorem w5t{list:List Int}{at_:Int}{K:List BA->Int->Prop}(hD:DS list at_)(h: ∀r a,r.length<=3->(∀s∈r,s.size<=5)->DS list a->K r a):j5j list at_ K:=by
 unfold j5j w9w;refine Qi hD (by decide) fun n a n0 n1 hD=> ?_
 refine Lp3.ind (fun l i a=>DS list a/\0<=i/\i<=3/\(l.length:Int)=i/\∀s∈l,s.size<=5) (fun _ i _=>(3 - i).toNat) ?_ ⟨hD,by decide,by decide,rfl,by simp⟩;rintro l i a ⟨hD,i0,i3,hl,hs⟩;refine Qi hD (by decide) fun r a r0 r1 hD=>Cnd.mk (fun hc=> ?_) (fun hc=> ?_)
 .have:=j4q (IntKind.i32.wrap ((48:Int)+(n+i).tmod 10));have e:(B8 [107]).size=1:=rfl;have m0:=Int.tmod_nonneg 10 (show 0<=n+i by omega);have m1:=Int.tmod_lt_of_pos (n+i) (b:=10) (by decide);refine⟨by unfold InI;omega,by decide,by unfold InI;omega,by omega,by unfold Sml;simp;omega,by unfold InI;omega,⟨hD,by omega,by omega,by simp;omega,fun s hm=> ?_⟩,by omega⟩;rcases List.mem_append.1 hm with hm|hm
  .exact hs s hm
  .rw[List.mem_singleton.1 hm];exact sz_k _
 .refine Lp2.ind (fun (i:Int) (m:List BA)=>m=l/\1<=i/\i<=1+l.length) (fun (i:Int) _=>(1+l.length - i).toNat) ?_ ⟨rfl,by decide,by omega⟩;rintro i m ⟨rfl,i0,i1⟩ _;refine Cnd.mk (fun hc=>⟨by omega,fun y hy=>⟨by unfold InI;omega,by omega,fun z hz=>Cnd.mk (fun _=>⟨by unfold InI;omega,⟨rfl,by omega,by omega⟩,by omega⟩) (fun _=>⟨by omega,h _ _ (by simp;omega) (fun s hm=>hs s (List.mem_of_mem_take hm)) hD⟩)⟩⟩) (fun _=>h _ _ (by omega) hs hD)
theorem sz0:(ByteArray.mk (Array.mk ([]:List UInt8))).size<=100:=by decide
structure ValS(v:Val):Prop where
 num:InI v.number
 txt:v.text.size<=100
 len:v.list.length<=10
 txs: ∀s∈v.list,s.size<=100
theorem q90{list:List Int}{at_ kind:Int}{K:Val->Int->Prop}(hD:DS list at_)(h: ∀r a,ValS r->DS list a->K r a):q0v list at_ kind K:=by
 unfold q0v j5k;have tt: ∀s∈j5i,s.size<=100:=by decide
 have tv: ∀s∈z8n,s.size<=100:=by decide
 have tl: ∀l∈w31,l.length<=10/\∀s∈l,s.size<=100:=by decide
 refine Cnd.mk (fun _=> ?_) fun _=>Cnd.mk (fun _=>fun _=> ?_) fun _=>Cnd.mk (fun _=> ?_) fun _=>Cnd.mk (fun _=> ?_) fun _=> ?_
 .exact Qi hD (by decide) fun r a r0 r1 hD=>h _ _ ⟨by unfold InI;simp only;omega,sz0,by simp,by simp⟩ hD
 .refine Qi hD (by decide) fun r a r0 r1 hD=>⟨⟨r0,r1⟩,fun y hy=>h _ _ ⟨?_,sz0,by simp,by simp⟩ hD⟩
  have:=getm hy;have k: ∀y∈[(0:Int),(1:Int),(17:Int),(18:Int),(19:Int),(-5:Int),(64:Int),(1099511627776:Int),(-1099511627776:Int)], -9223372036854775808<=y/\y<=9223372036854775807:=by decide
  exact k y this
 .exact z48 hD fun r a hr hD=>h _ _ ⟨by unfold InI;simp,tt _ hr,by simp,by simp⟩ hD
 .exact Qi hD (by decide) fun r a r0 r1 hD=>⟨⟨r0,r1⟩,fun y hy=>h _ _ ⟨by unfold InI;simp,tv _ (getm hy),by simp,by simp⟩ hD⟩
 .refine Qi hD (by decide) fun r a r0 r1 hD=>⟨⟨r0,r1⟩,fun y hy=> ?_⟩
  obtain⟨a1,a2⟩:=tl _ (getm hy);exact⟨by unfold Sml;simp;omega,h _ _ ⟨by unfold InI;simp,sz0,by simpa using a1,by simpa using a2⟩ hD⟩
structure VsS(l:List Val):Prop where
 len:l.length<=4
 all: ∀v∈l,ValS v
theorem VsS.nil:VsS []:=⟨by simp,by simp⟩
theorem VsS.one{v:Val}(h:ValS v):VsS [v]:=⟨by simp,by simpa using h⟩
def ExS:Nat->Ex->Prop
 |0,e=>VsS e.values/\(e.name.size<=100/\e.kind.size<=100)/\(InI e.op/\(2<=e.op->e.op<=4->e.kids≠[]))/\e.kids=[]
 |n+1,e=>VsS e.values/\(e.name.size<=100/\e.kind.size<=100)/\(InI e.op/\(2<=e.op->e.op<=4->e.kids≠[]))/\e.kids.length<=3/\∀k∈e.kids,ExS n k
theorem ExS.up: ∀{n:Nat} {e:Ex},ExS n e->ExS (n+1) e
 |0,e,h=>⟨h.1,h.2.1,h.2.2.1,by rw[h.2.2.2];simp,by rw[h.2.2.2];simp⟩
 |n+1,e,h=>⟨h.1,h.2.1,h.2.2.1,h.2.2.2.1,fun k hk=>(h.2.2.2.2 k hk).up⟩
theorem ExS.le{n m:Nat}{e:Ex}(h:ExS n e)(hm:n<=m):ExS m e:=by
 induction hm with
 |refl=>exact h
 |step _ ih=>exact ih.up
theorem ExS.kids{n:Nat}{e:Ex}(h:ExS n e):e.kids.length<=3:=by
 cases n with
 |zero=>rw[h.2.2.2];simp
 |succ n=>exact h.2.2.2.1
theorem ExS.kid{n:Nat}{e k:Ex}(h:ExS n e)(hk:k∈e.kids): ∃m,m+1=n/\ExS m k:=by
 cases n with
 |zero=>rw[h.2.2.2] at hk;simp at hk
 |succ n=>exact⟨n,rfl,h.2.2.2.2 k hk⟩
theorem ExS.vals{n:Nat}{e:Ex}(h:ExS n e):VsS e.values:=by cases n<;>exact h.1
theorem ExS.nm{n:Nat}{e:Ex}(h:ExS n e):e.name.size<=100:=by cases n<;>exact h.2.1.1
theorem ExS.kd{n:Nat}{e:Ex}(h:ExS n e):e.kind.size<=100:=by cases n<;>exact h.2.1.2
theorem ExS.opK{n:Nat}{e:Ex}(h:ExS n e):2<=e.op->e.op<=4->e.kids≠[]:=by cases n<;>exact h.2.2.1.2
def OpL(op:Int):Prop:=InI op/\ ¬(2<=op/\op<=4)
theorem OpL.ok{op:Int}(h:OpL op){l:List Ex}:InI op/\(2<=op->op<=4->l≠[]):=⟨h.1,fun a b=>absurd ⟨a,b⟩ h.2⟩
theorem opl{op:Int}(h:(6<=op/\op<=100)\/op=0\/op=1\/op=5){l:List Ex}:InI op/\(2<=op->op<=4->l≠[]):=⟨by unfold InI;omega,fun a b=>by omega⟩
theorem q4p{K:List Decl->Prop}(h: ∀l,l.length=8->(∀d∈l,d.kind.size<=100/\d.name.size<=100/\1<=d.type/\d.type<=5)->K l):Gw K:=by unfold Gw;exact h _ rfl (by decide)
theorem v4r{list:List Int}{at_:Int}{K:Ex->Int->Prop}(hD:DS list at_)(h: ∀r a,ExS 0 r->6<=r.op->DS list a->K r a):j03 list at_ K:=by
 unfold j03 w9x;refine q4p fun l hl hd _=>⟨by unfold InI;omega,Qi hD (by omega) fun r a r0 r1 hD _=>Cnd.mk (fun _=> ?_) fun hc=>⟨by omega,fun y hy=> ?_⟩⟩
 .exact v9z hD fun s a hs hD=>h _ _ ⟨.one ⟨by unfold InI;simp,by show s.size<=100;omega,by simp,by simp⟩,⟨(by decide:(ByteArray.mk (Array.mk [107,101,121])).size<=100),(by decide:(ByteArray.mk (Array.mk [117,115,101,114])).size<=100)⟩,opl (by simp),rfl⟩ (by simp) hD
 obtain⟨hy0,hy1,hy2,hy3⟩:=hd y (getm hy);have one: ∀{op:Int} {v:Val},OpL op->ValS v->ExS 0 (Ex.mk op y.kind y.name [v] []):=fun ho hv=>⟨.one hv,⟨hy1,hy0⟩,ho.ok,rfl⟩
 refine Jn1.mk (fun x=>(∃b,x=(b,y.kind,y.name,([]:List Val),([]:List Ex),x.2.2.2.2.2.1,0,ByteArray.mk (Array.mk []),ByteArray.mk (Array.mk []),[],[],()))/\DS list x.2.2.2.2.2.1) ?_ ?_
 case refine_2=>
  rintro x ⟨⟨b,hx⟩,hD⟩;refine q90 hD fun v a hv hD=>h _ _ ?_ (by simp) hD
  rw[hx];exact one ⟨by unfold InI;simp,by decide⟩ hv
 refine Qi hD (by decide) fun q a q0 q1 hD=> ?_
 refine Jn1.mk (fun x=>(∃b,x=(x.1,b,y.kind,y.name,([]:List Val),([]:List Ex),0,ByteArray.mk (Array.mk []),ByteArray.mk (Array.mk []),[],[],()))/\DS list x.1) ?_ ?_
 case refine_2=>
  rintro x ⟨⟨b,hx⟩,hD⟩;have cmp:Wl list x.1 4 fun r a=>InI (12+r)/\q0v list a y.3 fun v a=>K (Ex.mk (12+r) x.2.2.1 x.2.2.2.1 [v] x.2.2.2.2.2.1) a:=by
   refine Qi hD (by decide) fun r a r0 r1 hD=>⟨by unfold InI;omega,q90 hD fun v a hv hD=>h _ _ ?_ (by simp only;omega) hD⟩
   rw[hx];exact one ⟨by unfold InI;omega,by omega⟩ hv
  refine Cnd.mk (fun _=>cmp) fun _=>Cnd.mk (fun _=>cmp) fun _=>Cnd.mk (fun _=>cmp) fun _=> ?_
  refine⟨⟨b,?_⟩,hD⟩;rw[hx]
 have nx: ∀{a:Int},DS list a->(fun x:Int×BA×BA×List Val×List Ex×Int×Int×BA×BA×List Val×List Ex×Unit=>(∃b,x=(b,y.kind,y.name,([]:List Val),([]:List Ex),x.2.2.2.2.2.1,0,ByteArray.mk (Array.mk []),ByteArray.mk (Array.mk []),[],[],()))/\DS list x.2.2.2.2.2.1) ((0:Int),y.1,y.2,[],[],a,(0:Int),ByteArray.mk (Array.mk []),ByteArray.mk (Array.mk []),[],[],()):=fun hD=>⟨⟨0,rfl⟩,hD⟩
 refine Cnd.mk (fun _=>h _ _ ⟨.nil,⟨hy1,hy0⟩,opl (by simp),rfl⟩ (by simp) hD) fun _=>Cnd.mk (fun _=> ?_) fun _=>Cnd.mk (fun _=> ?_) fun _=>Cnd.mk (fun _=> ?_) fun _=>Cnd.mk (fun _=> ?_) fun _=>nx hD
 .refine Cnd.mk (fun _=>nx hD) fun _=> ?_
  refine Lp3.ind (fun i l a=>DS list a/\0<=i/\i<=3/\(l.length:Int)=i/\∀v∈l,ValS v) (fun i _ _=>(3 - i).toNat) ?_ ⟨hD,by decide,by decide,rfl,by simp⟩;rintro i l a ⟨hD,i0,i3,hl,hv⟩;refine Qi hD (by decide) fun r a r0 r1 hD=>Cnd.mk (fun hc=>q90 hD fun v a hv' hD=>⟨by unfold Sml;simp;omega,by unfold InI;omega,⟨hD,by omega,by omega,by simp;omega,fun u hu=> ?_⟩,by omega⟩) (fun hc=>h _ _ ⟨⟨by simp only;omega,hv⟩,⟨hy1,hy0⟩,opl (by simp),rfl⟩ (by simp) hD)
  rcases List.mem_append.1 hu with hu|hu
  .exact hv u hu
  .rw[List.mem_singleton.1 hu];exact hv'
 .have c:q0v list a 3 fun v a=>K (Ex.mk 11 y.1 y.2 [v] []) a:=q90 hD fun v a hv hD=>h _ _ (one ⟨by unfold InI;simp,by decide⟩ hv) (by simp) hD
  exact Cnd.mk (fun _=>c) fun _=>Cnd.mk (fun _=>c) fun _=>nx hD
 .exact Cnd.mk (fun _=>Qi hD (by decide) fun r a r0 r1 hD=>⟨by unfold InI;omega,q90 hD fun v a hv hD=>h _ _ (one ⟨by unfold InI;omega,by omega⟩ hv) (by simp only;omega) hD⟩) fun _=>⟨⟨0,rfl⟩,hD⟩
 .exact⟨⟨0,rfl⟩,hD⟩
theorem ExS.eta{n:Nat}{e:Ex}(h:ExS n e):ExS n (Ex.mk e.op e.kind e.name e.values e.kids):=by cases e;exact h
theorem u6z{n:Nat}{e:Ex}(h:ExS n e){k m:BA}(hm:m.size<=100)(hk:k.size<=100):ExS (n+1) (Ex.mk 4 k m [] [e]):=⟨.nil,⟨hm,hk⟩,⟨InI.mk (by simp) (by simp),fun _ _=>by simp⟩,by simp,by simpa using h⟩
structure SegS(g:Seg):Prop where
 key:g.key.size<=100
 kind:g.kind.size<=100
 incl:g.incl.length<=3
 excl:g.excl.length<=3
 cond:ExS 4 g.cond
theorem Z2{α:Type}{P:α->Prop}{l:List α}{x:α}(h: ∀y∈l,P y)(hx:P x): ∀y∈l++[x],P y:=fun y hy=>by
 rcases List.mem_append.1 hy with hy|hy
 .exact h y hy
 .rw[List.mem_singleton.1 hy];exact hx
theorem z77{v:Envt}{K:List BA->Prop}(hl:v.segments.length<=1000)(h:K (v.segments.map Seg.key)):q24 v K:=by
 unfold q24;refine Lp2.ind (fun (l:List BA) (i:Int)=>0<=i/\i<=v.segments.length/\l=(v.segments.take i.toNat).map Seg.key) (fun _ (i:Int)=>(v.segments.length - i).toNat) ?_ ⟨Int.le_refl 0,by omega,by simp⟩;rintro l i ⟨i0,i1,rfl⟩ _;refine Cnd.mk (fun hc=>⟨by omega,fun y hy=>⟨by unfold Sml;simp;omega,by unfold InI;omega,⟨by omega,by omega,?_⟩,by omega⟩⟩) fun hc=> ?_
 .rw[show (i+1).toNat=i.toNat+1 by omega,List.take_add_one,hy];simp
 .rw[t99 (by omega)];exact h
def SplS(n:Int)(l:List Rng):Prop:=l.length<=4/\∀r∈l,0<=r.lo/\r.hi<=10000/\1<=r.variation/\r.variation<=n
structure SrvS(n:Int)(s:Srv):Prop where
 kind:s.kind.size<=100
 var:0<=s.variation/\s.variation<=n
 split:SplS n s.split
 by_:s.by_.size<=100
 salt:s.salt.size<=100
structure LayS(l:Lay_):Prop where
 key:l.key.size<=100
 kind:l.kind.size<=100
 salt:l.salt.size<=100
 hold:0<=l.holdout/\l.holdout<=10000
 cool:0<=l.cool/\l.cool<=100
theorem y2i{list:List Int}{at_:Int}{key:BA}{K:Lay_->Int->Prop}(hD:DS list at_)(hk:key.size<=100)(h: ∀l a,LayS l->l.key=key->DS list a->K l a):j5s list at_ key K:=by
 unfold j5s w36;have tt: ∀s∈j5i,s.size<=100:=by decide
 refine z48 hD fun t a ht hD=>Qi hD (by decide) fun c a c0 c1 hD=>⟨by unfold InI;omega,?_⟩
 refine Jn2.mk (fun k a=>k.size<=100/\DS list a) (Qi hD (by decide) fun r a r0 r1 hD=>Cnd.mk (fun _=>⟨by decide,hD⟩) fun _=>⟨by decide,hD⟩) fun kind a hx=> ?_
 obtain⟨hkd,hD⟩:=hx;refine Jn2.mk (fun x a=>DS list a/\0<=x/\x<=10000) (Qi hD (by decide) fun r a r0 r1 hD=>Cnd.mk (fun _=>q7j hD (by decide) fun w a w0 w1 hD=>⟨hD,by omega,by omega⟩) fun _=>⟨hD,by omega,by omega⟩) fun hold a hx=> ?_
 obtain⟨hD,x0,x1⟩:=hx;have ok: ∀{cs:List Col},LayS (Lay_.mk key kind t hold (c*50) cs):=⟨hk,hkd,tt _ ht,⟨x0,x1⟩,⟨by simp only;omega,by simp only;omega⟩⟩;refine Lp4.ind (fun at_ i cs a=>DS list a/\0<=i/\i<=2/\(cs.length:Int)=i/\0<=at_/\at_<=10000/\∀c∈cs,0<=c.lo/\c.hi<=10000/\0<=c.until_/\c.until_<=200) (fun _ i _ _=>(2 - i).toNat) ?_ ⟨hD,by omega,by omega,rfl,by omega,by omega,by simp⟩;rintro at_ i cs a ⟨hD,i0,i1,hl,a0,a1,hc⟩;refine Qi hD (by decide) fun q a q0 q1 hD=>Cnd.mk (fun _=>q7j hD (by decide) fun w a w0 w1 hD=>⟨by unfold InI;omega,by unfold InI;omega,q7j hD (by decide) fun w' a w0' w1' hD=>⟨by unfold InI;omega,Cnd.mk (fun _=>h _ _ ok rfl hD) fun _=> ?_⟩⟩) fun _=>h _ _ ok rfl hD
 refine Qi hD (by decide) fun u a u0 u1 hD=>⟨by unfold Sml;simp;omega,by unfold InI;omega,⟨hD,by omega,by omega,by simp;omega,by omega,by omega,Z2 hc ⟨by simp only;omega,by simp only;omega,by simp only;omega,by simp only;omega⟩⟩,by omega⟩
structure SpsS(l:List Spn):Prop where
 len:l.length<=10000
 all: ∀s∈l,0<=s.lo/\s.lo<s.hi/\s.hi<=10000
structure RulS(n:Int)(r:Rul):Prop where
 name:r.name.size<=100
 cond:ExS 4 r.cond
 serve:SrvS n r.serve
structure FlgS(f:Flg):Prop where
 key:f.key.size<=100
 vlen:1<=f.variations.length/\f.variations.length<=4
 vals: ∀v∈f.variations,ValS v
 nlen:f.needs.length<=4
 needs: ∀q∈f.needs,q.flag.size<=100
 tlen:f.targets.length<=3
 tgts: ∀t∈f.targets,t.kind.size<=100
 rlen:f.rules.length<=4
 rules: ∀r∈f.rules,RulS f.variations.length r
 dflt:SrvS f.variations.length f.dflt
structure ExpS(x:Exper):Prop where
 key:x.key.size<=100
 layer:x.layer.size<=100
 flag:x.flag.size<=100
 claims:SpsS x.claims
 arms:SplS 4 x.arms
 cond:ExS 4 x.cond
structure EnvS(v:Envt):Prop where
 hkind:v.settings.holdoutKind.size<=100
 attrs: ∀d∈v.attributes,d.kind.size<=100/\d.name.size<=100
 slen:v.segments.length<=3
 segs: ∀g∈v.segments,SegS g
 flen:v.flags.length<=4
 flags: ∀f∈v.flags,FlgS f
 llen:v.layers.length<=2
 layers: ∀l∈v.layers,LayS l
 xlen:v.experiments.length<=3
 exps: ∀x∈v.experiments,ExpS x
end Go.En
end
noncomputable section
namespace Go.En
open Go Go.Fl Go.Fl.Lk Go.Fx
abbrev S4:=Int×Int×Int×Int
def w64(x:Int):Int:=IntKind.u64.wrap x
def xr(a b:Int):Int:=IntKind.u64.wrap ((BitVec.ofInt 64 a ^^^ BitVec.ofInt 64 b).toNat:Int)
def rot(x n:Int):Int:=IntKind.u64.wrap ((BitVec.ofInt 64 (IntKind.u64.wrap (x*2 ^ Min.min n.toNat 64))|||BitVec.ofInt 64 (x.fdiv (2 ^ Min.min (IntKind.u64.wrap (64 - n)).toNat 64))).toNat:Int)
def rnd(s:S4):S4:=
  (w64 (rot (w64 (s.1+s.2.1)) 32+xr (rot s.2.2.2 16) (w64 (s.2.2.1+s.2.2.2))),
   xr (rot (xr (rot s.2.1 13) (w64 (s.1+s.2.1))) 17) (w64 (w64 (s.2.2.1+s.2.2.2)+xr (rot s.2.1 13) (w64 (s.1+s.2.1)))),
   rot (w64 (w64 (s.2.2.1+s.2.2.2)+xr (rot s.2.1 13) (w64 (s.1+s.2.1)))) 32,
   xr (rot (xr (rot s.2.2.2 16) (w64 (s.2.2.1+s.2.2.2))) 21) (w64 (rot (w64 (s.1+s.2.1)) 32+xr (rot s.2.2.2 16) (w64 (s.2.2.1+s.2.2.2)))))
def rn:Nat->S4->S4
  |0,s=>s
  |k+1,s=>rnd (rn k s)
def tm(y:Int)(k:Nat):BitVec 64:=BitVec.ofInt 64 (IntKind.u64.wrap (IntKind.u64.wrap y*2 ^ Min.min (8*k) 64))
def wv(b:List Int)(o:Nat)(v:BitVec 64):Nat->BitVec 64
  |0=>v
  |k+1=>wv b o v k|||tm (b.getD (o+k) 0) k
def s0(k0 k1:Int):S4:=(xr k0 8317987319222330741,xr k1 7237128888997146477,xr k0 7816392313619706465,xr k1 8387220255154660723)
def topV(n:Nat):BitVec 64:=BitVec.ofInt 64 (IntKind.u64.wrap (IntKind.u64.wrap (n:Int)*2 ^ Min.min (Int.toNat 56) 64))
def y96(b:List Int):BitVec 64:=wv b (8*(b.length / 8)) 0 (b.length % 8)|||topV b.length
theorem w5u(x:Int):IntKind.u64.wrap x=x % 18446744073709551616:=rfl
theorem u31(x:Int):IntKind.u64.wrap x=((BitVec.ofInt 64 (IntKind.u64.wrap x)).toNat:Int):=by rw[BitVec.toNat_ofInt,w5u];omega
theorem j6y{n:Nat}(h:n<18446744073709551616):IntKind.u64.wrap (n:Int)=n:=by show (n:Int) % 18446744073709551616=n;omega
theorem y6q(v:BitVec 64):BitVec.ofInt 64 ((v.toNat:Nat):Int)=v:=by simp
theorem y97(v t:BitVec 64):IntKind.u64.wrap ((BitVec.ofInt 64 ((v.toNat:Nat):Int)|||t).toNat:Int)=((v|||t).toNat:Int):=by rw[y6q];exact j6y (v|||t).isLt
theorem j9k{x k:Int}{K:Int->Prop}(hk:k=13\/k=16\/k=17\/k=21\/k=32)(h:K (rot x k)):Hd x k K:=by
  have e:IntKind.u64.wrap (↑(BitVec.ofInt 64 (IntKind.u64.wrap k) &&& BitVec.ofInt 64 63).toNat:Int)=k:=by rcases hk with rfl|rfl|rfl|rfl|rfl<;>decide
  have e2:0<=IntKind.u64.wrap (64 - k):=by rcases hk with rfl|rfl|rfl|rfl|rfl<;>decide
  unfold Hd;rw[e];exact⟨by omega,e2,h⟩
theorem j1y{x k:Int}{K:Int->Prop}(hk:k=13\/k=16\/k=17\/k=21\/k=32)(h:K (rot x k)):z6h x k K:=by
  have e2:0<=IntKind.u64.wrap (64 - k):=by rcases hk with rfl|rfl|rfl|rfl|rfl<;>decide
  unfold z6h;exact⟨by omega,e2,h⟩
theorem y6r(s:S4)(i:Int)(h:0<=i):rnd (rn i.toNat s)=rn (i+1).toNat s:=by rw[show (i+1).toNat=i.toNat+1 by omega];rfl
theorem y2j{a b c d n:Int}{q:Nat}{K:Int->Int->Int->Int->Prop}(hn:n=(q:Int))(h1:q<=1000)(h:K (rn q (a,b,c,d)).1 (rn q (a,b,c,d)).2.1 (rn q (a,b,c,d)).2.2.1 (rn q (a,b,c,d)).2.2.2):Z4 a b c d n K:=by
  subst hn;unfold Z4 q0m;refine Lp5.ind (fun i a' b' c' d'=>0<=i/\i<=(q:Int)/\(a',b',c',d')=rn i.toNat (a,b,c,d)) (fun i _ _ _ _=>((q:Int) - i).toNat) ?_ ⟨Int.le_refl 0,by omega,rfl⟩;rintro i a' b' c' d' ⟨i0,i1,hs⟩;refine Cnd.mk (fun hc=>j9k (by simp) (j9k (by simp) (j9k (by simp) (j9k (by simp) (j9k (by simp) (j9k (by simp) ⟨by unfold InI;omega,⟨by omega,by omega,?_⟩,by omega⟩)))))) fun hc=> ?_
  . rw[<-y6r _ _ i0,<-hs];simp only[rnd,w64,xr]
  . rw[show q=i.toNat by omega,<-hs] at h;exact h
theorem v4s{v:Sip}{n:Int}{q:Nat}{K:Sip->Prop}(hn:n=(q:Int))(h1:q<=1000)(h:K (Sip.mk (rn q (v.1,v.2,v.3,v.4)).1 (rn q (v.1,v.2,v.3,v.4)).2.1 (rn q (v.1,v.2,v.3,v.4)).2.2.1 (rn q (v.1,v.2,v.3,v.4)).2.2.2)):Jw v n K:=by
  subst hn;unfold Jw q71;refine Lp5.ind (fun i a' b' c' d'=>0<=i/\i<=(q:Int)/\(a',b',c',d')=rn i.toNat (v.1,v.2,v.3,v.4)) (fun i _ _ _ _=>((q:Int) - i).toNat) ?_ ⟨Int.le_refl 0,by omega,rfl⟩;rintro i a' b' c' d' ⟨i0,i1,hs⟩;refine Cnd.mk (fun hc=>j1y (by simp) (j1y (by simp) (j1y (by simp) (j1y (by simp) (j1y (by simp) (j1y (by simp) ⟨by unfold InI;omega,⟨by omega,by omega,?_⟩,by omega⟩)))))) fun hc=> ?_
  . rw[<-y6r _ _ i0,<-hs];simp only[rnd,w64,xr]
  . rw[show q=i.toNat by omega,<-hs] at h;exact h
theorem exR: ∃R:Nat->S4->S4,(∀(a b c d n:Int) (q:Nat) (K:Int->Int->Int->Int->Prop),n=(q:Int)->q<=1000->K (R q (a,b,c,d)).1 (R q (a,b,c,d)).2.1 (R q (a,b,c,d)).2.2.1 (R q (a,b,c,d)).2.2.2->Z4 a b c d n K)/\
    ∀(v:Sip) (n:Int) (q:Nat) (K:Sip->Prop),n=(q:Int)->q<=1000->K (Sip.mk (R q (v.1,v.2,v.3,v.4)).1 (R q (v.1,v.2,v.3,v.4)).2.1 (R q (v.1,v.2,v.3,v.4)).2.2.1 (R q (v.1,v.2,v.3,v.4)).2.2.2)->Jw v n K:=
  ⟨rn,fun _ _ _ _ _ _ _ hn hq h=>y2j hn hq h,fun _ _ _ _ hn hq h=>v4s hn hq h⟩
def RR:Nat->S4->S4:=Classical.choose exR
theorem v4t{a b c d n:Int}{q:Nat}{K:Int->Int->Int->Int->Prop}(hn:n=(q:Int))(h1:q<=1000)(h:K (RR q (a,b,c,d)).1 (RR q (a,b,c,d)).2.1 (RR q (a,b,c,d)).2.2.1 (RR q (a,b,c,d)).2.2.2):Z4 a b c d n K:=(Classical.choose_spec exR).1 a b c d n q K hn h1 h
theorem w5v{v:Sip}{n:Int}{q:Nat}{K:Sip->Prop}(hn:n=(q:Int))(h1:q<=1000)(h:K (Sip.mk (RR q (v.1,v.2,v.3,v.4)).1 (RR q (v.1,v.2,v.3,v.4)).2.1 (RR q (v.1,v.2,v.3,v.4)).2.2.1 (RR q (v.1,v.2,v.3,v.4)).2.2.2)):Jw v n K:=(Classical.choose_spec exR).2 v n q K hn h1 h
def wds(s:S4)(m:Int):S4:=(xr (RR 2 (s.1,s.2.1,s.2.2.1,xr s.2.2.2 m)).1 m,(RR 2 (s.1,s.2.1,s.2.2.1,xr s.2.2.2 m)).2)
def blks(b:List Int)(k0 k1:Int):Nat->S4
  |0=>s0 k0 k1
  |i+1=>wds (blks b k0 k1 i) ((wv b (8*i) 0 8).toNat:Int)
def fin4(s:S4):S4:=RR 4 (s.1,s.2.1,xr s.2.2.1 255,s.2.2.2)
def endV(s:S4):Int:=xr (xr (xr (fin4 s).1 (fin4 s).2.1) (fin4 s).2.2.1) (fin4 s).2.2.2
def sumV(k0 k1:Int)(b:List Int):Int:=
  endV (wds (blks b k0 k1 (b.length / 8)) ((y96 b).toNat:Int))
theorem y6s{a b c d m:Int}{K:Int->Int->Int->Int->Prop}(h:K (wds (a,b,c,d) m).1 (wds (a,b,c,d) m).2.1 (wds (a,b,c,d) m).2.2.1 (wds (a,b,c,d) m).2.2.2):Rp a b c d m K:=by unfold Rp q3w;simp only[wds,xr] at h;exact v4t (q:=2) rfl (by decide) h
theorem u32{s:S4}{K:Int->Prop}(h:K (endV s)):Z4 s.1 s.2.1 (IntKind.u64.wrap (↑(BitVec.ofInt 64 s.2.2.1 ^^^ BitVec.ofInt 64 255).toNat:Int)) s.2.2.2 4 fun Zx z34 w89 v11=>K (IntKind.u64.wrap (↑(BitVec.ofInt 64 (IntKind.u64.wrap (↑(BitVec.ofInt 64 (IntKind.u64.wrap (↑(BitVec.ofInt 64 Zx ^^^ BitVec.ofInt 64 z34).toNat:Int)) ^^^ BitVec.ofInt 64 w89).toNat:Int)) ^^^ BitVec.ofInt 64 v11).toNat:Int)):=by simp only[endV,fin4,xr] at h;exact v4t (q:=4) rfl (by decide) h
theorem y6t{s:S4}{K:Int->Prop}(h:K (endV s)):Jw (Sip.mk s.1 s.2.1 (IntKind.u64.wrap (↑(BitVec.ofInt 64 s.2.2.1 ^^^ BitVec.ofInt 64 255).toNat:Int)) s.2.2.2) 4 fun x=>K (IntKind.u64.wrap (↑(BitVec.ofInt 64 (IntKind.u64.wrap (↑(BitVec.ofInt 64 (IntKind.u64.wrap (↑(BitVec.ofInt 64 x.1 ^^^ BitVec.ofInt 64 x.2).toNat:Int)) ^^^ BitVec.ofInt 64 x.3).toNat:Int)) ^^^ BitVec.ofInt 64 x.4).toNat:Int)):=by simp only[endV,fin4,xr] at h;exact w5v (q:=4) rfl (by decide) h
theorem y6u{a b c d m:Int}{K:Sip->Prop}(h: ∀x:Sip,(IntKind.u64.wrap (↑(BitVec.ofInt 64 x.1 ^^^ BitVec.ofInt 64 m).toNat:Int),x.2,x.3,x.4)=wds (a,b,c,d) m->K x):Jw (Sip.mk a b c (IntKind.u64.wrap (↑(BitVec.ofInt 64 d ^^^ BitVec.ofInt 64 m).toNat:Int))) 2 K:=by refine w5v (q:=2) rfl (by decide) (h _ ?_);simp only[wds,xr]
theorem u60(b:List Int)(o:Nat)(v:BitVec 64): ∀k,wv b o v k=wv b o 0 k|||v
  |0=>by simp[wv]
  |k+1=>by rw[wv,wv,u60 b o v k,BitVec.or_assoc,BitVec.or_comm v,<-BitVec.or_assoc]
theorem v7y{b:List Int}{o k:Nat}{v:BitVec 64}{y:Int}(hy:b[o+k]? =some y):wv b o v (k+1)=wv b o v k|||tm y k:=by rw[wv,List.getD_eq_getElem?_getD,hy];rfl
theorem u33(n:Nat):topV n=BitVec.ofInt 64 (IntKind.u64.wrap (IntKind.u64.wrap ((n:Int).tmod 256)*2 ^ Min.min (Int.toNat 56) 64)):=by
  have e:(2:Int) ^ Min.min (Int.toNat 56) 64=72057594037927936:=by decide
  have h2:IntKind.u64.wrap (IntKind.u64.wrap (n:Int)*72057594037927936)=IntKind.u64.wrap (IntKind.u64.wrap ((n:Int).tmod 256)*72057594037927936):=by rw[w5u,w5u,w5u,w5u,Int.tmod_eq_emod_of_nonneg (by omega)];omega
  unfold topV;rw[e,h2]
theorem v09{k0 k1:Int}{b:List Int}{K:Int->Prop}(hb:b.length<=1099511627776)(h:K (sumV k0 k1 b)):z15 k0 k1 b K:=by
  unfold z15 z86;refine fun _=>⟨by decide,?_⟩
  refine Lp5.ind (fun i a' b' c' d'=> ∃j:Nat,i=8*(j:Int)/\8*j<=b.length/\(a',b',c',d')=blks b k0 k1 j) (fun i _ _ _ _=>(b.length - i).toNat) ?_ ⟨0,rfl,by omega,rfl⟩;rintro i a' b' c' d' ⟨j,rfl,hj,hs⟩;refine⟨by unfold InI;omega,fun _=>Cnd.mk (fun hc=> ?_) fun hc=> ?_⟩
  . refine Lp2.ind (fun v k=> ∃q:Nat,k=(q:Int)/\q<=8/\v=((wv b (8*j) 0 q).toNat:Int)) (fun _ k=>(8 - k).toNat) ?_ ⟨0,rfl,by omega,rfl⟩
    rintro v k ⟨q,rfl,hq,rfl⟩;refine Cnd.mk (fun hk=>⟨by unfold InI;omega,⟨by omega,by omega⟩,fun y hy=>⟨by unfold InI;omega,by omega,by unfold InI;omega,⟨q+1,by omega,by omega,?_⟩,by omega⟩⟩) fun hk=> ?_
    . rw[show (8*(j:Int)+q).toNat=8*j+q by omega] at hy
      rw[v7y hy,show (8*(q:Int)).toNat=8*q by omega];exact y97 _ _
    . refine y6s ⟨by unfold InI;omega,⟨j+1,by omega,by omega,?_⟩,by omega⟩
      rw[hs,show q=8 by omega];rfl
  . refine fun _=>⟨by decide,?_⟩
    have hjl:j=b.length / 8:=by omega
    have hm:((b.length:Nat):Int).tmod 8=((b.length % 8:Nat):Int):=by rw[Int.tmod_eq_emod_of_nonneg (by omega)];omega
    rw[hm];refine Lp2.ind (fun v k=> ∃q:Nat,k=(q:Int)/\q<=b.length % 8/\v=((wv b (8*j) (topV b.length) q).toNat:Int)) (fun _ k=>(8 - k).toNat) ?_ ⟨0,rfl,by omega,by unfold wv topV;exact u31 _⟩;rintro v k ⟨q,rfl,hq,rfl⟩;refine Cnd.mk (fun hk _ _=>⟨by decide,by unfold InI;omega,by unfold InI;omega,⟨by omega,by omega⟩,fun y hy=>⟨by unfold InI;omega,by omega,by unfold InI;omega,⟨q+1,by omega,by omega,?_⟩,by omega⟩⟩) fun hk=> ?_
    . rw[show ((b.length:Int) - ((b.length % 8:Nat):Int)+q).toNat=8*j+q by omega] at hy
      rw[v7y hy,show (8*(q:Int)).toNat=8*q by omega];exact y97 _ _
    . refine y6s (u32 (s:=wds (a',b',c',d') _) ?_)
      rw[hs,show q=b.length % 8 by omega,u60,hjl];exact h
theorem y6v{k0 k1:Int}{b:List Int}{K:Int->Prop}(hb:b.length<=1099511627776)(h:K (sumV k0 k1 b)):w2j k0 k1 b K:=by
  unfold w2j w91;have hd:((b.length:Nat):Int).tdiv 8=((b.length / 8:Nat):Int):=by rw[Int.tdiv_eq_ediv_of_nonneg (by omega)];omega
  rw[hd];refine Lp5.ind (fun i a' b' c' d'=> ∃j:Nat,i=(j:Int)/\j<=b.length / 8+1/\(j<=b.length / 8->(a',b',c',d')=blks b k0 k1 j)/\(j=b.length / 8+1->(a',b',c',d')=wds (blks b k0 k1 (b.length / 8)) ((y96 b).toNat:Int))) (fun i _ _ _ _=>(b.length / 8+1 - i).toNat) ?_ ⟨0,rfl,by omega,fun _=>rfl,fun h=>by omega⟩;rintro i a' b' c' d' ⟨j,rfl,hj,hs,hf⟩;refine fun _=>⟨by decide,by unfold InI;omega,Cnd.mk (fun hc=> ?_) fun hc=> ?_⟩
  . have hs:=hs (by omega)
    have done: ∀q:Nat,(q=8\/q=b.length % 8/\j=b.length / 8)->q<=8->(j<b.length / 8->q=8)->(j=b.length / 8->q=b.length % 8)->Jn1 (fun Qe=>Jw (Sip.mk a' b' c' (IntKind.u64.wrap (↑(BitVec.ofInt 64 d' ^^^ BitVec.ofInt 64 Qe).toNat:Int))) 2 fun Ql=>InI ((j:Int)+1)/\(∃j':Nat,(j:Int)+1=(j':Int)/\j'<=b.length / 8+1/\(j'<=b.length / 8->(IntKind.u64.wrap (↑(BitVec.ofInt 64 Ql.1 ^^^ BitVec.ofInt 64 Qe).toNat:Int),Ql.2,Ql.3,Ql.4)=blks b k0 k1 j')/\(j'=b.length / 8+1->(IntKind.u64.wrap (↑(BitVec.ofInt 64 Ql.1 ^^^ BitVec.ofInt 64 Qe).toNat:Int),Ql.2,Ql.3,Ql.4)=wds (blks b k0 k1 (b.length / 8)) ((y96 b).toNat:Int)))/\((b.length / 8:Nat)+1 - ((j:Int)+1)).toNat<((b.length / 8:Nat)+1 - (j:Int)).toNat) fun v5u=>b.length<=(9223372036854775807:Nat)->(8:Int)≠0/\InI ((b.length / 8:Nat):Int)/\Cnd ((j:Int)=((b.length / 8:Nat):Int)) (b.length<=(9223372036854775807:Nat)->(256:Int)≠0/\(0:Int)<=56/\v5u (IntKind.u64.wrap (↑(BitVec.ofInt 64 ((wv b (8*j) 0 q).toNat:Int)|||BitVec.ofInt 64 (IntKind.u64.wrap (IntKind.u64.wrap ((b.length:Int).tmod 256)*2 ^ Min.min (Int.toNat 56) 64))).toNat:Int))) (v5u ((wv b (8*j) 0 q).toNat:Int)):=fun q _ hq h1 h2=>by
      refine Jn1.mk (fun x=>(j<b.length / 8->x=((wv b (8*j) 0 8).toNat:Int))/\(j=b.length / 8->x=((y96 b).toNat:Int))) (fun _=>⟨by decide,by unfold InI;omega,Cnd.mk (fun he=>fun _=>⟨by decide,by decide,fun _=>by omega,fun hjl=> ?_⟩) fun hne=>⟨fun hl=>by rw[h1 hl],fun he=>by omega⟩⟩) fun x hx=>y6u fun s hsw=>⟨by unfold InI;omega,⟨j+1,by omega,by omega,fun hl=> ?_,fun he=> ?_⟩,by omega⟩
      . rw[<-u33,y97,h2 hjl,hjl];rfl
      . rw[hsw,hx.1 (by omega),blks,<-hs]
      . rw[hsw,hx.2 (by omega),<-show j=b.length / 8 by omega,<-hs]
    refine Lp2.ind (fun v k=> ∃q:Nat,k=(q:Int)/\q<=8/\(j=b.length / 8->q<=b.length % 8)/\v=((wv b (8*j) 0 q).toNat:Int)) (fun _ k=>(8 - k).toNat) ?_ ⟨0,rfl,by omega,fun _=>by omega,rfl⟩;rintro v k ⟨q,rfl,hq,hq2,rfl⟩;refine Cnd.mk (fun hk=>⟨by unfold InI;omega,by unfold InI;omega,fun _=>Cnd.mk (fun hl=>⟨by unfold InI;omega,by unfold InI;omega,⟨by omega,by omega⟩,fun y hy=>⟨by unfold InI;omega,?_,by unfold InI;omega,⟨q+1,by omega,by omega,fun _=>by omega,?_⟩,by omega⟩⟩) fun hl=> ?_⟩) fun hk=> ?_
    . rw[show 8*(q:Int)=((8*q:Nat):Int) by omega,j6y (by omega)];omega
    . rw[show (8*(j:Int)+q).toNat=8*j+q by omega] at hy
      rw[v7y hy,show 8*(q:Int)=((8*q:Nat):Int) by omega,j6y (n:=8*q) (by omega),Int.toNat_natCast];exact y97 _ _
    . exact done q (by omega) hq (fun h=>by omega) (fun h=>by omega)
    . exact done q (by omega) hq (fun h=>by omega) (fun h=>by omega)
  . have hf:=hf (by omega)
    unfold sumV at h;rw[<-hf] at h;exact y6t (s:=(a',b',c',d')) h
def fb(n k:Nat):Int:=IntKind.u8.wrap ((IntKind.u64.wrap (n:Int)).fdiv (2 ^ Min.min (8*k) 64))
def hdr(n:Nat)(j:Nat):List Int:=(List.range j).map fun i=>fb n (7 - i)
def frm(l:List (List Int)):List Int:=l.flatMap fun f=>hdr f.length 8++f
theorem v90(n j:Nat):hdr n (j+1)=hdr n j++[fb n (7 - j)]:=by simp[hdr,List.range_succ]
theorem j4r(n j:Nat):(hdr n j).length=j:=by simp[hdr]
theorem w2r{l:List (List Int)}{i:Nat}{y:List Int}(hy:l[i]? =some y):frm (l.take (i+1))=frm (l.take i)++(hdr y.length 8++y):=by rw[List.take_add_one,hy];simp[frm]
theorem w5w(l:List (List Int))(i:Nat):(frm (l.take i)).length<=(frm l).length:=by
  have h:frm l=frm (l.take i)++frm (l.drop i):=by
    conv=>lhs;rw[<-List.take_append_drop i l]
    exact List.flatMap_append
  rw[h,List.length_append];omega
theorem w5x{l:List (List Int)}{K:List Int->Prop}(hl:(frm l).length<=1000000000)(hn:l.length<=1000)(h:K (frm l)):q59 l K:=by
  unfold q59;refine fun _=>Lp2.ind (fun o i=> ∃j:Nat,i=(j:Int)/\j<=l.length/\o=frm (l.take j)) (fun _ i=>(l.length - i).toNat) ?_ ⟨0,rfl,by omega,rfl⟩
  rintro o i ⟨j,rfl,hj,rfl⟩;refine Cnd.mk (fun hc=>⟨by omega,fun y hy=> ?_⟩) fun hc=> ?_
  . have hy:l[j]? =some y:=hy
    have hln:=w5w l (j+1);rw[w2r hy] at hln;simp only[List.length_append,j4r] at hln;refine Lp2.ind (fun o k=> ∃q:Nat,k=7 - (q:Int)/\q<=8/\o=frm (l.take j)++hdr y.length q) (fun _ k=>(k+1).toNat) ?_ ⟨0,rfl,by omega,by simp[hdr]⟩;rintro o k ⟨q,rfl,hq,rfl⟩;refine Cnd.mk (fun hk _=>⟨by unfold InI;omega,by omega,?_,by unfold InI;omega,⟨q+1,by omega,by omega,?_⟩,by omega⟩) fun hk=>⟨?_,by unfold InI;omega,⟨j+1,by omega,by omega,?_⟩,by omega⟩
    . unfold Sml;simp only[List.length_append,j4r,List.length_singleton];omega
    . rw[v90,<-List.append_assoc,show (8*(7 - (q:Int))).toNat=8*(7 - q) by omega];rfl
    . unfold Sml;simp only[List.length_append,j4r];omega
    . rw[w2r hy,show q=8 by omega,List.append_assoc]
  . rw[show j=l.length by omega,List.take_length];exact h
theorem v7z{l:List (List Int)}{K:List Int->Prop}(hl:(frm l).length<=1000000000)(hn:l.length<=1000)(h:K (frm l)):j1j l K:=by
  unfold j1j;refine Lp2.ind (fun o i=> ∃j:Nat,i=(j:Int)/\j<=l.length/\o=frm (l.take j)) (fun _ i=>(l.length - i).toNat) ?_ ⟨0,rfl,by omega,rfl⟩;rintro o i ⟨j,rfl,hj,rfl⟩;refine fun _=>Cnd.mk (fun hc=>⟨by omega,fun y hy _=> ?_⟩) fun hc=> ?_
  . have hy:l[j]? =some y:=hy
    have hln:=w5w l (j+1);rw[w2r hy] at hln;simp only[List.length_append,j4r] at hln;refine Lp2.ind (fun o k=> ∃q:Nat,k=56 - 8*(q:Int)/\q<=8/\o=frm (l.take j)++hdr y.length q) (fun _ k=>(k+8).toNat) ?_ ⟨0,rfl,by omega,by simp[hdr]⟩;rintro o k ⟨q,rfl,hq,rfl⟩;refine Cnd.mk (fun hk=> ?_) fun hk=>⟨by omega,fun z hz=> ?_⟩
    . have e:56 - 8*(q:Int)=((8*(7 - q):Nat):Int):=by omega
      rw[e,j6y (by omega)];refine⟨by omega,?_,by unfold InI;omega,⟨q+1,by omega,by omega,?_⟩,by omega⟩
      . unfold Sml;simp only[List.length_append,j4r,List.length_singleton];omega
      . rw[v90,<-List.append_assoc,Int.toNat_natCast];rfl
    . have hz:l[j]? =some z:=hz
      rw[hy] at hz;cases hz;refine⟨?_,by unfold InI;omega,⟨j+1,by omega,by omega,?_⟩,by omega⟩
      . unfold Sml;simp only[List.length_append,j4r];omega
      . rw[w2r hy,show q=8 by omega,List.append_assoc]
  . rw[show j=l.length by omega,List.take_length];exact h
theorem y6w(a b:Int):0<=xr a b/\xr a b<18446744073709551616:=by unfold xr;rw[j6y (BitVec.isLt _)];have:=(BitVec.ofInt 64 a ^^^ BitVec.ofInt 64 b).isLt;omega
def ofV0(salt key:BA):Int:=(sumV 1 0 (frm [bytesOf salt,bytesOf key])).tmod 10000
theorem v1a(salt key:BA):0<=ofV0 salt key/\ofV0 salt key<10000:=by
  have h: ∀s,0<=endV s:=fun s=>(y6w _ _).1
  have h0:0<=sumV 1 0 (frm [bytesOf salt,bytesOf key]):=h _;exact⟨Int.tmod_nonneg _ h0,Int.tmod_lt_of_pos _ (by decide)⟩
theorem v91(a b:BA):(frm [bytesOf a,bytesOf b]).length=a.size+b.size+16:=by
  have h: ∀a:BA,(bytesOf a).length=a.size:=fun a=>by simp[bytesOf]
  simp only[frm,List.flatMap_cons,List.flatMap_nil,List.length_append,j4r,h,List.length_nil];omega
theorem v1b{salt key:BA}{K:Int->Prop}(hs:salt.size<=10000000)(hk:key.size<=10000000)(h:K (ofV0 salt key)):He salt key K:=by have hl:=v91 salt key;have hr:=v1a salt key;unfold He j3t;refine⟨by unfold Sml;omega,by unfold Sml;omega,?_⟩;show q8t 1 [bytesOf salt,bytesOf key] _;unfold q8t z6a;refine w5x (by omega) (by simp) (v09 (by omega) ⟨by decide,?_,h⟩);exact InI.mk (Int.le_trans (by decide) hr.1) (Int.le_trans (Int.le_of_lt hr.2) (by decide))
theorem y2k{salt key:BA}{K:Int->Prop}(hs:salt.size<=10000000)(hk:key.size<=10000000)(h:K (ofV0 salt key)):q8z salt key K:=by have hl:=v91 salt key;have hr:=v1a salt key;unfold q8z w92;refine⟨by unfold Sml;omega,by unfold Sml;omega,?_⟩;show j54 1 [bytesOf salt,bytesOf key] _;unfold j54 w4d;refine v7z (by omega) (by simp) (y6v (by omega) ⟨by decide,?_,h⟩);exact InI.mk (Int.le_trans (by decide) hr.1) (Int.le_trans (Int.le_of_lt hr.2) (by decide))
theorem exOf: ∃F:BA->BA->Int,(∀a b,0<=F a b/\F a b<10000)/\(∀(salt key:BA) (K:Int->Prop),salt.size<=10000000->key.size<=10000000->K (F salt key)->He salt key K)/\
    ∀(salt key:BA) (K:Int->Prop),salt.size<=10000000->key.size<=10000000->K (F salt key)->q8z salt key K:=
  ⟨ofV0,v1a,fun _ _ _ h1 h2 h=>v1b h1 h2 h,fun _ _ _ h1 h2 h=>y2k h1 h2 h⟩
def ofV:BA->BA->Int:=Classical.choose exOf
theorem q7k{salt key:BA}{K:Int->Prop}(hs:salt.size<=10000000)(hk:key.size<=10000000)(h:K (ofV salt key)):He salt key K:=(Classical.choose_spec exOf).2.1 salt key K hs hk h
theorem z99{salt key:BA}{K:Int->Prop}(hs:salt.size<=10000000)(hk:key.size<=10000000)(h:K (ofV salt key)):q8z salt key K:=(Classical.choose_spec exOf).2.2 salt key K hs hk h
end Go.En
end
noncomputable section
namespace Go.En
open Go Go.Fl Go.Fl.Lk Go.Fx
theorem w82{α:Type}{a b:List α}(hl:a.length=b.length){F:α->α->(Bool->Prop)->Prop}{K:Bool->Prop}(hF: ∀x∈a,∀y∈b,∀K:Bool->Prop,(∀r,(r=true↔x=y)->K r)->F x y K)(h: ∀r,(r=true↔a=b)->K r):
  Lp1 (fun i Y=>a.length<=9223372036854775807->Cnd (i<(a.length:Int)) ((0<=i/\i<(a.length:Int))/\∀x,a[i.toNat]? =some x->(0<=i/\i<(b.length:Int))/\∀y,b[i.toNat]? =some y->F x y fun r=>Cnd (r=true) (InI (i+1)/\Y (i+1)) (K false)) (K true)) 0:=by
 refine Lp1.ind (fun (i:Int)=>0<=i/\i<=a.length/\a.take i.toNat=b.take i.toNat) (fun (i:Int)=>(a.length - i).toNat) ?_ ⟨by omega,by omega,by simp⟩;rintro i ⟨i0,i1,he⟩ _;refine Cnd.mk (fun hc=>⟨by omega,fun x hx=>⟨by omega,fun y hy=>hF x (getm hx) y (getm hy) _ fun r hr=>Cnd.mk (fun hc=>⟨by unfold InI;omega,⟨by omega,by omega,?_⟩,by omega⟩) fun hc=>h _ ⟨fun h=>(by cases h),fun h=> ?_⟩⟩⟩) fun hc=>h _ ⟨fun _=> ?_,fun _=>rfl⟩
 .rw[show (i+1).toNat=i.toNat+1 by omega,List.take_add_one,List.take_add_one,he,hx,hy,hr.1 hc]
 .subst h;rw[hx] at hy;exact absurd (hr.2 (by cases hy;rfl)) hc
 .rwa [t99 (by omega),t99 (by omega)] at he
theorem y2l{a b:List BA}{K:Bool->Prop}(h: ∀r,(r=true↔a=b)->K r):j5q a b K:=by
 unfold j5q;intro ha hb;refine Cnd.mk (fun hl=> ?_) fun hl=>h _ ⟨fun h=>(by cases h),fun e=>by rw[e] at hl;exact absurd rfl hl⟩
 refine Lp1.ind (fun (i:Int)=>0<=i/\i<=a.length/\a.take i.toNat=b.take i.toNat) (fun (i:Int)=>(a.length - i).toNat) ?_ ⟨by omega,by omega,by simp⟩;rintro i ⟨i0,i1,he⟩ _;refine Cnd.mk (fun hc=>⟨by omega,fun x hx=>⟨by omega,fun y hy=>Cnd.mk (fun hc=>⟨by unfold InI;omega,⟨by omega,by omega,?_⟩,by omega⟩) fun hc=>h _ ⟨fun h=>(by cases h),fun h=> ?_⟩⟩⟩) fun hc=>h _ ⟨fun _=> ?_,fun _=>rfl⟩
 .rw[show (i+1).toNat=i.toNat+1 by omega,List.take_add_one,List.take_add_one,he,hx,hy,hc]
 .subst h;rw[hx] at hy;cases hy;exact absurd rfl hc
 .rwa [t99 (by omega),t99 (by omega)] at he
theorem Gu{l:List BA}{s:BA}{K:Bool->Prop}(h: ∀r,(r=true↔s∈l)->K r):U6 l s K:=by
 unfold U6;refine Lp1.ind (fun (i:Int)=>0<=i/\i<=l.length/\s∉l.take i.toNat) (fun (i:Int)=>(l.length - i).toNat) ?_ ⟨by omega,by omega,by simp⟩;rintro i ⟨i0,i1,he⟩ _;refine Cnd.mk (fun hc=>⟨by omega,fun x hx=>Cnd.mk (fun e=>h _ ⟨fun _=>e▸getm hx,fun _=>rfl⟩) fun e=>⟨by unfold InI;omega,⟨by omega,by omega,?_⟩,by omega⟩⟩) fun hc=>h _ ⟨fun h=>(by cases h),fun hm=> ?_⟩
 .rw[show (i+1).toNat=i.toNat+1 by omega,List.take_add_one,hx];simp[he,Ne.symm e]
 .rw[t99 (by omega)] at he;exact absurd hm he
theorem z7e{a b:Val}{K:Bool->Prop}(h: ∀r,(r=true↔a=b)->K r):q49 a b K:=by
 unfold q49 j79;have no:(a≠b)->K false:=fun hn=>h _ ⟨fun h=>(by cases h),fun e=>absurd e hn⟩
 refine Cnd.mk (fun h1=>Cnd.mk (fun h2=>Cnd.mk (fun h3=>y2l fun r hr=>h r (hr.trans ⟨fun h4=> ?_,fun e=>by rw[e]⟩)) fun h=>no fun e=>h (by rw[e])) fun h=>no fun e=>h (by rw[e])) fun h=>no fun e=>h (by rw[e])
 cases a;cases b;simp_all
theorem w1f{a b:List Val}{K:Bool->Prop}(h: ∀r,(r=true↔a=b)->K r):Ge a b K:=by unfold Ge q99;intro ha hb;exact Cnd.mk (fun hl=>w82 (by omega) (fun x _ y _ K hK=>z7e hK) h) fun hl=>h _ ⟨fun h=>(by cases h),fun e=>by rw[e] at hl;exact absurd rfl hl⟩
theorem Ja{e:Ex}:Ex.mk e.op e.kind e.name e.values e.kids=e:=by cases e;rfl
theorem w7r: ∀(n:Nat) {a b:Ex} {K:Bool->Prop},ExS n a->(∀r,(r=true↔a=b)->K r)->q25 a b K:=by
 intro n a b K ha h X hX
 induction n using Nat.strongRecOn generalizing a b K with
 |_ n ih=>
 refine hX _ _ _ ?_;unfold z5p;have no:(a≠b)->K false:=fun hn=>h _ ⟨fun h=>(by cases h),fun e=>absurd e hn⟩
 refine Cnd.mk (fun h1=>Cnd.mk (fun h2=>Cnd.mk (fun h3=>w1f fun r hr=>Cnd.mk (fun hc _ _=>Cnd.mk (fun hl=> ?_) fun h=>no fun e=>h (by rw[e])) fun hc=>no fun e=>hc (hr.2 (by rw[e]))) fun h=>no fun e=>h (by rw[e])) fun h=>no fun e=>h (by rw[e])) fun h=>no fun e=>h (by rw[e])
 have h4:=hr.1 hc;refine w82 (by omega) (fun x hx y _ K hK=> ?_) fun r hr=>h r (hr.trans ⟨fun h5=> ?_,fun e=>by rw[e]⟩)
 .obtain⟨m,hm,hk⟩:=ha.kid hx;rw[Ja,Ja];exact ih m (by omega) hk hK
 .cases a;cases b;simp_all
theorem w5y(n:Nat){a b:Ex}{K:Bool->Prop}(ha:ExS n a)(h: ∀r,(r=true↔a=b)->K r):q25 (Ex.mk a.1 a.2 a.3 a.4 a.5) (Ex.mk b.1 b.2 b.3 b.4 b.5) K:=by rw[Ja,Ja];exact w7r n ha h
theorem w0b{n:Nat}{l:List Ex}{e:Ex}{K:Int->Prop}(hl: ∀x∈l,ExS n x)(h: ∀r:Int,(r= -1/\e∉l)\/(0<=r/\l[r.toNat]? =some e/\e∉l.take r.toNat)->K r):U3 l e K:=by
 unfold U3 j3h;refine Lp1.ind (fun (i:Int)=>0<=i/\i<=l.length/\e∉l.take i.toNat) (fun (i:Int)=>(l.length - i).toNat) ?_ ⟨by omega,by omega,by simp⟩;rintro i ⟨i0,i1,he⟩ _;refine Cnd.mk (fun hc=>⟨by omega,fun x hx=>w5y n (hl x (getm hx)) fun r hr=>Cnd.mk (fun hc=>h _ (.inr ⟨i0,by rw[hx,hr.1 hc],he⟩)) fun hc=>⟨by unfold InI;omega,⟨by omega,by omega,?_⟩,by omega⟩⟩) fun hc=>h _ (.inl ⟨rfl,?_⟩)
 .rw[show (i+1).toNat=i.toNat+1 by omega,List.take_add_one,hx];have:e≠x:=fun e=>hc (hr.2 e.symm)
  simp[he,this]
 .rwa [t99 (by omega)] at he
theorem q2w{op:Int}{K:Bool->Prop}(h: ∀r,(r=true↔6<=op/\op<=15)->K r):We op K:=by unfold We;exact Cnd.mk (fun h6=>h _ ⟨fun a=>⟨h6,of_decide_eq_true a⟩,fun a=>decide_eq_true a.2⟩) fun h6=>h _ ⟨fun a=>(by cases a),fun a=>absurd a.1 h6⟩
theorem v70{now:Int}{K:Bool->Prop}(h: ∀r,(r=true↔0<=now/\now<=1099511627776)->K r):j05 now K:=by unfold j05;exact Cnd.mk (fun h6=>h _ ⟨fun a=>⟨h6,of_decide_eq_true a⟩,fun a=>decide_eq_true a.2⟩) fun h6=>h _ ⟨fun a=>(by cases a),fun a=>absurd a.1 h6⟩
theorem v4u{α:Type}{l:List α}{f:α->BA}{key:BA}{K:Int->Prop}(h: ∀r:Int,(r= -1/\∀x∈l,f x≠key)\/(0<=r/\r<l.length/\(∃x,l[r.toNat]? =some x/\f x=key)/\∀x∈l.take r.toNat,f x≠key)->K r):
  Lp1 (fun i Y=>l.length<=9223372036854775807->Cnd (i<(l.length:Int)) ((0<=i/\i<(l.length:Int))/\∀y,l[i.toNat]? =some y->Cnd (f y=key) (K i) (InI (i+1)/\Y (i+1))) (K (-1))) 0:=by
 refine Lp1.ind (fun (i:Int)=>0<=i/\i<=l.length/\∀x∈l.take i.toNat,f x≠key) (fun (i:Int)=>(l.length - i).toNat) ?_ ⟨by omega,by omega,by simp⟩;rintro i ⟨i0,i1,he⟩ _;refine Cnd.mk (fun hc=>⟨by omega,fun x hx=>Cnd.mk (fun e=>h _ (.inr ⟨i0,hc,⟨x,hx,e⟩,he⟩)) fun e=>⟨by unfold InI;omega,⟨by omega,by omega,?_⟩,by omega⟩⟩) fun hc=>h _ (.inl ⟨rfl,?_⟩)
 .rw[show (i+1).toNat=i.toNat+1 by omega,List.take_add_one,hx];exact Z2 he e
 .rwa [t99 (by omega)] at he
def PlcS{α:Type}(l:List α)(f:α->BA)(key:BA)(r:Int):Prop:=(r= -1/\∀x∈l,f x≠key)\/(0<=r/\r<l.length/\(∃x,l[r.toNat]? =some x/\f x=key)/\∀x∈l.take r.toNat,f x≠key)
theorem z3z{v:Envt}{key:BA}{K:Int->Prop}(h: ∀r,PlcS v.layers Lay_.key key r->K r):Vf v key K:=v4u h
theorem j6z{v:Envt}{key:BA}{K:Int->Prop}(h: ∀r,PlcS v.flags Flg.key key r->K r):Vt v key K:=v4u h
theorem q5z{l:List Spn}{K:List Bool->Prop}(h: ∀b:List Bool,b.length=10000->K b):z0d l K:=by
 unfold z0d;refine⟨⟨by decide,Int.le_refl _,by unfold Sml;decide⟩,Lp2.ind (fun (i:Int) (b:List Bool)=>0<=i/\i<=l.length/\b.length=10000) (fun (i:Int) _=>(l.length - i).toNat) ?_ ⟨by omega,by omega,by rw[List.length_replicate];decide⟩⟩;rintro i b ⟨i0,i1,hb⟩ _;refine Cnd.mk (fun hc=>⟨by omega,fun y hy=> ?_⟩) fun _=>h b hb
 refine Lp2.ind (fun (j:Int) (b:List Bool)=>0<=j/\b.length=10000) (fun (j:Int) _=>(10000 - j).toNat) ?_ ⟨by omega,hb⟩;rintro j b ⟨j0,hb⟩;refine⟨by omega,fun z hz=>Cnd.mk (fun hc=>⟨by omega,fun u hu=>⟨by unfold InI;omega,⟨by omega,by simpa using hb⟩,by omega⟩⟩) fun _=>⟨by unfold InI;omega,⟨by omega,by omega,hb⟩,by omega⟩⟩
theorem q7l{b:List Bool}{K:List Spn->Prop}(hb:b.length<=10000)(h: ∀l,SpsS l->K l):Rz b K:=by
 unfold Rz;refine Lp2.ind (fun (l:List Spn) (i:Int)=>0<=i/\i<=b.length/\l.length<=i/\(∀s∈l,0<=s.lo/\s.lo<s.hi/\s.hi<=i)/\(0<i->b[(i - 1).toNat]? =some true->l≠[])) (fun _ (i:Int)=>(b.length - i).toNat) ?_ ⟨by omega,by omega,by simp,by simp,by omega⟩;rintro l i ⟨i0,i1,hl,hs,hn⟩ _;refine Cnd.mk (fun hc=>⟨by omega,fun y hy=>Cnd.mk (fun ht=> ?_) fun hf=> ?_⟩) fun _=>h l ⟨by omega,fun s hm=>by have:=hs s hm;omega⟩
 .have snoc:InI (i+1)/\Sml (l++[Spn.mk i (i+1)]).length/\InI (i+1)/\((0<=i+1/\i+1<=b.length/\((l++[Spn.mk i (i+1)]).length:Int)<=i+1/\(∀s∈l++[Spn.mk i (i+1)],0<=s.lo/\s.lo<s.hi/\s.hi<=i+1)/\(0<i+1->b[(i+1 - 1).toNat]? =some true->l++[Spn.mk i (i+1)]≠[]))/\(b.length - (i+1)).toNat<(b.length - i).toNat):=
   ⟨by unfold InI;omega,by unfold Sml;simp;omega,by unfold InI;omega,⟨by omega,by omega,by simp;omega,Z2 (fun s hm=>by have:=hs s hm;omega) ⟨i0,by simp only;omega,by simp⟩,fun _ _=>by simp⟩,by omega⟩
  refine Cnd.mk (fun hp=>⟨by unfold InI;omega,by omega,fun z hz=>Cnd.mk (fun hz1=> ?_) fun _=>snoc⟩) fun _=>snoc
  have hne:=hn hp (by rw[hz,hz1]);have hpos:0<l.length:=List.length_pos_iff.2 hne;refine fun _=>⟨by unfold InI;omega,by unfold InI;omega,by omega,fun u hu=>⟨by unfold InI;omega,⟨by omega,by omega,by simp;omega,fun s hm=> ?_,fun _ _ hx=> ?_⟩,by omega⟩⟩
  .have:=hs u (getm hu);rcases List.mem_or_eq_of_mem_set hm with hm|rfl
   .have:=hs s hm;omega
   .exact⟨this.1,by simp only;omega,by simp⟩
  .exact hne (by rw[<-List.length_eq_zero_iff] at hx⊢;simpa using hx)
 .refine⟨by unfold InI;omega,⟨by omega,by omega,by omega,fun s hm=>by have:=hs s hm;omega,fun _ hx=> ?_⟩,by omega⟩;rw[show (i+1 - 1).toNat=i.toNat by omega,hy] at hx;cases hx;exact absurd rfl hf
theorem z78{l:List Col}{now:Int}{K:List Int->Prop}(h: ∀b:List Int,b.length=10000->K b):q29 l now K:=by
 unfold q29;refine⟨⟨by decide,Int.le_refl _,by unfold Sml;decide⟩,Lp2.ind (fun (i:Int) (b:List Int)=>0<=i/\i<=10000/\b.length=10000) (fun (i:Int) _=>(10000 - i).toNat) ?_ ⟨by omega,by omega,by rw[List.length_replicate];decide⟩⟩;rintro i b ⟨i0,i1,hb⟩ _;refine Cnd.mk (fun hc=>⟨by omega,fun y hy=>⟨by unfold InI;omega,⟨by omega,by omega,by simpa using hb⟩,by omega⟩⟩) fun _=> ?_
 refine Lp2.ind (fun (i:Int) (b:List Int)=>0<=i/\i<=l.length/\b.length=10000) (fun (i:Int) _=>(l.length - i).toNat) ?_ ⟨by omega,by omega,hb⟩;rintro i b ⟨i0,i1,hb⟩ _;refine Cnd.mk (fun hc=>⟨by omega,fun y hy=> ?_⟩) fun _=>h b hb
 refine Lp2.ind (fun (j:Int) (b:List Int)=>0<=j/\b.length=10000) (fun (j:Int) _=>(10000 - j).toNat) ?_ ⟨by omega,hb⟩;rintro j b ⟨j0,hb⟩;refine⟨by omega,fun z hz=>Cnd.mk (fun hc=>⟨by omega,fun u hu=>⟨by omega,fun w hw=>⟨by omega,fun x hx=>⟨by unfold InI;omega,⟨by omega,by simpa using hb⟩,by omega⟩⟩⟩⟩) fun _=>⟨by unfold InI;omega,⟨by omega,by omega,hb⟩,by omega⟩⟩
theorem j0a{u:List Int}{now:Int}{K:List Spn->Prop}(hu:u.length<=10000)(h: ∀l,SpsS l->K l):z5q u now K:=by
 unfold z5q j3i;refine fun _=>⟨⟨by omega,Int.le_refl _,by unfold Sml;omega⟩,Lp2.ind (fun (i:Int) (b:List Bool)=>0<=i/\i<=u.length/\b.length=u.length) (fun (i:Int) _=>(u.length - i).toNat) ?_ ⟨by omega,by omega,by simp⟩⟩
 rintro i b ⟨i0,i1,hb⟩ _;exact Cnd.mk (fun hc=>⟨by omega,fun y hy=>⟨by omega,fun z hz=>⟨by unfold InI;omega,⟨by omega,by omega,by simpa using hb⟩,by omega⟩⟩⟩) fun _=>q7l (by omega) h
theorem z2o{a b:List Spn}{K:List Spn->Prop}(h: ∀l,SpsS l->K l):z5r a b K:=by
 unfold z5r j3j;refine q5z fun x hx=>q5z fun y hy=>Lp2.ind (fun (i:Int) (b:List Bool)=>0<=i/\i<=10000/\b.length=10000) (fun (i:Int) _=>(10000 - i).toNat) ?_ ⟨by omega,by omega,hx⟩
 rintro i b ⟨i0,i1,hb⟩ _;exact Cnd.mk (fun hc=>⟨by omega,fun y hy=>Cnd.mk (fun _=>⟨by omega,fun _ _=>⟨by unfold InI;omega,⟨by omega,by omega,by simpa using hb⟩,by omega⟩⟩) fun _=>⟨by omega,fun _ _=>⟨by omega,fun _ _=>⟨by unfold InI;omega,⟨by omega,by omega,by simpa using hb⟩,by omega⟩⟩⟩⟩) fun _=>q7l (by omega) h
theorem w0c{a b:List Spn}{K:List Spn->Prop}(h: ∀l,SpsS l->K l):z0g a b K:=by
 unfold z0g j3l;refine q5z fun x hx=>q5z fun y hy=>Lp2.ind (fun (i:Int) (b:List Bool)=>0<=i/\i<=10000/\b.length=10000) (fun (i:Int) _=>(10000 - i).toNat) ?_ ⟨by omega,by omega,hx⟩
 rintro i b ⟨i0,i1,hb⟩ _;exact Cnd.mk (fun hc=>⟨by omega,fun y hy=>Cnd.mk (fun _=>⟨by omega,fun _ _=>⟨by omega,fun _ _=>⟨by unfold InI;omega,⟨by omega,by omega,by simpa using hb⟩,by omega⟩⟩⟩) fun _=>⟨by omega,fun _ _=>⟨by unfold InI;omega,⟨by omega,by omega,by simpa using hb⟩,by omega⟩⟩⟩) fun _=>q7l (by omega) h
theorem v1c{a b:List Spn}{K:List Spn->Prop}(h: ∀l,SpsS l->K l):z11 a b K:=by
 unfold z11 z81;refine q5z fun x hx=>q5z fun y hy=>Lp2.ind (fun (i:Int) (b:List Bool)=>0<=i/\i<=10000/\b.length=10000) (fun (i:Int) _=>(10000 - i).toNat) ?_ ⟨by omega,by omega,hx⟩
 rintro i b ⟨i0,i1,hb⟩ _;exact Cnd.mk (fun hc=>⟨by omega,fun y hy=>Cnd.mk (fun _=>⟨by omega,fun _ _=>⟨by omega,fun _ _=>⟨by unfold InI;omega,⟨by omega,by omega,by simpa using hb⟩,by omega⟩⟩⟩) fun _=>⟨by omega,fun _ _=>⟨by unfold InI;omega,⟨by omega,by omega,by simpa using hb⟩,by omega⟩⟩⟩) fun _=>q7l (by omega) h
theorem v4v{a:List Spn}{n:Int}{K:List Spn->Prop}(hn: -1000000<=n/\n<=1000000)(h: ∀l,SpsS l->K l):z5t a n K:=by
 unfold z5t j3m;refine q5z fun x hx=>Lp3.ind (fun (m i:Int) (b:List Bool)=>0<=i/\i<=10000/\b.length=10000/\ -1000000 - i<=m/\m<=1000000) (fun _ (i:Int) _=>(10000 - i).toNat) ?_ ⟨by omega,by omega,hx,by omega,by omega⟩
 rintro m i b ⟨i0,i1,hb,m0,m1⟩ _;refine Cnd.mk (fun hc=>⟨by omega,fun y hy=> ?_⟩) fun _=>q7l (by omega) h
 have step:(0<=i/\i<(b.length:Int))/\∀y5,b[i.toNat]? =some y5->Cnd (y5=true) (InI (m - 1)/\InI (i+1)/\((0<=i+1/\i+1<=10000/\b.length=10000/\ -1000000 - (i+1)<=m - 1/\m - 1<=1000000)/\(10000 - (i+1)).toNat<(10000 - i).toNat)) (InI (i+1)/\((0<=i+1/\i+1<=10000/\b.length=10000/\ -1000000 - (i+1)<=m/\m<=1000000)/\(10000 - (i+1)).toNat<(10000 - i).toNat)):=
  ⟨by omega,fun _ _=>Cnd.mk (fun _=>⟨by unfold InI;omega,by unfold InI;omega,by omega,by omega⟩) fun _=>⟨by unfold InI;omega,by omega,by omega⟩⟩
 exact Cnd.mk (fun _=>Cnd.mk (fun _=>⟨by omega,fun _ _=>⟨by unfold InI;omega,⟨by omega,by omega,by simpa using hb,by omega,by omega⟩,by omega⟩⟩) fun _=>step) fun _=>step
theorem u34(n:Int):0<=IntKind.u8.wrap n/\IntKind.u8.wrap n<=255:=by have e:IntKind.u8.wrap n=n % 256:=rfl;rw[e];omega
theorem y2m{s:BA}{K:Bool->Prop}(hs:s.size<=1000)(h: ∀r,K r):j5u s K:=by
 unfold j5u;refine Lp1.ind (fun (i:Int)=>0<=i/\i<=s.size) (fun (i:Int)=>(s.size - i).toNat) ?_ ⟨by omega,by omega⟩;rintro i ⟨i0,i1⟩
 (repeat' (first|exact h _|assumption|(unfold InI;omega)|omega|refine Cnd.mk (fun _=> ?_) fun _=> ?_|refine⟨?_,?_⟩|intro _))
theorem y2n{e:Ex}{K:Bool->Prop}(h: ∀r,K r):j5w e K:=by
 unfold j5w
 (repeat' (first|exact h _|assumption|(unfold InI;omega)|omega|refine Cnd.mk (fun _=> ?_) fun _=> ?_|refine⟨?_,?_⟩|intro _))
theorem v4w{e:Ex}{K:Bool->Prop}(h: ∀r:Bool,(r=true->9<=e.op->e.op<=11->e.values≠[])->K r):z5w e K:=by
 unfold z5w j3n;intro _ _;refine Jn2.mk (fun _ v=>v=true->9<=e.op->e.op<=11->e.values.length=1) ?_ fun k v hv=> ?_
 .refine Cnd.mk (fun _ _ _ _ _=>by omega) fun _=>Cnd.mk (fun _ _ _ _ _=>by omega) fun _=>Cnd.mk (fun _ _ _ _ _=>by omega) fun _=>Cnd.mk (fun _ _ _ _ _=>by omega) fun _=>q2w fun r hr=>Cnd.mk (fun _=>Cnd.mk (fun _ _ _ _=>by omega) fun _ _ hd _ _=>by have:=of_decide_eq_true hd;omega) fun hc _ h1 h2=>absurd (hr.2 ⟨by omega,by omega⟩) hc
 .have no:K false:=h _ fun h=>by cases h
  refine q2w fun r _=>Cnd.mk (fun _=>Cnd.mk (fun hv'=> ?_) fun _=>no) fun _=>no
  have yes: ∀r,K r:=fun r=>h r fun _ h1 h2 hn=>by have:=hv hv' h1 h2;rw[hn] at this;cases this
  (repeat' (first|exact yes _|exact no|assumption|(unfold InI;omega)|omega|refine Cnd.mk (fun _=> ?_) fun _=> ?_|refine⟨?_,?_⟩|intro _))
theorem v71{v:Val}{K:Bool->Prop}(h: ∀r,K r):q9s v K:=by
 unfold q9s
 (repeat' (first|exact h _|assumption|(unfold InI;omega)|omega|refine Cnd.mk (fun _=> ?_) fun _=> ?_|refine⟨?_,?_⟩|intro _))
theorem w5z{l:List Rng}{n:Int}{K:Int->Prop}(h: ∀r,0<=r->r<=100->K r):z4j l n K:=by
 unfold z4j;intro _;refine Cnd.mk (fun _=>h _ (by omega) (by omega)) fun _=> ?_
 refine Lp2.ind (fun _ (i:Int)=>0<=i/\i<=l.length) (fun _ (i:Int)=>(l.length - i).toNat) ?_ ⟨by omega,by omega⟩;rintro a i ⟨i0,i1⟩
 (repeat' (first|exact h _ (by omega) (by omega)|assumption|(unfold InI;omega)|omega|refine Cnd.mk (fun _=> ?_) fun _=> ?_|refine⟨?_,?_⟩|intro _))
theorem v72{l:List Spn}{K:Int->Prop}(h: ∀r,0<=r->r<=100->K r):j1f l K:=by
 unfold j1f;intro _;refine Cnd.mk (fun _=>h _ (by omega) (by omega)) fun _=> ?_
 refine Lp1.ind (fun (i:Int)=>0<=i/\i<=l.length) (fun (i:Int)=>(l.length - i).toNat) ?_ ⟨by omega,by omega⟩;rintro i ⟨i0,i1⟩
 (repeat' (first|exact h _ (by omega) (by omega)|assumption|(unfold InI;omega)|omega|refine Cnd.mk (fun _=> ?_) fun _=> ?_|refine⟨?_,?_⟩|intro _))
theorem v4x{α:Type}{l:List α}{f:α->BA}{K:List BA->Prop}(hl:l.length<=1000000)(h:K (l.map f)):
  Lp2 (fun (r:List BA) (i:Int) Y=>l.length<=9223372036854775807->Cnd (i<(l.length:Int)) ((0<=i/\i<(l.length:Int))/\∀y,l[i.toNat]? =some y->Sml (r++[f y]).length/\InI (i+1)/\Y (r++[f y]) (i+1)) (K r)) [] 0:=by
 refine Lp2.ind (fun (r:List BA) (i:Int)=>0<=i/\i<=l.length/\r=(l.take i.toNat).map f) (fun _ (i:Int)=>(l.length - i).toNat) ?_ ⟨Int.le_refl 0,by omega,by simp⟩;rintro r i ⟨i0,i1,rfl⟩ _;refine Cnd.mk (fun hc=>⟨by omega,fun y hy=>⟨by unfold Sml;simp;omega,by unfold InI;omega,⟨by omega,by omega,?_⟩,by omega⟩⟩) fun hc=> ?_
 .rw[show (i+1).toNat=i.toNat+1 by omega,List.take_add_one,hy];simp
 .rw[t99 (by omega)];exact h
theorem z7f{l:List Seg}{K:List BA->Prop}(hl:l.length<=1000000)(h:K (l.map Seg.key)):q9u l K:=v4x hl h
theorem y98{i:Nat}:(29:Int)*10 ^ (i+1)=10*(29*10 ^ i):=by rw[Int.pow_succ];omega
theorem j9l{s:BA}{K:Int->Int->Prop}(hs:s.size<=1000)(h: ∀n e,InI n->0<=e->e<=100->K n e):W6 s K:=by
 unfold W6;refine Jn1.mk (fun d=>d.size<=1000) ?_ fun d hd=> ?_
 ·(repeat' (first|(show (s.extract _ _).size<=1000;rw[ByteArray.size_extract];omega)|assumption|(unfold InI;omega)|omega|refine Cnd.mk (fun _=> ?_) fun _=> ?_|refine⟨?_,?_⟩|intro _))
 refine Lp1.ind (fun (i:Int)=>0<=i/\i<=d.size) (fun (i:Int)=>(d.size - i).toNat) ?_ ⟨by omega,by omega⟩;rintro i ⟨i0,i1⟩;have fin:d.size<=13->Lp2 (fun (Qe J2:Int) v5t=>Cnd (J2<(↑d.size:Int)) (InI ((10:Int)*Qe)/\((0:Int)<=J2/\J2<(↑d.size:Int))/\∀b5,d[J2.toNat]? =some b5->InI (IntKind.u8.wrap ((↑b5.toNat:Int) - (48:Int)))/\InI ((10:Int)*Qe+IntKind.u8.wrap ((↑b5.toNat:Int) - (48:Int)))/\InI (J2+(1:Int))/\v5t ((10:Int)*Qe+IntKind.u8.wrap ((↑b5.toNat:Int) - (48:Int))) (J2+(1:Int))) (Cnd ((1099511627776:Int)<Qe) (K (0:Int) (3:Int)) (Cnd ((↑d.size:Int)<(↑s.size:Int)) (InI ((0:Int) - Qe)/\K ((0:Int) - Qe) (0:Int)) (K Qe (0:Int))))) (0:Int) (0:Int):=fun h13=>by
  refine Lp2.ind (fun (n j:Int)=>0<=j/\j<=d.size/\0<=n/\n+29<=29*10 ^ j.toNat) (fun _ (j:Int)=>(d.size - j).toNat) ?_ ⟨by omega,by omega,by omega,by simp⟩;rintro n j ⟨j0,j1,n0,n1⟩;have hp:(10:Int) ^ j.toNat<=10 ^ 13:=by
   have:=Nat.pow_le_pow_right (n:=10) (by decide) (show j.toNat<=13 by omega)
   exact_mod_cast this
  refine Cnd.mk (fun hc=>⟨by unfold InI;omega,by omega,fun b _=> ?_⟩) fun hc=> ?_
  .obtain⟨w0,w1⟩:=u34 ((b.toNat:Int) - 48);refine⟨by unfold InI;omega,by unfold InI;omega,by unfold InI;omega,⟨by omega,by omega,by omega,?_⟩,by omega⟩;rw[show (j+1).toNat=j.toNat+1 by omega,y98];omega
  .exact Cnd.mk (fun _=>h _ _ (by unfold InI;omega) (by omega) (by omega)) fun _=>Cnd.mk (fun _=>⟨by unfold InI;omega,h _ _ (by unfold InI;omega) (by omega) (by omega)⟩) fun _=>h _ _ (by unfold InI;omega) (by omega) (by omega)
 have k1:=h 0 1 (by unfold InI;omega) (by omega) (by omega);have k3:=h 0 3 (by unfold InI;omega) (by omega) (by omega);refine Cnd.mk (fun hc=>⟨by omega,fun b hb=>Cnd.mk (fun _=>k1) fun _=>⟨by omega,fun b' hb'=>Cnd.mk (fun _=>k1) fun _=>⟨by unfold InI;omega,by omega,by omega⟩⟩⟩) fun _=> ?_
 refine Cnd.mk (fun _=>k1) fun he=>⟨⟨by omega,?_⟩,fun b hb=>Cnd.mk (fun _=>Cnd.mk (fun _=>Cnd.mk (fun _=>k3) fun _=>fin (by omega)) fun _=>k1) fun _=>Cnd.mk (fun _=>k3) fun _=>fin (by omega)⟩
 refine Int.not_le.1 fun hn=>he ?_
 have:d.size=0:=by omega
 exact ByteArray.ext (Array.eq_empty_of_size_eq_zero this)
theorem y2o{t:Int}{e:Ex}{K:Bool->Prop}(h: ∀r,K r):z0m t e K:=by
 unfold z0m;refine Cnd.mk (fun _=>h _) fun _=>Cnd.mk (fun _=> ?_) fun _ _=>Cnd.mk (fun _=>h _) fun _=>⟨by omega,fun y hy=>Cnd.mk (fun _=>h _) fun _=>Jn1.mk (fun _=>True) ?_ fun x _=> ?_⟩
 .refine Lp1.ind (fun (i:Int)=>0<=i/\i<=e.values.length) (fun (i:Int)=>(e.values.length - i).toNat) ?_ ⟨by omega,by omega⟩;rintro i ⟨i0,i1⟩
  (repeat' (first|exact h _|assumption|(unfold InI;omega)|omega|refine Cnd.mk (fun _=> ?_) fun _=> ?_|refine⟨?_,?_⟩|intro _))
 ·(repeat' (first|exact trivial|assumption|(unfold InI;omega)|omega|refine Cnd.mk (fun _=> ?_) fun _=> ?_|refine⟨?_,?_⟩|intro _))
 ·(repeat' (first|exact h _|assumption|(unfold InI;omega)|omega|refine Cnd.mk (fun _=> ?_) fun _=> ?_|refine⟨?_,?_⟩|intro _))
theorem w50{v:Envt}{K:List BA->Prop}(hl:v.flags.length<=1000000)(h:K (v.flags.map Flg.key)):z3e v K:=v4x hl h
def z7g(f:Flg):List Edg:=f.needs.map fun q=>Edg.mk f.key q.flag
theorem w1g{v:Envt}{K:List Edg->Prop}(hl:v.flags.length<=1000)(hn: ∀f∈v.flags,f.needs.length<=1000)(h:K (v.flags.flatMap z7g)):q3j v K:=by
 unfold q3j;have hb: ∀l:List Flg,(∀f∈l,f.needs.length<=1000)->(l.flatMap z7g).length<=1000*l.length:=by
  intro l
  induction l with
  |nil=>simp
  |cons f l ih=>intro hf;have h1:=hf f (by simp);have h2:=ih fun g hg=>hf g (by simp[hg]);simp only[List.flatMap_cons,List.length_append,z7g,List.length_map,List.length_cons] at*;omega
 refine Lp2.ind (fun (r:List Edg) (i:Int)=>0<=i/\i<=v.flags.length/\r=(v.flags.take i.toNat).flatMap z7g) (fun _ (i:Int)=>(v.flags.length - i).toNat) ?_ ⟨Int.le_refl 0,by omega,by simp⟩;rintro r i ⟨i0,i1,rfl⟩ _;refine Cnd.mk (fun hc=> ?_) fun hc=> ?_
 .obtain⟨f,hf⟩: ∃f,v.flags[i.toNat]? =some f:=⟨_,List.getElem?_eq_getElem (by omega)⟩;have hfn:=hn f (getm hf);have hbt:=hb (v.flags.take i.toNat) fun g hg=>hn g (List.mem_of_mem_take hg)
  rw[List.length_take] at hbt;refine Lp2.ind (fun (r:List Edg) (j:Int)=>0<=j/\j<=f.needs.length/\r=(v.flags.take i.toNat).flatMap z7g++(f.needs.take j.toNat).map fun q=>Edg.mk f.key q.flag) (fun _ (j:Int)=>(f.needs.length - j).toNat) ?_ ⟨by omega,by omega,by simp⟩;rintro r j ⟨j0,j1,rfl⟩;refine⟨by omega,fun g hg=> ?_⟩;rw[hf] at hg;cases hg;refine fun _=>Cnd.mk (fun hc=>⟨by omega,fun g hg=> ?_⟩) fun hc=>⟨by unfold InI;omega,⟨by omega,by omega,?_⟩,by omega⟩
  .rw[hf] at hg;cases hg;refine⟨by omega,fun g hg=> ?_⟩;rw[hf] at hg;cases hg;refine⟨by omega,fun q hq=>⟨?_,by unfold InI;omega,⟨by omega,by omega,?_⟩,by omega⟩⟩
   .unfold Sml;simp only[List.length_append,List.length_map,List.length_take,List.length_cons,List.length_nil];omega
   .rw[show (j+1).toNat=j.toNat+1 by omega,List.take_add_one,hq];simp
  .rw[t99 (show f.needs.length<=j.toNat by omega),show (i+1).toNat=i.toNat+1 by omega,List.take_add_one,hf];simp[z7g]
 .rw[t99 (by omega)];exact h
end Go.En
end
