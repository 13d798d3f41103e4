/- For every input AuditTells returns true and leaves its arguments as they were. This is part 5 of 11. Conditions: those in the statements. -/
import Derived.Test.YtjepffgpbidclaaGreatDoorTe4
import Derived.KernelRfl
import Derived.Lib.AppendIntMem
import Derived.Conc.MuLone
import GoSem.Core.Utf8
import Derived.Lib.ValidU
noncomputable section
set_option maxRecDepth 100000
namespace Go.Proofs.YtjepffgpbidclaaGreatDoor
open Go Go.Proofs Go.RowKit Go.Fl
set_option maxHeartbeats 2000000 in
theorem q3e{σ:Hv}{w:World}(s_p:(List ByteArray))(v1:Value){K:(List ByteArray)->Prop}(hV:View σ w)(hr1:RSl 1 (REnc Qj) σ v1 s_p)(hP:Zl s_p K):
    Calls Tryz.prog 156 #[v1] w (fun e w1=> ∃(r1:(List ByteArray)) (v2:Value),e= .returned v2/\St ⟨w,σ,[]⟩ w1 σ [vec v2 9 1 r1.length ((r1).flatMap Qj)]/\Sml r1.length/\K r1):=by
 unfold Zl at hP
 obtain⟨a1,cap1,rfl⟩:=hr1.shape
 refine enter Tryz.func156 rfl rfl rfl ?_
 have hS:=St.start hV
 refine Q0 (Q1 (v:=(.slice none 0 0)) rfl (wpList_nil (Qw (wp_seq (Q0 (Zd (v:=(.slice a1 s_p.length cap1)) rfl ?_))))))
 replace hP:=hP a1.isNone (RSl.isNil hr1)
 obtain⟨r1_,hn1⟩: ∃r:Bool,a1.isNone=r:=⟨_,rfl⟩
 rw[hn1] at hP
 refine v8o Tryz.underlying55 rfl hn1 (wpList_nil (Qw ?_))
 refine if_b rfl (fun ht1=> ?_) (fun ht1=> ?_)
 ·
  replace hP:=hP.1 ht1
  refine Q0 (Q1 (v:=(.slice none 0 0)) rfl (wpList_nil (Qw (wp_ret (Rz (ret1 rfl (show ev _ _ _=(.slice none 0 0) from rfl) ?_))))))
  have hS1:=hS.addNil 9 1
  exact⟨[],(.slice none 0 0),rfl,(St.back hS1 (Sub.refl _)),(by simp[Sml]),hP⟩
 ·
  replace hP:=hP.2 (by first|(rw[ht1];exact Bool.false_ne_true)|simp[ht1])
  refine wp_skip (Qw (Q0 (j40 (cs:=[]) (e:=9) hS (fun _=>by kernel_rfl) ?_)))
  intro b1 w1 hS2
  refine Zd (v:=(.slice a1 s_p.length cap1)) rfl ?_
  have hS3:=hS2.asVec (i:=0) (ms':=[vec (.slice (some ⟨b1,0,none⟩) 0 0) 9 1 0 []]) (size:=1) rfl rfl (by unfold maxLen;omega) rfl
  obtain⟨hsm1,hP⟩:=hP
  refine y5k (enc:=Qj) (l:=s_p) (Ms:=fun v3=>[vec v3 9 1 s_p.length ((s_p).flatMap Qj)]) (k':=s_p.length) (xs':=(s_p).flatMap Qj) Tryz.underlying55 Tryz.type9 rfl rfl (bytes:=16) rfl rfl (Nat.succ_pos _) hS3 rfl (q:=0) rfl rfl hr1 hS3.view q36 v3x hsm1 (by omega) (by first|rfl|exact List.length_append.symm|simp) (List.nil_append _) (fun _=>rfl) ?_
  intro v3 w2 ho1 hS4
  refine Q1 (v:=v3) rfl (wpList_nil (Qw (wp_ret (ret1 rfl (show ev _ _ _=v3 from rfl) ?_))))
  exact⟨s_p,v3,rfl,(St.back hS4 (Sub.refl _)),hsm1,hP⟩
set_option maxHeartbeats 2000000 in
theorem q3f{σ:Hv}{w:World}(s_p:(List ByteArray))(v_p:ByteArray)(v1:Value){K:Int->Prop}(hV:View σ w)(hr1:RSl 1 (REnc Qj) σ v1 s_p)(hP:Zm s_p v_p K):
    Calls Tryz.prog 180 #[v1,(.string v_p)] w (fun e w1=> ∃(r1:Int),e= .returned (.int .i64 r1)/\Grow [] σ w σ w1/\K r1):=by
 unfold Zm at hP
 obtain⟨a1,cap1,rfl⟩:=hr1.shape
 refine enter Tryz.func180 rfl rfl rfl ?_
 have hS:=St.start hV
 refine Q0 (Q1 (v:=(.int .i64 (0:Int))) rfl (wpList_nil (Qw (wp_seq (Q0 (Zd (v:=(.slice a1 s_p.length cap1)) rfl (z1g rfl Tryz.underlying55 ?_)))))))
 have hlen1:=RSl.len63 hr1
 replace hP:=hP hlen1
 refine Zd (v:=(.int .i64 (0:Int))) rfl (wpList_nil (Qw (wp_block ?_)))
 refine w0r (fun k_2 f z=> ∃(σ1:Hv) (g:Fr),f=(upd (upd (upd (upd g 0 (.slice a1 s_p.length cap1)) 1 (.string v_p)) 7 (.int .i64 ((s_p.length:Nat):Int))) 8 (.int .i64 ((k_2:Nat):Int)))/\St ⟨w,σ,[]⟩ z σ1 []/\Sub σ σ1) hP ⟨σ,_,(Z1 rfl (Z1 rfl (Z1 rfl (Z1 rfl rfl)))),hS,(Sub.refl _)⟩ ?_
 clear hP
 rintro k_2 Y1 hP f w1 ⟨σ1,g,rfl,hS1,hsub1⟩
 refine Q0 (v3n (r:=(decide (((k_2:Nat):Int)<((s_p.length:Nat):Int)))) rfl rfl rfl (wpList_nil (Qw (wp_seq ?_))))
 refine if_d (((k_2:Nat):Int)<((s_p.length:Nat):Int)) rfl (fun ht1=> ?_) (fun ht1=> ?_)
 ·
  replace hP:=hP.1 ht1
  refine wp_skip (Qw (wp_seq (wp_block (Q0 (Zd (v:=(.int .i64 ((k_2:Nat):Int))) rfl (Q1 (v:=(.int .i64 ((k_2:Nat):Int))) rfl (wpList_nil (Qw (Q0 (Zd (v:=(.string v_p)) rfl (Zd (v:=(.slice a1 s_p.length cap1)) rfl (Zd (v:=(.int .i64 ((k_2:Nat):Int))) rfl ?_))))))))))))
  obtain⟨x1_,hx1⟩:=getq (l:=s_p) (k:=k_2) (by have:=ht1;omega)
  replace hP:=hP x1_ hx1
  obtain⟨ad1,cs1,ha1,hl1,hr2,hR1,hlt1⟩:=RSl.at hr1 hx1
  cases hR1
  refine Rf (k:=k_2) (a':=(ad1.add (k_2*1))) (congrArg (fun z=>Value.slice z _ _) ha1) rfl rfl hlt1 Tryz.underlying55 Tryz.sizeOf9 rfl (q67 (v:=(.string x1_)) rfl Tryz.isAgg9 (hr2.cell (View.of hsub1 hS1.view) 0 rfl rfl) (y5d (r:=(decide (v_p=x1_))) rfl rfl rfl (wpList_nil (Qw ?_))))
  refine if_d (v_p=x1_) rfl (fun ht2=> ?_) (fun ht2=> ?_)
  ·
   replace hP:=hP.1 ht2
   refine Q0 (Zd (v:=(.int .i64 ((k_2:Nat):Int))) rfl (Q1 (v:=(.int .i64 ((k_2:Nat):Int))) rfl (wpList_nil (Qw (wp_ret (j34 (Rz (Rz (j34 (Rz (ret1 rfl (show ev _ _ _=(.int .i64 ((k_2:Nat):Int)) from rfl) ?_)))))))))))
   exact⟨((k_2:Nat):Int),rfl,hS1.done.forget,hP⟩
  ·
   replace hP:=hP.2 ht2
   refine wp_skip (v09 (Qw (j1i (v08 (r:=((k_2+1:Nat):Int)) rfl rfl (nw (by omega) (by omega) (by have:=hlen1;omega)) (Zd (v:=(.int .i64 ((k_2+1:Nat):Int))) rfl (wpList_nil (Qw ?_)))))))
   exact⟨k_2+1,_,rfl,hP,σ1,_,(Z1 rfl (Z1 rfl (Z1 rfl (Z1 rfl rfl)))),hS1,hsub1⟩
 ·
  replace hP:=hP.2 ht1
  refine wp_exit (z7j (z7j (j5o (Qw (Q0 (Q1 (v:=(.int .i64 (-1:Int))) rfl (wpList_nil (Qw (wp_ret (ret1 rfl (show ev _ _ _=(.int .i64 (-1:Int)) from rfl) ?_))))))))))
  exact⟨(-1:Int),rfl,hS1.done.forget,hP⟩
set_option maxHeartbeats 2000000 in
theorem Vi{σ:Hv}{w:World}(s_p:(List ByteArray))(v_p:ByteArray)(v1:Value){K:Bool->Prop}(hV:View σ w)(hr1:RSl 1 (REnc Qj) σ v1 s_p)(hP:Q4 s_p v_p K):
    Calls Tryz.prog 142 #[v1,(.string v_p)] w (fun e w1=> ∃(r1:Bool),e= .returned (.bool (r1))/\Grow [] σ w σ w1/\K r1):=by
 unfold Q4 at hP
 obtain⟨a1,cap1,rfl⟩:=hr1.shape
 refine enter Tryz.func142 rfl rfl rfl ?_
 have hS:=St.start hV
 refine Q0 (Q1 (v:=(.bool false)) rfl (wpList_nil (Qw (Q0 (Zd (v:=(.slice a1 s_p.length cap1)) rfl (Zd (v:=(.string v_p)) rfl ?_))))))
 obtain⟨Y1,hK1,hc1⟩:=hP
 refine q8p (args:=[(.slice a1 s_p.length cap1),(.string v_p)]) rfl Tryz.call180 (Calls.mono (q3f s_p v_p (.slice a1 s_p.length cap1) hS.view hr1 hc1) ?_)
 rintro _ w1 ⟨r1_,rfl,hg1,hY1⟩
 refine⟨_,rfl,?_⟩
 have hS1:=hS.grow hg1
 replace hP:=hK1 r1_ hY1
 refine y5c (r:=(decide ((0:Int)<=r1_))) rfl rfl rfl (Q1 (v:=(.bool (decide ((0:Int)<=r1_)))) rfl (wpList_nil (Qw (wp_ret (ret1 rfl (show ev _ _ _=(.bool (decide ((0:Int)<=r1_))) from rfl) ?_)))))
 exact⟨(decide ((0:Int)<=r1_)),rfl,hS1.done.forget,hP⟩
set_option maxHeartbeats 2000000 in
theorem w_graph_Order{σ:Hv}{w:World}(nodes_p:(List ByteArray))(edges_p:(List (ByteArray×ByteArray)))(v1:Value)(v2:Value){K:(List ByteArray)->Int->Prop}(hV:View σ w)(hr1:RSl 1 (REnc Qj) σ v1 nodes_p)(hr2:RSl 2 (REnc y5l) σ v2 edges_p)(hP:P_graph_Order nodes_p edges_p K):
    Calls Tryz.prog 191 #[v1,v2] w (fun e w1=> ∃(r1:(List ByteArray)) (r2:Int) (v3:Value),e= .returned (.tuple #[v3,(.int .i64 r2)])/\St ⟨w,σ,[]⟩ w1 σ [vec v3 9 1 r1.length ((r1).flatMap Qj)]/\Sml r1.length/\K r1 r2):=by
 unfold P_graph_Order at hP
 obtain⟨a1,cap1,rfl⟩:=hr1.shape
 obtain⟨a2,cap2,rfl⟩:=hr2.shape
 refine enter Tryz.func191 rfl rfl rfl ?_
 have hS:=St.start hV
 refine Q0 (Q1 (v:=(.slice none 0 0)) rfl (Q1 (v:=(.int .i64 (0:Int))) rfl (wpList_nil (Qw (Q0 (Zd (v:=(.slice a1 nodes_p.length cap1)) rfl (q8p (args:=[(.slice a1 nodes_p.length cap1)]) rfl Tryz.call227 ?_)))))))
 refine enter Tryz.func227 rfl rfl rfl ?_
 refine Q0 (y7n (cs:=[(.slice a1 nodes_p.length cap1)]) hS rfl rfl ?_)
 intro b1 w1 hS1
 refine Q1 (v:= .nilFunc) rfl (wpList_nil (Qw (Q0 (j1j (la:=[]) (lb:=[(.pointer (some ⟨b1,0,none⟩))]) rfl rfl (Q1 (v:=(.func (.func 251) #[] #[(.pointer (some ⟨b1,0,none⟩))])) rfl (wpList_nil (Qw (wp_ret (ret1 rfl (show ev _ _ _=(.func (.func 251) #[] #[(.pointer (some ⟨b1,0,none⟩))]) from rfl) ?_)))))))))
 refine⟨_,rfl,?_⟩
 refine q8p (args:=[(.func (.func 251) #[] #[(.pointer (some ⟨b1,0,none⟩))])]) rfl Tryz.call226 ?_
 refine enter Tryz.func226 rfl rfl rfl ?_
 refine Q0 (Q1 (v:=(.slice none 0 0)) rfl (wpList_nil (Qw (Q0 (Zd (v:=(.func (.func 251) #[] #[(.pointer (some ⟨b1,0,none⟩))])) rfl (q8p (args:=[(.func (.func 251) #[] #[(.pointer (some ⟨b1,0,none⟩))])]) rfl Tryz.call250 ?_))))))
 refine enter Tryz.func250 rfl rfl rfl ?_
 refine Q0 (Q1 (v:=(.slice none 0 0)) rfl (wpList_nil (Qw (Q0 (Zd (v:=(.func (.func 251) #[] #[(.pointer (some ⟨b1,0,none⟩))])) rfl ?_)))))
 obtain⟨σ1,hS2,hsub1,hfr1⟩:=hS1.freeze' (i:=0) rfl rfl
 have hB1:σ1 b1=some (.cells #[(.slice a1 nodes_p.length cap1)] 55 (0,0)):=(hfr1 _ rfl).trans (hS1.get (i:=0) rfl)
 obtain⟨hsm1,hP⟩:=hP
 refine q8p (args:=[(.slice none 0 0),(.func (.func 251) #[] #[(.pointer (some ⟨b1,0,none⟩))])]) rfl Tryz.call269 (Calls.mono (y8g b1 (.slice a1 nodes_p.length cap1) nodes_p hS2.view hB1 (RSl.menc hsub1 hr1) hsm1) ?_)
 rintro _ w2 ⟨v4,rfl,hg1,ho1⟩
 refine⟨_,rfl,?_⟩
 have hS3:=hS2.growAdd hg1 (o:=vec v4 9 1 nodes_p.length ((nodes_p).flatMap Qj)) ho1
 refine Q1 (v:=v4) rfl (wpList_nil (Qw (wp_ret (ret1 rfl (show ev _ _ _=v4 from rfl) ?_))))
 refine⟨_,rfl,?_⟩
 refine Q1 (v:=v4) rfl (wpList_nil (Qw (Q0 (Zd (v:=v4) rfl ?_))))
 refine q8p (args:=[v4]) rfl Tryz.call93 (Calls.mono (w9m Tryz.slices_Sort_string Tryz.slices_Sort_string_none hS3.view (hS3.get (i:=0) rfl) rfl (fun b hb=>hS3.off _ (List.mem_of_getElem? (i:=0) rfl) b hb) (by have:=hsm1;unfold Sml at this;omega)) ?_)
 rintro _ w3 ⟨rfl,hg2,ho2⟩
 refine⟨_,rfl,?_⟩
 have hS4:=hS3.growV (i:=0) (o':=vec v4 9 1 nodes_p.length ((srt nodes_p).flatMap Qj)) rfl hg2 rfl ho2 (ms':=[vec v4 9 1 nodes_p.length ((srt nodes_p).flatMap Qj)]) rfl
 have hS5:=hS4.re (ms':=[vec v4 9 1 ((srt nodes_p).length) ((srt nodes_p).flatMap Qj)]) (by simp only[J3])
 refine wpList_nil (Qw (Q0 (Zd (v:=v4) rfl (Q1 (v:=v4) rfl (wpList_nil (Qw (wp_ret (ret1 rfl (show ev _ _ _=v4 from rfl) ?_))))))))
 refine⟨_,rfl,?_⟩
 refine Q1 (v:=v4) rfl (wpList_nil (Qw (wp_seq (Q0 (Zd (v:=v4) rfl ?_)))))
 obtain⟨σ2,hS6,hsub2,hr4⟩:=hS5.peek (i:=0) rfl q36 (show Sml (srt nodes_p).length by rw[J3];exact hsm1)
 obtain⟨Y1,hK1,hc1⟩:=hP
 refine q8p (args:=[v4]) rfl Tryz.call156 (Calls.mono (q3e (srt nodes_p) v4 hS6.view hr4 hc1) ?_)
 rintro _ w4 ⟨r1_,v5,rfl,hg3,hl1,hY1⟩
 refine⟨_,rfl,?_⟩
 have hS7:=St.callM (ins:=[]) (rest:=[vec v4 9 1 ((srt nodes_p).length) ((srt nodes_p).flatMap Qj)]) (ms':=[vec v5 9 1 r1_.length ((r1_).flatMap Qj),vec v4 9 1 ((srt nodes_p).length) ((srt nodes_p).flatMap Qj)]) hS5 (St.back hg3 hsub2) rfl
 replace hP:=hK1 r1_ hY1
 obtain⟨hsm2,hP⟩:=hP
 refine q8p (args:=[v5]) rfl Tryz.call94 (Calls.mono (j5t Tryz.slices_Compact_string Tryz.slices_Compact_string_empty hS7.view (hS7.get (i:=0) rfl) rfl (fun b hb=>hS7.off _ (List.mem_of_getElem? (i:=0) rfl) b hb) (by have:=hl1;unfold Sml at this;omega)) ?_)
 rintro _ w5 ⟨v6,rfl,hf1,hg4,ho3⟩
 refine⟨_,rfl,?_⟩
 have ho4:=R0 ho3
 have hS8:=hS7.growV (i:=0) (o':=vec v6 9 1 ((cpt r1_).length) ((cpt r1_).flatMap Qj)) rfl hg4 hf1 ho3 (ms':=[vec v6 9 1 ((cpt r1_).length) ((cpt r1_).flatMap Qj),vec v4 9 1 ((srt nodes_p).length) ((srt nodes_p).flatMap Qj)]) rfl
 refine z9f hS8 rfl (i:=0) rfl Tryz.underlying55 ?_
 have hlen1:(cpt r1_).length<=9223372036854775807:=by have:=hsm2;unfold Sml at this;omega
 replace hP:=hP hlen1
 refine Zd (v:=v4) rfl (z9f hS8 rfl (i:=1) rfl Tryz.underlying55 ?_)
 have hlen2:(srt nodes_p).length<=9223372036854775807:=by have:=(show Sml (srt nodes_p).length by rw[J3];exact hsm1);unfold Sml at this;omega
 replace hP:=hP hlen2
 refine y7l (r:=(!decide ((((cpt r1_).length:Nat):Int)=(((srt nodes_p).length:Nat):Int)))) rfl rfl rfl (wpList_nil (Qw ?_))
 refine y5e ((((cpt r1_).length:Nat):Int)=(((srt nodes_p).length:Nat):Int)) rfl (fun ht1=> ?_) (fun ht1=> ?_)
 ·
  replace hP:=hP.2 ht1
  refine Q0 (Q1 (v:=(.slice none 0 0)) rfl (Q1 (v:=(.int .i64 (10:Int))) rfl (wpList_nil (Qw (wp_ret (Rz (ret2 rfl (show ev _ _ _=(.slice none 0 0) from rfl) (show ev _ _ _=(.int .i64 (10:Int)) from rfl) ?_)))))))
  have hS9:=hS8.addNil 9 1
  exact⟨[],(10:Int),(.slice none 0 0),rfl,(St.back (hS9.keep 1 (ms':=[vec (.slice none 0 0) 9 1 0 []]) rfl) (Sub.refl _)),(by simp[Sml]),hP⟩
 ·
  replace hP:=hP.1 ht1
  refine wp_skip (Qw (Q0 (v1d 9 1 Qj hS8 ?_)))
  intro b2 w6 hS10
  refine w69 (cs:=[(.map none)]) hS10 Tryz.zeroValue335 rfl ?_
  intro b3 w7 hS11
  refine w68 (T:=335) (vs:=[(.map (some b2))]) (cs':=[(.map (some b2))]) (ms':=(blk b3 335 [(.map (some b2))]::smap b2 (asl [])::vec v6 9 1 ((cpt r1_).length) ((cpt r1_).flatMap Qj)::vec v4 9 1 ((srt nodes_p).length) ((srt nodes_p).flatMap Qj)::Ba 9 1 Qj [])) (i:=0) hS11 rfl rfl rfl Tryz.sizeOf335 rfl (ones rfl) rfl (Nat.le_of_ble_eq_true rfl) rfl rfl ?_
  intro w8 hS12
  refine wpList_nil (Qw (wp_seq (Q0 (Zd (v:=(.slice a2 edges_p.length cap2)) rfl (z1g rfl Tryz.underlying278 ?_)))))
  have hlen3:=RSl.len63 hr2
  replace hP:=hP hlen3
  refine Zd (v:=(.int .i64 (0:Int))) rfl (wpList_nil (Qw (wp_block ?_)))
  have hS13:=hS12.front 3 rfl (ms':=(vec v4 9 1 ((srt nodes_p).length) ((srt nodes_p).flatMap Qj)::blk b3 335 [(.map (some b2))]::smap b2 (asl [])::vec v6 9 1 ((cpt r1_).length) ((cpt r1_).flatMap Qj)::Ba 9 1 Qj [])) rfl
  have hS14:=hS13.front 3 rfl (ms':=(vec v6 9 1 ((cpt r1_).length) ((cpt r1_).flatMap Qj)::vec v4 9 1 ((srt nodes_p).length) ((srt nodes_p).flatMap Qj)::blk b3 335 [(.map (some b2))]::smap b2 (asl [])::Ba 9 1 Qj [])) rfl
  have hS15:=hS14.front 2 rfl (ms':=(blk b3 335 [(.map (some b2))]::vec v6 9 1 ((cpt r1_).length) ((cpt r1_).flatMap Qj)::vec v4 9 1 ((srt nodes_p).length) ((srt nodes_p).flatMap Qj)::smap b2 (asl [])::Ba 9 1 Qj [])) rfl
  have hS16:=hS15.front 3 rfl (ms':=(smap b2 (asl [])::blk b3 335 [(.map (some b2))]::vec v6 9 1 ((cpt r1_).length) ((cpt r1_).flatMap Qj)::vec v4 9 1 ((srt nodes_p).length) ((srt nodes_p).flatMap Qj)::Ba 9 1 Qj [])) rfl
  refine v8l (fun k_3 F_2 f z=> ∃(es2:EL ByteArray) (σ3:Hv) (g:Fr),f=(upd (upd (upd (upd (upd g 6 v4) 7 (.pointer (some ⟨b3,0,none⟩))) 24 (.slice a2 edges_p.length cap2)) 25 (.int .i64 ((edges_p.length:Nat):Int))) 26 (.int .i64 ((k_3:Nat):Int)))/\St ⟨w,σ,[]⟩ z σ3 (smap b2 (asl es2)::blk b3 335 [(.map (some b2))]::vec v6 9 1 ((cpt r1_).length) ((cpt r1_).flatMap Qj)::vec v4 9 1 ((srt nodes_p).length) ((srt nodes_p).flatMap Qj)::Ba 9 1 Qj es2)/\Sub σ1 σ3/\ELF es2 F_2) hP ⟨[],σ1,_,(Z1 rfl (Z1 rfl (Z1 rfl (Z1 rfl (Z1 rfl rfl))))),hS16,(Sub.refl _),ELF.nil⟩ ?_
  clear hP
  rintro k_3 F_2 Y2 hP f w9 ⟨es2,σ3,g,rfl,hS17,hsub3,hF2⟩
  refine Q0 (v3n (r:=(decide (((k_3:Nat):Int)<((edges_p.length:Nat):Int)))) rfl rfl rfl (wpList_nil (Qw (wp_seq ?_))))
  refine if_d (((k_3:Nat):Int)<((edges_p.length:Nat):Int)) rfl (fun ht2=> ?_) (fun ht2=> ?_)
  ·
   replace hP:=hP.1 ht2
   refine wp_skip (Qw (wp_seq (wp_block (Q0 ?_))))
   obtain⟨x1_,hx1⟩:=getq (l:=edges_p) (k:=k_3) (by have:=ht2;omega)
   replace hP:=hP x1_ hx1
   obtain⟨ad1,cs1,ha1,hl2,hr6,hR1,hlt1⟩:=RSl.at hr2 hx1
   cases hR1
   refine Rf (k:=k_3) (a':=(ad1.add (k_3*2))) (congrArg (fun z=>Value.slice z _ _) ha1) rfl rfl hlt1 Tryz.underlying278 Tryz.sizeOf297 rfl (y1x (cs:=[(.string x1_.1),(.string x1_.2)]) rfl Tryz.isAgg297 Tryz.sizeOf297 rfl (hr6.row (View.of (Sub.trans hsub1 hsub3) hS17.view)) (w69 (cs:=[(.string (⟨#[]⟩:ByteArray)),(.string (⟨#[]⟩:ByteArray))]) hS17 Tryz.zeroValue297 rfl ?_))
   intro b4 w10 hS18
   refine w68 (T:=297) (vs:=[(.string x1_.1),(.string x1_.2)]) (cs':=[(.string x1_.1),(.string x1_.2)]) (ms':=(blk b4 297 [(.string x1_.1),(.string x1_.2)]::smap b2 (asl es2)::blk b3 335 [(.map (some b2))]::vec v6 9 1 ((cpt r1_).length) ((cpt r1_).flatMap Qj)::vec v4 9 1 ((srt nodes_p).length) ((srt nodes_p).flatMap Qj)::Ba 9 1 Qj es2)) (i:=0) hS18 rfl rfl rfl Tryz.sizeOf297 rfl (ones rfl) rfl (Nat.le_of_ble_eq_true rfl) rfl rfl ?_
   intro w11 hS19
   refine wpList_nil (Qw (wp_seq (Q0 (Zd (v:=v4) rfl (j5m (a':=⟨b4,0,none⟩) rfl Tryz.underlying297 rfl Tryz.sizeOf9 rfl (q67 (v:=(.string x1_.1)) rfl Tryz.isAgg9 (hS19.cell (i:=0) rfl rfl) ?_))))))
   obtain⟨σ4,hS20,hsub4,hr7⟩:=hS19.peek (i:=4) rfl q36 (show Sml (srt nodes_p).length by rw[J3];exact hsm1)
   obtain⟨Y3,hK2,hc2⟩:=hP
   refine q8p (args:=[v4,(.string x1_.1)]) rfl Tryz.call142 (Calls.mono (Vi (srt nodes_p) x1_.1 v4 hS20.view hr7 hc2) ?_)
   rintro _ w12 ⟨r2_,rfl,hg5,hY2⟩
   refine⟨_,rfl,?_⟩
   have hg5b:=hg5.back hsub4
   have hS21:=hS19.grow hg5b
   replace hP:=hK2 r2_ hY2
   refine v8f (r:=(!r2_)) rfl rfl ?_
   rcases Bool.eq_false_or_eq_true (r2_) with hb1|hb1
   ·
    replace hP:=hP.1 hb1
    refine Zd (v:=(.bool false)) (congrArg Value.bool (congrArg Bool.not hb1)) (o_on rfl rfl (Zd (v:=v4) rfl (o_on rfl rfl (j5m (a':=⟨b4,1,none⟩) rfl Tryz.underlying297 rfl Tryz.sizeOf9 rfl (o_on rfl rfl (q67 (v:=(.string x1_.2)) rfl Tryz.isAgg9 (hS21.cell (i:=0) rfl rfl) (o_on rfl rfl ?_)))))))
    obtain⟨σ5,hS22,hsub5,hr8⟩:=hS21.peek (i:=4) rfl q36 (show Sml (srt nodes_p).length by rw[J3];exact hsm1)
    obtain⟨Y4,hK3,hc3⟩:=hP
    refine q8p (args:=[v4,(.string x1_.2)]) rfl Tryz.call142 (Calls.mono (Vi (srt nodes_p) x1_.2 v4 hS22.view hr8 hc3) ?_)
    rintro _ w13 ⟨r3_,rfl,hg6,hY3⟩
    refine⟨_,rfl,?_⟩
    have hg6b:=hg6.back hsub5
    have hS23:=hS21.grow hg6b
    replace hP:=hK3 r3_ hY3
    refine o_on rfl rfl (v8f (r:=(!r3_)) rfl rfl (v8d (v:=(.bool (!r3_))) rfl rfl (wpList_nil (Qw ?_))))
    refine y5f rfl (fun ht3=> ?_) (fun ht3=> ?_)
    ·
     replace hP:=hP.2 (by first|(rw[ht3];exact Bool.false_ne_true)|simp[ht3])
     refine Q0 (Q1 (v:=(.slice none 0 0)) rfl (Q1 (v:=(.int .i64 (11:Int))) rfl (wpList_nil (Qw (wp_ret (Rz (j34 (Rz (Rz (j34 (Rz (ret2 rfl (show ev _ _ _=(.slice none 0 0) from rfl) (show ev _ _ _=(.int .i64 (11:Int)) from rfl) ?_))))))))))))
     have hS24:=hS23.addNil 9 1
     exact⟨[],(11:Int),(.slice none 0 0),rfl,(St.back (hS24.keep 1 (ms':=[vec (.slice none 0 0) 9 1 0 []]) rfl) (Sub.refl _)),(by simp[Sml]),hP⟩
    ·
     replace hP:=hP.1 ht3
     refine wp_skip (Qw (dr (fun z=>St ⟨w,σ,[]⟩ z σ3 [blk b4 297 [(.string x1_.1),(.string x1_.2)],blk b3 335 [(.map (some b2))],vec v6 9 1 ((cpt r1_).length) ((cpt r1_).flatMap Qj),vec v4 9 1 ((srt nodes_p).length) ((srt nodes_p).flatMap Qj)]) (by kernel_rfl) rfl ?_))
     have hS25:=hS23.drew
     refine dt 0 1 (v:=(.map (some b2))) (by kernel_rfl) rfl rfl (fun _ _ _ h=>h) (hS25.sublist (.cons_cons _ (.cons _ (.cons_cons _ (.cons_cons _ (.cons_cons _ (List.nil_sublist _))))))) (fun _ hJ _ hK=>q67 (v:=(.map (some b2))) rfl Tryz.isAgg335 (hJ.cell (i:=1) rfl rfl) ⟨rfl,hK⟩) (dt 1 3 (v:=(.pointer (some ⟨b4,0,none⟩))) (by kernel_rfl) rfl rfl (fun _ _ _ h=>h) (hS25.sublist (.cons_cons _ (.cons _ (.cons_cons _ (.cons_cons _ (.cons_cons _ (List.nil_sublist _))))))) (fun _ _ _ hK=>j5m (a':=⟨b4,0,none⟩) rfl Tryz.underlying297 rfl Tryz.sizeOf9 rfl ⟨rfl,hK⟩) (dt 2 7 (v:=(.string x1_.1)) (by kernel_rfl) rfl rfl (fun _ _ _ h=>h) (hS25.sublist (.cons_cons _ (.cons _ (.cons_cons _ (.cons_cons _ (.cons_cons _ (List.nil_sublist _))))))) (fun _ hJ _ hK=>q67 (v:=(.string x1_.1)) rfl Tryz.isAgg9 (hJ.cell (i:=0) rfl rfl) ⟨rfl,hK⟩) (dt 3 15 (v:=(.map (some b2))) (by kernel_rfl) rfl rfl (fun _ _ _ h=>h) (hS25.sublist (.cons_cons _ (.cons _ (.cons_cons _ (.cons_cons _ (.cons_cons _ (List.nil_sublist _))))))) (fun _ hJ _ hK=>q67 (v:=(.map (some b2))) rfl Tryz.isAgg335 (hJ.cell (i:=1) rfl rfl) ⟨rfl,hK⟩) (dt 4 31 (v:=(.pointer (some ⟨b4,0,none⟩))) (by kernel_rfl) rfl rfl (fun _ _ _ h=>h) (hS25.sublist (.cons_cons _ (.cons _ (.cons_cons _ (.cons_cons _ (.cons_cons _ (List.nil_sublist _))))))) (fun _ _ _ hK=>j5m (a':=⟨b4,0,none⟩) rfl Tryz.underlying297 rfl Tryz.sizeOf9 rfl ⟨rfl,hK⟩) (dt 5 63 (v:=(.string x1_.1)) (by kernel_rfl) rfl rfl (fun _ _ _ h=>h) (hS25.sublist (.cons_cons _ (.cons _ (.cons_cons _ (.cons_cons _ (.cons_cons _ (List.nil_sublist _))))))) (fun _ hJ _ hK=>q67 (v:=(.string x1_.1)) rfl Tryz.isAgg9 (hJ.cell (i:=0) rfl rfl) ⟨rfl,hK⟩) (dt 7 191 (v:=(.pointer (some ⟨b4,1,none⟩))) (by kernel_rfl) rfl rfl (fun _ _ _ h=>h) (hS25.sublist (.cons_cons _ (.cons _ (.cons_cons _ (.cons_cons _ (.cons_cons _ (List.nil_sublist _))))))) (fun _ _ _ hK=>j5m (a':=⟨b4,1,none⟩) rfl Tryz.underlying297 rfl Tryz.sizeOf9 rfl ⟨rfl,hK⟩) (dt 8 447 (v:=(.string x1_.2)) (by kernel_rfl) rfl rfl (fun _ _ _ h=>h) (hS25.sublist (.cons_cons _ (.cons _ (.cons_cons _ (.cons_cons _ (.cons_cons _ (List.nil_sublist _))))))) (fun _ hJ _ hK=>q67 (v:=(.string x1_.2)) rfl Tryz.isAgg9 (hJ.cell (i:=0) rfl rfl) ⟨rfl,hK⟩) ?_)))))))
     refine d2 6 9 511 959 (by kernel_rfl) rfl rfl rfl rfl ?_ ?_
     ·
      obtain⟨v7,hv1⟩: ∃v,(asl es2 x1_.1).getD (.slice none 0 0)=v:=⟨_,rfl⟩
      refine v3w (i:=1) (v:=v7) hS25 rfl rfl rfl Tryz.underlying335 Tryz.underlying9 Tryz.zeroValue55 hv1 (wpList_nil ?_)
      refine⟨rfl,(hS25.sublist (.cons_cons _ (.cons _ (.cons_cons _ (.cons_cons _ (.cons_cons _ (List.nil_sublist _))))))),?_⟩
      refine d1 9 1023 (by kernel_rfl) rfl (j40 (cs:=[(.string x1_.2)]) (e:=9) hS25 (fun _=>by kernel_rfl) ?_)
      intro b5 w14 hS26
      refine wpList_nil ?_
      refine⟨rfl,(hS26.sublist (.cons _ (.cons_cons _ (.cons _ (.cons_cons _ (.cons_cons _ (.cons_cons _ (List.nil_sublist _)))))))),?_⟩
      refine d1 10 2047 (by kernel_rfl) rfl ?_
      obtain⟨es3,hS27,hL1,hl3⟩:=St.borrow (ms:=[blk b5 9 [(.string x1_.2)],blk b4 297 [(.string x1_.1),(.string x1_.2)],smap b2 (asl es2),blk b3 335 [(.map (some b2))],vec v6 9 1 ((cpt r1_).length) ((cpt r1_).flatMap Qj),vec v4 9 1 ((srt nodes_p).length) ((srt nodes_p).flatMap Qj)]) hS26 hF2 x1_.1 hv1
      obtain⟨hsm3,hP⟩:=hP
      refine y2e (Ms:=fun v8=>(vec v8 9 1 ((((F_2 x1_.1).getD [])++[x1_.2]).length) ((((F_2 x1_.1).getD [])++[x1_.2]).flatMap Qj)::blk b5 9 [(.string x1_.2)]::blk b4 297 [(.string x1_.1),(.string x1_.2)]::smap b2 (asl es2)::blk b3 335 [(.map (some b2))]::vec v6 9 1 ((cpt r1_).length) ((cpt r1_).flatMap Qj)::vec v4 9 1 ((srt nodes_p).length) ((srt nodes_p).flatMap Qj)::Ba 9 1 Qj es3)) (k':=(((F_2 x1_.1).getD [])++[x1_.2]).length) (xs':=(((F_2 x1_.1).getD [])++[x1_.2]).flatMap Qj) Tryz.underlying55 Tryz.type9 rfl rfl (bytes:=16) rfl rfl (Nat.succ_pos _) hS27 rfl (q:=0) rfl rfl rfl (q9u (hS27.get (i:=1) rfl)) (ones rfl) hsm3 (by omega) (by first|rfl|exact List.length_append.symm|simp) (by simp[Qj]) (fun _=>rfl) ?_
      intro v8 w15 ho5 hS28
      have hS29:=hS28.drop 1 (ms':=(vec v8 9 1 ((((F_2 x1_.1).getD [])++[x1_.2]).length) ((((F_2 x1_.1).getD [])++[x1_.2]).flatMap Qj)::blk b4 297 [(.string x1_.1),(.string x1_.2)]::smap b2 (asl es2)::blk b3 335 [(.map (some b2))]::vec v6 9 1 ((cpt r1_).length) ((cpt r1_).flatMap Qj)::vec v4 9 1 ((srt nodes_p).length) ((srt nodes_p).flatMap Qj)::Ba 9 1 Qj es3)) rfl
      refine wpList_nil ?_
      refine⟨rfl,(hS29.sublist (.cons _ (.cons_cons _ (.cons _ (.cons_cons _ (.cons_cons _ (.cons_cons _ (List.nil_sublist _)))))))),?_⟩
      refine d1 11 4095 (by kernel_rfl) rfl (y2b (v:=v8) (i:=2) (ms':=(vec v8 9 1 ((((F_2 x1_.1).getD [])++[x1_.2]).length) ((((F_2 x1_.1).getD [])++[x1_.2]).flatMap Qj)::blk b4 297 [(.string x1_.1),(.string x1_.2)]::smap b2 (fun k'=>if k'=x1_.1 then some v8 else asl es2 k')::blk b3 335 [(.map (some b2))]::vec v6 9 1 ((cpt r1_).length) ((cpt r1_).flatMap Qj)::vec v4 9 1 ((srt nodes_p).length) ((srt nodes_p).flatMap Qj)::Ba 9 1 Qj es3)) hS29 rfl rfl rfl rfl Tryz.underlying335 Tryz.underlying9 rfl ?_)
      intro w16 hS30
      have hS32:=St.giveback (ms:=[blk b4 297 [(.string x1_.1),(.string x1_.2)],smap b2 (fun k'=>if k'=x1_.1 then some v8 else asl es2 k'),blk b3 335 [(.map (some b2))],vec v6 9 1 ((cpt r1_).length) ((cpt r1_).flatMap Qj),vec v4 9 1 ((srt nodes_p).length) ((srt nodes_p).flatMap Qj)]) (ms':=[blk b4 297 [(.string x1_.1),(.string x1_.2)],smap b2 (asl ((x1_.1,v8,((F_2 x1_.1).getD [])++[x1_.2])::es3)),blk b3 335 [(.map (some b2))],vec v6 9 1 ((cpt r1_).length) ((cpt r1_).flatMap Qj),vec v4 9 1 ((srt nodes_p).length) ((srt nodes_p).flatMap Qj)]) (i:=1) hS30 hL1 rfl rfl
      have hF3:=ELF.put (v:=v8) hF2 hL1 hsm3
      refine wpList_nil ?_
      refine⟨rfl,(hS32.sublist (.cons_cons _ (.cons _ (.cons_cons _ (.cons_cons _ (.cons_cons _ (List.nil_sublist _))))))),j41 (J':=fun z=>St ⟨w,σ,[]⟩ z σ3 (blk b4 297 [(.string x1_.1),(.string x1_.2)]::smap b2 (asl ((x1_.1,v8,((F_2 x1_.1).getD [])++[x1_.2])::es3))::blk b3 335 [(.map (some b2))]::vec v6 9 1 ((cpt r1_).length) ((cpt r1_).flatMap Qj)::vec v4 9 1 ((srt nodes_p).length) ((srt nodes_p).flatMap Qj)::Ba 9 1 Qj ((x1_.1,v8,((F_2 x1_.1).getD [])++[x1_.2])::es3))) (fun w h=>h.sublist (.cons_cons _ (.cons _ (.cons_cons _ (.cons_cons _ (.cons_cons _ (List.nil_sublist _))))))) _ _ _ _ ?_⟩
      refine dz (by kernel_rfl) (v09 (Qw (j1i (v08 (r:=((k_3+1:Nat):Int)) rfl rfl (nw (by omega) (by omega) (by have:=hlen3;omega)) (Zd (v:=(.int .i64 ((k_3+1:Nat):Int))) rfl (wpList_nil (Qw ?_)))))))
      exact⟨k_3+1,(put F_2 x1_.1 (((F_2 x1_.1).getD [])++[x1_.2])),_,rfl,hP,((x1_.1,v8,((F_2 x1_.1).getD [])++[x1_.2])::es3),σ3,_,(Z1 rfl (Z1 rfl (Z1 rfl (Z1 rfl (Z1 rfl rfl))))),(hS32.sublist (ms':=(smap b2 (asl ((x1_.1,v8,((F_2 x1_.1).getD [])++[x1_.2])::es3))::blk b3 335 [(.map (some b2))]::vec v6 9 1 ((cpt r1_).length) ((cpt r1_).flatMap Qj)::vec v4 9 1 ((srt nodes_p).length) ((srt nodes_p).flatMap Qj)::Ba 9 1 Qj ((x1_.1,v8,((F_2 x1_.1).getD [])++[x1_.2])::es3))) (.cons _ (List.Sublist.refl _))),hsub3,hF3⟩
     ·
      refine j40 (cs:=[(.string x1_.2)]) (e:=9) hS25 (fun _=>by kernel_rfl) ?_
      intro b5 w14 hS26
      refine wpList_nil ?_
      refine⟨rfl,(hS26.sublist (.cons _ (.cons_cons _ (.cons _ (.cons_cons _ (.cons_cons _ (.cons_cons _ (List.nil_sublist _)))))))),?_⟩
      refine d1 6 1023 (by kernel_rfl) rfl ?_
      obtain⟨v7,hv1⟩: ∃v,(asl es2 x1_.1).getD (.slice none 0 0)=v:=⟨_,rfl⟩
      refine v3w (i:=2) (v:=v7) hS26 rfl rfl rfl Tryz.underlying335 Tryz.underlying9 Tryz.zeroValue55 hv1 (wpList_nil ?_)
      refine⟨rfl,(hS26.sublist (.cons _ (.cons_cons _ (.cons _ (.cons_cons _ (.cons_cons _ (.cons_cons _ (List.nil_sublist _)))))))),?_⟩
      refine d1 10 2047 (by kernel_rfl) rfl ?_
      obtain⟨es3,hS27,hL1,hl3⟩:=St.borrow (ms:=[blk b5 9 [(.string x1_.2)],blk b4 297 [(.string x1_.1),(.string x1_.2)],smap b2 (asl es2),blk b3 335 [(.map (some b2))],vec v6 9 1 ((cpt r1_).length) ((cpt r1_).flatMap Qj),vec v4 9 1 ((srt nodes_p).length) ((srt nodes_p).flatMap Qj)]) hS26 hF2 x1_.1 hv1
      obtain⟨hsm3,hP⟩:=hP
      refine y2e (Ms:=fun v8=>(vec v8 9 1 ((((F_2 x1_.1).getD [])++[x1_.2]).length) ((((F_2 x1_.1).getD [])++[x1_.2]).flatMap Qj)::blk b5 9 [(.string x1_.2)]::blk b4 297 [(.string x1_.1),(.string x1_.2)]::smap b2 (asl es2)::blk b3 335 [(.map (some b2))]::vec v6 9 1 ((cpt r1_).length) ((cpt r1_).flatMap Qj)::vec v4 9 1 ((srt nodes_p).length) ((srt nodes_p).flatMap Qj)::Ba 9 1 Qj es3)) (k':=(((F_2 x1_.1).getD [])++[x1_.2]).length) (xs':=(((F_2 x1_.1).getD [])++[x1_.2]).flatMap Qj) Tryz.underlying55 Tryz.type9 rfl rfl (bytes:=16) rfl rfl (Nat.succ_pos _) hS27 rfl (q:=0) rfl rfl rfl (q9u (hS27.get (i:=1) rfl)) (ones rfl) hsm3 (by omega) (by first|rfl|exact List.length_append.symm|simp) (by simp[Qj]) (fun _=>rfl) ?_
      intro v8 w15 ho5 hS28
      have hS29:=hS28.drop 1 (ms':=(vec v8 9 1 ((((F_2 x1_.1).getD [])++[x1_.2]).length) ((((F_2 x1_.1).getD [])++[x1_.2]).flatMap Qj)::blk b4 297 [(.string x1_.1),(.string x1_.2)]::smap b2 (asl es2)::blk b3 335 [(.map (some b2))]::vec v6 9 1 ((cpt r1_).length) ((cpt r1_).flatMap Qj)::vec v4 9 1 ((srt nodes_p).length) ((srt nodes_p).flatMap Qj)::Ba 9 1 Qj es3)) rfl
      refine wpList_nil ?_
      refine⟨rfl,(hS29.sublist (.cons _ (.cons_cons _ (.cons _ (.cons_cons _ (.cons_cons _ (.cons_cons _ (List.nil_sublist _)))))))),?_⟩
      refine d1 11 4095 (by kernel_rfl) rfl (y2b (v:=v8) (i:=2) (ms':=(vec v8 9 1 ((((F_2 x1_.1).getD [])++[x1_.2]).length) ((((F_2 x1_.1).getD [])++[x1_.2]).flatMap Qj)::blk b4 297 [(.string x1_.1),(.string x1_.2)]::smap b2 (fun k'=>if k'=x1_.1 then some v8 else asl es2 k')::blk b3 335 [(.map (some b2))]::vec v6 9 1 ((cpt r1_).length) ((cpt r1_).flatMap Qj)::vec v4 9 1 ((srt nodes_p).length) ((srt nodes_p).flatMap Qj)::Ba 9 1 Qj es3)) hS29 rfl rfl rfl rfl Tryz.underlying335 Tryz.underlying9 rfl ?_)
      intro w16 hS30
      have hS32:=St.giveback (ms:=[blk b4 297 [(.string x1_.1),(.string x1_.2)],smap b2 (fun k'=>if k'=x1_.1 then some v8 else asl es2 k'),blk b3 335 [(.map (some b2))],vec v6 9 1 ((cpt r1_).length) ((cpt r1_).flatMap Qj),vec v4 9 1 ((srt nodes_p).length) ((srt nodes_p).flatMap Qj)]) (ms':=[blk b4 297 [(.string x1_.1),(.string x1_.2)],smap b2 (asl ((x1_.1,v8,((F_2 x1_.1).getD [])++[x1_.2])::es3)),blk b3 335 [(.map (some b2))],vec v6 9 1 ((cpt r1_).length) ((cpt r1_).flatMap Qj),vec v4 9 1 ((srt nodes_p).length) ((srt nodes_p).flatMap Qj)]) (i:=1) hS30 hL1 rfl rfl
      have hF3:=ELF.put (v:=v8) hF2 hL1 hsm3
      refine wpList_nil ?_
      refine⟨rfl,(hS32.sublist (.cons_cons _ (.cons _ (.cons_cons _ (.cons_cons _ (.cons_cons _ (List.nil_sublist _))))))),j41 (J':=fun z=>St ⟨w,σ,[]⟩ z σ3 (blk b4 297 [(.string x1_.1),(.string x1_.2)]::smap b2 (asl ((x1_.1,v8,((F_2 x1_.1).getD [])++[x1_.2])::es3))::blk b3 335 [(.map (some b2))]::vec v6 9 1 ((cpt r1_).length) ((cpt r1_).flatMap Qj)::vec v4 9 1 ((srt nodes_p).length) ((srt nodes_p).flatMap Qj)::Ba 9 1 Qj ((x1_.1,v8,((F_2 x1_.1).getD [])++[x1_.2])::es3))) (fun w h=>h.sublist (.cons_cons _ (.cons _ (.cons_cons _ (.cons_cons _ (.cons_cons _ (List.nil_sublist _))))))) _ _ _ _ ?_⟩
      refine dz (by kernel_rfl) (v09 (Qw (j1i (v08 (r:=((k_3+1:Nat):Int)) rfl rfl (nw (by omega) (by omega) (by have:=hlen3;omega)) (Zd (v:=(.int .i64 ((k_3+1:Nat):Int))) rfl (wpList_nil (Qw ?_)))))))
      exact⟨k_3+1,(put F_2 x1_.1 (((F_2 x1_.1).getD [])++[x1_.2])),_,rfl,hP,((x1_.1,v8,((F_2 x1_.1).getD [])++[x1_.2])::es3),σ3,_,(Z1 rfl (Z1 rfl (Z1 rfl (Z1 rfl (Z1 rfl rfl))))),(hS32.sublist (ms':=(smap b2 (asl ((x1_.1,v8,((F_2 x1_.1).getD [])++[x1_.2])::es3))::blk b3 335 [(.map (some b2))]::vec v6 9 1 ((cpt r1_).length) ((cpt r1_).flatMap Qj)::vec v4 9 1 ((srt nodes_p).length) ((srt nodes_p).flatMap Qj)::Ba 9 1 Qj ((x1_.1,v8,((F_2 x1_.1).getD [])++[x1_.2])::es3))) (.cons _ (List.Sublist.refl _))),hsub3,hF3⟩
   ·
    replace hP:=hP.2 (by first|(rw[hb1];exact Bool.false_ne_true)|simp[hb1])
    refine Zd (v:=(.bool true)) (congrArg Value.bool (congrArg Bool.not hb1)) (v3m rfl rfl (v3m rfl rfl (v3m rfl rfl (v3m rfl rfl (v3m rfl rfl (v8c (v:=(.bool true)) rfl rfl (wpList_nil (Qw (if_t rfl (Q0 (Q1 (v:=(.slice none 0 0)) rfl (Q1 (v:=(.int .i64 (11:Int))) rfl (wpList_nil (Qw (wp_ret (Rz (j34 (Rz (Rz (j34 (Rz (ret2 rfl (show ev _ _ _=(.slice none 0 0) from rfl) (show ev _ _ _=(.int .i64 (11:Int)) from rfl) ?_))))))))))))))))))))))
    have hS33:=hS21.addNil 9 1
    exact⟨[],(11:Int),(.slice none 0 0),rfl,(St.back (hS33.keep 1 (ms':=[vec (.slice none 0 0) 9 1 0 []]) rfl) (Sub.refl _)),(by simp[Sml]),hP⟩
  ·
   replace hP:=hP.2 ht2
   refine wp_exit (z7j (z7j (j5o (Qw (Q0 (Q1 (v:=(.slice none 0 0)) rfl (wpList_nil (Qw (Q0 (y2c (fun y:Bool=>(Value.bool (y))) hS17 ?_))))))))))
   intro b6 w17 hS34
   refine w69 (cs:=[(.map none)]) hS34 Tryz.zeroValue177 rfl ?_
   intro b7 w18 hS35
   refine w68 (T:=177) (vs:=[(.map (some b6))]) (cs':=[(.map (some b6))]) (ms':=(blk b7 177 [(.map (some b6))]::emap b6 (fun y:Bool=>(Value.bool (y))) (fun _=>none)::smap b2 (asl es2)::blk b3 335 [(.map (some b2))]::vec v6 9 1 ((cpt r1_).length) ((cpt r1_).flatMap Qj)::vec v4 9 1 ((srt nodes_p).length) ((srt nodes_p).flatMap Qj)::Ba 9 1 Qj es2)) (i:=0) hS35 rfl rfl rfl Tryz.sizeOf177 rfl (ones rfl) rfl (Nat.le_of_ble_eq_true rfl) rfl rfl ?_
   intro w19 hS36
   refine wpList_nil (Qw (wp_seq (wp_block ?_)))
   obtain⟨σ6,hS37,hsub6,hr9⟩:=St.freezeL (ms:=[blk b7 177 [(.map (some b6))],emap b6 (fun y:Bool=>(Value.bool (y))) (fun _=>none),smap b2 (asl es2),blk b3 335 [(.map (some b2))],vec v6 9 1 ((cpt r1_).length) ((cpt r1_).flatMap Qj),vec v4 9 1 ((srt nodes_p).length) ((srt nodes_p).flatMap Qj)]) (ms':=[blk b7 177 [(.map (some b6))],emap b6 (fun y:Bool=>(Value.bool (y))) (fun _=>none),blk b3 335 [(.map (some b2))],vec v6 9 1 ((cpt r1_).length) ((cpt r1_).flatMap Qj),vec v4 9 1 ((srt nodes_p).length) ((srt nodes_p).flatMap Qj)]) (i:=2) hS36 hF2 q36 rfl rfl
   have hS38:=hS37.addNil 9 1
   have hS39:=hS38.front 4 rfl (ms':=[vec v6 9 1 ((cpt r1_).length) ((cpt r1_).flatMap Qj),vec (.slice none 0 0) 9 1 0 [],blk b7 177 [(.map (some b6))],emap b6 (fun y:Bool=>(Value.bool (y))) (fun _=>none),blk b3 335 [(.map (some b2))],vec v4 9 1 ((srt nodes_p).length) ((srt nodes_p).flatMap Qj)]) rfl
   have hS40:=hS39.front 4 rfl (ms':=[blk b3 335 [(.map (some b2))],vec v6 9 1 ((cpt r1_).length) ((cpt r1_).flatMap Qj),vec (.slice none 0 0) 9 1 0 [],blk b7 177 [(.map (some b6))],emap b6 (fun y:Bool=>(Value.bool (y))) (fun _=>none),vec v4 9 1 ((srt nodes_p).length) ((srt nodes_p).flatMap Qj)]) rfl
   have hS41:=hS40.front 3 rfl (ms':=[blk b7 177 [(.map (some b6))],blk b3 335 [(.map (some b2))],vec v6 9 1 ((cpt r1_).length) ((cpt r1_).flatMap Qj),vec (.slice none 0 0) 9 1 0 [],emap b6 (fun y:Bool=>(Value.bool (y))) (fun _=>none),vec v4 9 1 ((srt nodes_p).length) ((srt nodes_p).flatMap Qj)]) rfl
   have hS42:=hS41.front 4 rfl (ms':=[emap b6 (fun y:Bool=>(Value.bool (y))) (fun _=>none),blk b7 177 [(.map (some b6))],blk b3 335 [(.map (some b2))],vec v6 9 1 ((cpt r1_).length) ((cpt r1_).flatMap Qj),vec (.slice none 0 0) 9 1 0 [],vec v4 9 1 ((srt nodes_p).length) ((srt nodes_p).flatMap Qj)]) rfl
   have hS43:=hS42.front 4 rfl (ms':=[vec (.slice none 0 0) 9 1 0 [],emap b6 (fun y:Bool=>(Value.bool (y))) (fun _=>none),blk b7 177 [(.map (some b6))],blk b3 335 [(.map (some b2))],vec v6 9 1 ((cpt r1_).length) ((cpt r1_).flatMap Qj),vec v4 9 1 ((srt nodes_p).length) ((srt nodes_p).flatMap Qj)]) rfl
   have hS44:=hS43.front 5 rfl (ms':=[vec v4 9 1 ((srt nodes_p).length) ((srt nodes_p).flatMap Qj),vec (.slice none 0 0) 9 1 0 [],emap b6 (fun y:Bool=>(Value.bool (y))) (fun _=>none),blk b7 177 [(.map (some b6))],blk b3 335 [(.map (some b2))],vec v6 9 1 ((cpt r1_).length) ((cpt r1_).flatMap Qj)]) rfl
   refine v8m (fun left_3 out_3 F_4 f z=> ∃(v13:Value) (v14:Value) (σ7:Hv) (g:Fr),f=(upd (upd (upd (upd g 6 v13) 7 (.pointer (some ⟨b3,0,none⟩))) 10 v14) 11 (.pointer (some ⟨b7,0,none⟩)))/\St ⟨w,σ,[]⟩ z σ7 [vec v13 9 1 left_3.length ((left_3).flatMap Qj),vec v14 9 1 out_3.length ((out_3).flatMap Qj),emap b6 (fun y:Bool=>(Value.bool (y))) F_4,blk b7 177 [(.map (some b6))],blk b3 335 [(.map (some b2))],vec v6 9 1 ((cpt r1_).length) ((cpt r1_).flatMap Qj)]/\Sub σ6 σ7/\v13.oneCell'=true/\Sml left_3.length/\v14.oneCell'=true/\Sml out_3.length) hP ⟨v4,(.slice none 0 0),σ6,_,(Z1 rfl (Z1 rfl (Z1 rfl (Z1 rfl rfl)))),hS44,(Sub.refl _),(R0 ho1.1),(show Sml (srt nodes_p).length by rw[J3];exact hsm1),rfl,(by simp[Sml])⟩ ?_
   clear hP
   rintro left_3 out_3 F_4 Y5 hP f w20 ⟨v13,v14,σ7,g,rfl,hS45,hsub7,ho10,hl8,ho11,hl9⟩
   refine wp_seq (Q0 (Zd (v:=v13) rfl (z9f hS45 rfl (i:=0) rfl Tryz.underlying55 ?_)))
   have hlen4:left_3.length<=9223372036854775807:=by have:=hl8;unfold Sml at this;omega
   replace hP:=hP hlen4
   refine y7m (r:=(decide ((0:Int)<((left_3.length:Nat):Int)))) rfl rfl rfl (wpList_nil (Qw ?_))
   refine if_d ((0:Int)<((left_3.length:Nat):Int)) rfl (fun ht4=> ?_) (fun ht4=> ?_)
   ·
    replace hP:=hP.1 ht4
    refine wp_skip (Qw (wp_block (Q0 (Zd (v:=v13) rfl (j1j (la:=[]) (lb:=[(.pointer (some ⟨b3,0,none⟩)),(.pointer (some ⟨b7,0,none⟩))]) rfl rfl ?_)))))
    obtain⟨Y6,hK4,hP⟩:=hP
    refine q8p (args:=[v13,(.func (.func 229) #[] #[(.pointer (some ⟨b3,0,none⟩)),(.pointer (some ⟨b7,0,none⟩))])]) rfl Tryz.call228 (Calls.mono (R:=fun e z=> ∃(r_1:Int) (σ8:Hv),e= .returned (.int .i64 r_1)/\Y6 r_1/\St ⟨w,σ,[]⟩ z σ8 [vec v13 9 1 left_3.length ((left_3).flatMap Qj),vec v14 9 1 out_3.length ((out_3).flatMap Qj),emap b6 (fun y:Bool=>(Value.bool (y))) F_4,blk b7 177 [(.map (some b6))],blk b3 335 [(.map (some b2))],vec v6 9 1 ((cpt r1_).length) ((cpt r1_).flatMap Qj)]/\Sub σ7 σ8) ?_ ?_)
    ·
     refine enter Tryz.func228 rfl rfl rfl ?_
     refine Q0 (Q1 (v:=(.int .i64 (0:Int))) rfl (wpList_nil (Qw (wp_seq (Q0 (Zd (v:=v13) rfl (z9f hS45 rfl (i:=0) rfl Tryz.underlying55 (Zd (v:=(.int .i64 (0:Int))) rfl (wpList_nil (Qw (wp_block ?_)))))))))))
     refine w0r (fun k_5 f z=> ∃(σ9:Hv) (g:Fr),f=(upd (upd (upd (upd g 0 v13) 1 (.func (.func 229) #[] #[(.pointer (some ⟨b3,0,none⟩)),(.pointer (some ⟨b7,0,none⟩))])) 7 (.int .i64 ((left_3.length:Nat):Int))) 8 (.int .i64 ((k_5:Nat):Int)))/\St ⟨w,σ,[]⟩ z σ9 [vec v13 9 1 left_3.length ((left_3).flatMap Qj),vec v14 9 1 out_3.length ((out_3).flatMap Qj),emap b6 (fun y:Bool=>(Value.bool (y))) F_4,blk b7 177 [(.map (some b6))],blk b3 335 [(.map (some b2))],vec v6 9 1 ((cpt r1_).length) ((cpt r1_).flatMap Qj)]/\Sub σ7 σ9) hP ⟨σ7,_,(Z1 rfl (Z1 rfl (Z1 rfl (Z1 rfl rfl)))),hS45,(Sub.refl _)⟩ ?_
     clear hP
     rintro k_5 Y7 hP f w21 ⟨σ9,g,rfl,hS46,hsub9⟩
     refine Q0 (v3n (r:=(decide (((k_5:Nat):Int)<((left_3.length:Nat):Int)))) rfl rfl rfl (wpList_nil (Qw (wp_seq ?_))))
     refine if_d (((k_5:Nat):Int)<((left_3.length:Nat):Int)) rfl (fun ht5=> ?_) (fun ht5=> ?_)
     ·
      replace hP:=hP.1 ht5
      refine wp_skip (Qw (wp_seq (wp_block (Q0 (Zd (v:=(.int .i64 ((k_5:Nat):Int))) rfl (Q1 (v:=(.int .i64 ((k_5:Nat):Int))) rfl (wpList_nil (Qw (Q0 (Zd (v:=(.func (.func 229) #[] #[(.pointer (some ⟨b3,0,none⟩)),(.pointer (some ⟨b7,0,none⟩))])) rfl (Zd (v:=v13) rfl (Zd (v:=(.int .i64 ((k_5:Nat):Int))) rfl ?_))))))))))))
      obtain⟨x2_,hx2⟩:=getq (l:=left_3) (k:=k_5) (by have:=ht5;omega)
      replace hP:=hP x2_ hx2
      obtain⟨g1,cp1,hv2⟩:=w0s (hS46.get (i:=0) rfl) (Qc hx2)
      refine Rf (k:=k_5) (a':=⟨g1,k_5*1,none⟩) hv2 rfl rfl (Qc hx2) Tryz.underlying55 Tryz.sizeOf9 (by simp[Vp]) (q67 (v:=(.string x2_)) rfl Tryz.isAgg9 (j5u q36 (j:=0) hv2 (hS46.get (i:=0) rfl) hx2 rfl) (v3q (args:=[(.string x2_),(.pointer (some ⟨b3,0,none⟩)),(.pointer (some ⟨b7,0,none⟩))]) rfl rfl Tryz.call229 ?_))
      refine enter Tryz.func229 rfl rfl rfl ?_
      refine Q0 (Q1 (v:=(.bool false)) rfl (wpList_nil (Qw (Q0 (q67 (v:=(.map (some b2))) rfl Tryz.isAgg335 (hS46.cell (i:=4) rfl rfl) (Zd (v:=(.string x2_)) rfl ?_))))))
      obtain⟨v15,hl10,hz1⟩:=RMp.at (z:= .slice none 0 0) (z0:=[]) RSl.nil hr9 x2_
      obtain⟨a3,cap3,rfl⟩:=hz1.shape
      refine y2f (v:=(.slice a3 ((F_2 x2_).getD []).length cap3)) hl10 (View.of (Sub.trans hsub7 hsub9) hS46.view) rfl rfl Tryz.underlying335 Tryz.underlying9 Tryz.zeroValue55 (j1j (la:=[]) (lb:=[(.pointer (some ⟨b7,0,none⟩))]) rfl rfl (q8p (args:=[(.slice a3 ((F_2 x2_).getD []).length cap3),(.func (.func 231) #[] #[(.pointer (some ⟨b7,0,none⟩))])]) rfl Tryz.call230 ?_))
      refine enter Tryz.func230 rfl rfl rfl ?_
      refine Q0 (Q1 (v:=(.bool false)) rfl (wpList_nil (Qw (Q0 (Zd (v:=(.slice a3 ((F_2 x2_).getD []).length cap3)) rfl (Zd (v:=(.func (.func 231) #[] #[(.pointer (some ⟨b7,0,none⟩))])) rfl ?_))))))
      obtain⟨Y8,hK5,hP⟩:=hP
      refine q8p (args:=[(.slice a3 ((F_2 x2_).getD []).length cap3),(.func (.func 231) #[] #[(.pointer (some ⟨b7,0,none⟩))])]) rfl Tryz.call228 (Calls.mono (R:=fun e z=> ∃(r_2:Int) (σ10:Hv),e= .returned (.int .i64 r_2)/\Y8 r_2/\St ⟨w,σ,[]⟩ z σ10 [vec v13 9 1 left_3.length ((left_3).flatMap Qj),vec v14 9 1 out_3.length ((out_3).flatMap Qj),emap b6 (fun y:Bool=>(Value.bool (y))) F_4,blk b7 177 [(.map (some b6))],blk b3 335 [(.map (some b2))],vec v6 9 1 ((cpt r1_).length) ((cpt r1_).flatMap Qj)]/\Sub σ9 σ10) ?_ ?_)
      ·
       refine enter Tryz.func228 rfl rfl rfl ?_
       refine Q0 (Q1 (v:=(.int .i64 (0:Int))) rfl (wpList_nil (Qw (wp_seq (Q0 (Zd (v:=(.slice a3 ((F_2 x2_).getD []).length cap3)) rfl (z1g rfl Tryz.underlying55 ?_)))))))
       have hlen6:=RSl.len63 hz1
       replace hP:=hP hlen6
       refine Zd (v:=(.int .i64 (0:Int))) rfl (wpList_nil (Qw (wp_block ?_)))
       refine w0r (fun k_7 f z=> ∃(σ11:Hv) (g:Fr),f=(upd (upd (upd (upd g 0 (.slice a3 ((F_2 x2_).getD []).length cap3)) 1 (.func (.func 231) #[] #[(.pointer (some ⟨b7,0,none⟩))])) 7 (.int .i64 ((((F_2 x2_).getD []).length:Nat):Int))) 8 (.int .i64 ((k_7:Nat):Int)))/\St ⟨w,σ,[]⟩ z σ11 [vec v13 9 1 left_3.length ((left_3).flatMap Qj),vec v14 9 1 out_3.length ((out_3).flatMap Qj),emap b6 (fun y:Bool=>(Value.bool (y))) F_4,blk b7 177 [(.map (some b6))],blk b3 335 [(.map (some b2))],vec v6 9 1 ((cpt r1_).length) ((cpt r1_).flatMap Qj)]/\Sub σ9 σ11) hP ⟨σ9,_,(Z1 rfl (Z1 rfl (Z1 rfl (Z1 rfl rfl)))),hS46,(Sub.refl _)⟩ ?_
       clear hP
       rintro k_7 Y9 hP f w22 ⟨σ11,g,rfl,hS47,hsub11⟩
       refine Q0 (v3n (r:=(decide (((k_7:Nat):Int)<((((F_2 x2_).getD []).length:Nat):Int)))) rfl rfl rfl (wpList_nil (Qw (wp_seq ?_))))
       refine if_d (((k_7:Nat):Int)<((((F_2 x2_).getD []).length:Nat):Int)) rfl (fun ht6=> ?_) (fun ht6=> ?_)
       ·
        replace hP:=hP.1 ht6
        refine wp_skip (Qw (wp_seq (wp_block (Q0 (Zd (v:=(.int .i64 ((k_7:Nat):Int))) rfl (Q1 (v:=(.int .i64 ((k_7:Nat):Int))) rfl (wpList_nil (Qw (Q0 (Zd (v:=(.func (.func 231) #[] #[(.pointer (some ⟨b7,0,none⟩))])) rfl (Zd (v:=(.slice a3 ((F_2 x2_).getD []).length cap3)) rfl (Zd (v:=(.int .i64 ((k_7:Nat):Int))) rfl ?_))))))))))))
        obtain⟨x3_,hx3⟩:=getq (l:=((F_2 x2_).getD [])) (k:=k_7) (by have:=ht6;omega)
        replace hP:=hP x3_ hx3
        obtain⟨ad2,cs2,ha2,hl11,hr10,hR2,hlt2⟩:=RSl.at hz1 hx3
        cases hR2
        refine Rf (k:=k_7) (a':=(ad2.add (k_7*1))) (congrArg (fun z=>Value.slice z _ _) ha2) rfl rfl hlt2 Tryz.underlying55 Tryz.sizeOf9 rfl (q67 (v:=(.string x3_)) rfl Tryz.isAgg9 (hr10.cell (View.of (Sub.trans (Sub.trans hsub7 hsub9) hsub11) hS47.view) 0 rfl rfl) (v3q (args:=[(.string x3_),(.pointer (some ⟨b7,0,none⟩))]) rfl rfl Tryz.call231 ?_))
        refine enter Tryz.func231 rfl rfl rfl ?_
        refine Q0 (Q1 (v:=(.bool false)) rfl (wpList_nil (Qw (Q0 (q67 (v:=(.map (some b6))) rfl Tryz.isAgg177 (hS47.cell (i:=3) rfl rfl) (Zd (v:=(.string x3_)) rfl (y2d (v:=(.bool (((F_4 x3_).getD false)))) (i:=2) hS47 rfl rfl rfl Tryz.underlying177 Tryz.underlying9 Tryz.zeroValue4 (v8n (fun y:Bool=>(Value.bool (y))) _ rfl) (v8f (r:=(!((F_4 x3_).getD false))) rfl rfl (Q1 (v:=(.bool (!((F_4 x3_).getD false)))) rfl (wpList_nil (Qw (wp_ret (ret1 rfl (show ev _ _ _=(.bool (!((F_4 x3_).getD false))) from rfl) ?_)))))))))))))
        refine⟨_,rfl,?_⟩
        refine wpList_nil (Qw ?_)
        refine y5f rfl (fun ht7=> ?_) (fun ht7=> ?_)
        ·
         replace hP:=hP.2 (by first|(rw[ht7];exact Bool.false_ne_true)|simp[ht7])
         refine Q0 (Zd (v:=(.int .i64 ((k_7:Nat):Int))) rfl (Q1 (v:=(.int .i64 ((k_7:Nat):Int))) rfl (wpList_nil (Qw (wp_ret (j34 (Rz (Rz (j34 (Rz (ret1 rfl (show ev _ _ _=(.int .i64 ((k_7:Nat):Int)) from rfl) ?_)))))))))))
         exact⟨((k_7:Nat):Int),σ11,rfl,hP,hS47,hsub11⟩
        ·
         replace hP:=hP.1 ht7
         refine wp_skip (v09 (Qw (j1i (v08 (r:=((k_7+1:Nat):Int)) rfl rfl (nw (by omega) (by omega) (by have:=hlen6;omega)) (Zd (v:=(.int .i64 ((k_7+1:Nat):Int))) rfl (wpList_nil (Qw ?_)))))))
         exact⟨k_7+1,_,rfl,hP,σ11,_,(Z1 rfl (Z1 rfl (Z1 rfl (Z1 rfl rfl)))),hS47,hsub11⟩
       ·
        replace hP:=hP.2 ht6
        refine wp_exit (z7j (z7j (j5o (Qw (Q0 (Q1 (v:=(.int .i64 (-1:Int))) rfl (wpList_nil (Qw (wp_ret (ret1 rfl (show ev _ _ _=(.int .i64 (-1:Int)) from rfl) ?_))))))))))
        exact⟨(-1:Int),σ11,rfl,hP,hS47,hsub11⟩
      ·
       rintro _ w23 ⟨r_2,σ10,rfl,hY4,hS48,hsub10⟩
       refine⟨_,rfl,?_⟩
       replace hP:=hK5 r_2 hY4
       refine y5c (r:=(decide ((0:Int)<=r_2))) rfl rfl rfl (Q1 (v:=(.bool (decide ((0:Int)<=r_2)))) rfl (wpList_nil (Qw (wp_ret (ret1 rfl (show ev _ _ _=(.bool (decide ((0:Int)<=r_2))) from rfl) ?_)))))
       refine⟨_,rfl,?_⟩
       refine v8f (r:=(!decide ((0:Int)<=r_2))) rfl rfl (Q1 (v:=(.bool (!decide ((0:Int)<=r_2)))) rfl (wpList_nil (Qw (wp_ret (ret1 rfl (show ev _ _ _=(.bool (!decide ((0:Int)<=r_2))) from rfl) ?_)))))
       refine⟨_,rfl,?_⟩
       refine wpList_nil (Qw ?_)
       refine y5e ((0:Int)<=r_2) rfl (fun ht8=> ?_) (fun ht8=> ?_)
       ·
        replace hP:=hP.2 ht8
        refine Q0 (Zd (v:=(.int .i64 ((k_5:Nat):Int))) rfl (Q1 (v:=(.int .i64 ((k_5:Nat):Int))) rfl (wpList_nil (Qw (wp_ret (j34 (Rz (Rz (j34 (Rz (ret1 rfl (show ev _ _ _=(.int .i64 ((k_5:Nat):Int)) from rfl) ?_)))))))))))
        exact⟨((k_5:Nat):Int),σ10,rfl,hP,hS48,(Sub.trans hsub9 hsub10)⟩
       ·
        replace hP:=hP.1 ht8
        refine wp_skip (v09 (Qw (j1i (v08 (r:=((k_5+1:Nat):Int)) rfl rfl (nw (by omega) (by omega) (by have:=hlen4;omega)) (Zd (v:=(.int .i64 ((k_5+1:Nat):Int))) rfl (wpList_nil (Qw ?_)))))))
        exact⟨k_5+1,_,rfl,hP,σ10,_,(Z1 rfl (Z1 rfl (Z1 rfl (Z1 rfl rfl)))),hS48,(Sub.trans hsub9 hsub10)⟩
     ·
      replace hP:=hP.2 ht5
      refine wp_exit (z7j (z7j (j5o (Qw (Q0 (Q1 (v:=(.int .i64 (-1:Int))) rfl (wpList_nil (Qw (wp_ret (ret1 rfl (show ev _ _ _=(.int .i64 (-1:Int)) from rfl) ?_))))))))))
      exact⟨(-1:Int),σ9,rfl,hP,hS46,hsub9⟩
    ·
     rintro _ w24 ⟨r_1,σ8,rfl,hY5,hS49,hsub8⟩
     refine⟨_,rfl,?_⟩
     replace hP:=hK4 r_1 hY5
     refine Q1 (v:=(.int .i64 r_1)) rfl (wpList_nil (Qw (wp_seq (Q0 (Zd (v:=(.int .i64 r_1)) rfl (v3n (r:=(decide (r_1<(0:Int)))) rfl rfl rfl (wpList_nil (Qw ?_))))))))
     refine if_d (r_1<(0:Int)) rfl (fun ht9=> ?_) (fun ht9=> ?_)
     ·
      replace hP:=hP.1 ht9
      refine Q0 (Q1 (v:=(.slice none 0 0)) rfl (Q1 (v:=(.int .i64 (12:Int))) rfl (wpList_nil (Qw (wp_ret (Rz (j34 (Rz (j34 (Rz (ret2 rfl (show ev _ _ _=(.slice none 0 0) from rfl) (show ev _ _ _=(.int .i64 (12:Int)) from rfl) ?_)))))))))))
      have hS50:=hS49.addNil 9 1
      exact⟨[],(12:Int),(.slice none 0 0),rfl,(St.back (hS50.keep 1 (ms':=[vec (.slice none 0 0) 9 1 0 []]) rfl) (Sub.refl _)),(by simp[Sml]),hP⟩
     ·
      replace hP:=hP.2 ht9
      refine wp_skip (Qw (Q0 (Zd (v:=v14) rfl (Zd (v:=v13) rfl (Zd (v:=(.int .i64 r_1)) rfl ?_)))))
      obtain⟨j1_,hj1,hP⟩:=hP
      obtain⟨x4_,hx4,hP⟩:=hP
      obtain⟨g2,cp2,hv3⟩:=w0s (hS49.get (i:=0) rfl) (Qc hx4)
      refine Rf (k:=j1_) (a':=⟨g2,j1_*1,none⟩) hv3 rfl hj1 (Qc hx4) Tryz.underlying55 Tryz.sizeOf9 (by simp[Vp]) (q67 (v:=(.string x4_)) rfl Tryz.isAgg9 (j5u q36 (j:=0) hv3 (hS49.get (i:=0) rfl) hx4 rfl) (j40 (cs:=[(.string x4_)]) (e:=9) hS49 (fun _=>by kernel_rfl) ?_))
      intro b8 w25 hS51
      obtain⟨hsm4,hP⟩:=hP
      refine y2e (Ms:=fun v16=>[blk b8 9 [(.string x4_)],vec v13 9 1 left_3.length ((left_3).flatMap Qj),vec v16 9 1 ((out_3++[x4_]).length) ((out_3++[x4_]).flatMap Qj),emap b6 (fun y:Bool=>(Value.bool (y))) F_4,blk b7 177 [(.map (some b6))],blk b3 335 [(.map (some b2))],vec v6 9 1 ((cpt r1_).length) ((cpt r1_).flatMap Qj)]) (k':=(out_3++[x4_]).length) (xs':=(out_3++[x4_]).flatMap Qj) Tryz.underlying55 Tryz.type9 rfl rfl (bytes:=16) rfl rfl (Nat.succ_pos _) hS51 rfl (q:=2) rfl rfl rfl (q9u (hS51.get (i:=0) rfl)) (ones rfl) hsm4 (by omega) (by first|rfl|exact List.length_append.symm|simp) (by simp[Qj]) (fun _=>rfl) ?_
      intro v16 w26 ho12 hS52
      have hS53:=hS52.drop 0 (ms':=[vec v13 9 1 left_3.length ((left_3).flatMap Qj),vec v16 9 1 ((out_3++[x4_]).length) ((out_3++[x4_]).flatMap Qj),emap b6 (fun y:Bool=>(Value.bool (y))) F_4,blk b7 177 [(.map (some b6))],blk b3 335 [(.map (some b2))],vec v6 9 1 ((cpt r1_).length) ((cpt r1_).flatMap Qj)]) rfl
      refine Q1 (v:=v16) rfl (wpList_nil (Qw (wp_seq (dr (fun z=>St ⟨w,σ,[]⟩ z σ8 [vec v13 9 1 left_3.length ((left_3).flatMap Qj),vec v16 9 1 ((out_3++[x4_]).length) ((out_3++[x4_]).flatMap Qj),blk b7 177 [(.map (some b6))],blk b3 335 [(.map (some b2))],vec v6 9 1 ((cpt r1_).length) ((cpt r1_).flatMap Qj)]) (by kernel_rfl) rfl ?_))))
      have hS54:=hS53.drew
      refine dt 0 1 (v:=(.map (some b6))) (by kernel_rfl) rfl rfl (fun _ _ _ h=>h) (hS54.sublist (.cons_cons _ (.cons_cons _ (.cons _ (List.Sublist.refl _))))) (fun _ hJ _ hK=>q67 (v:=(.map (some b6))) rfl Tryz.isAgg177 (hJ.cell (i:=2) rfl rfl) ⟨rfl,hK⟩) (dt 1 3 (v:=v13) (by kernel_rfl) rfl rfl (fun _ _ _ h=>h) (hS54.sublist (.cons_cons _ (.cons_cons _ (.cons _ (List.Sublist.refl _))))) (fun _ _ _ hK=>Zd (v:=v13) rfl ⟨rfl,hK⟩) (dt 2 7 (v:=(.int .i64 r_1)) (by kernel_rfl) rfl rfl (fun _ _ _ h=>h) (hS54.sublist (.cons_cons _ (.cons_cons _ (.cons _ (List.Sublist.refl _))))) (fun _ _ _ hK=>Zd (v:=(.int .i64 r_1)) rfl ⟨rfl,hK⟩) ?_))
      obtain⟨j2_,hj2,hP⟩:=hP
      obtain⟨x5_,hx5,hP⟩:=hP
      obtain⟨g3,cp3,hv4⟩:=w0s (hS54.get (i:=0) rfl) (Qc hx5)
      refine dt 3 15 (v:=(.pointer (some ⟨g3,j2_*1,none⟩))) (by kernel_rfl) rfl rfl (fun _ _ _ h=>h) (hS54.sublist (.cons_cons _ (.cons_cons _ (.cons _ (List.Sublist.refl _))))) (fun _ _ _ hK=>Rf (k:=j2_) (a':=⟨g3,j2_*1,none⟩) hv4 rfl hj2 (Qc hx5) Tryz.underlying55 Tryz.sizeOf9 (by simp[Vp]) ⟨rfl,hK⟩) (dt 4 31 (v:=(.string x5_)) (by kernel_rfl) rfl rfl (fun _ _ _ h=>h) (hS54.sublist (.cons_cons _ (.cons_cons _ (.cons _ (List.Sublist.refl _))))) (fun _ hJ _ hK=>q67 (v:=(.string x5_)) rfl Tryz.isAgg9 (j5u q36 (j:=0) hv4 (hJ.get (i:=0) rfl) hx5 rfl) ⟨rfl,hK⟩) (d1 5 63 (by kernel_rfl) rfl (y5j (y0:=true) (i:=2) (ms':=[vec v13 9 1 left_3.length ((left_3).flatMap Qj),vec v16 9 1 ((out_3++[x4_]).length) ((out_3++[x4_]).flatMap Qj),emap b6 (fun y:Bool=>(Value.bool (y))) (put F_4 x5_ true),blk b7 177 [(.map (some b6))],blk b3 335 [(.map (some b2))],vec v6 9 1 ((cpt r1_).length) ((cpt r1_).flatMap Qj)]) hS54 rfl rfl rfl rfl Tryz.underlying177 Tryz.underlying9 rfl ?_)))
      intro w27 hS55
      refine wpList_nil ?_
      refine⟨rfl,(hS55.sublist (.cons_cons _ (.cons_cons _ (.cons _ (List.Sublist.refl _))))),j41 (J':=fun z=>St ⟨w,σ,[]⟩ z σ8 [vec v13 9 1 left_3.length ((left_3).flatMap Qj),vec v16 9 1 ((out_3++[x4_]).length) ((out_3++[x4_]).flatMap Qj),emap b6 (fun y:Bool=>(Value.bool (y))) (put F_4 x5_ true),blk b7 177 [(.map (some b6))],blk b3 335 [(.map (some b2))],vec v6 9 1 ((cpt r1_).length) ((cpt r1_).flatMap Qj)]) (fun w h=>h.sublist (.cons_cons _ (.cons_cons _ (.cons _ (List.Sublist.refl _))))) _ _ _ _ ?_⟩
      refine dz (by kernel_rfl) (Qw (j1i (Zd (v:=v13) rfl (Zd (v:=(.int .i64 r_1)) rfl (Zd (v:=(.int .i64 r_1)) rfl ?_)))))
      obtain⟨hi1,hP⟩:=hP
      refine v08 (r:=(r_1+(1:Int))) rfl rfl (nwi rfl hi1) ?_
      obtain⟨j3_,hj3,hP⟩:=hP
      obtain⟨hd1,hP⟩:=hP
      obtain⟨hd2,hP⟩:=hP
      obtain⟨hsm5,hP⟩:=hP
      have hd3:r_1=((j3_:Nat):Int)/\(r_1+(1:Int))=((j3_+1:Nat):Int):=⟨by omega,by omega⟩
      refine q8p (args:=[v13,(.int .i64 ((j3_:Nat):Int)),(.int .i64 ((j3_+1:Nat):Int))]) (by rw[←hd3.1,←hd3.2];rfl) Tryz.call232 (Calls.mono (v1b (i:=j3_) (j:=(j3_+1)) Tryz.slices_Delete_string hS55.view (hS55.get (i:=0) rfl) (fun b hb=>hS55.off _ (List.mem_of_getElem? (i:=0) rfl) b hb) (by omega) hd2 hd1) ?_)
      rintro _ w28 ⟨v17,rfl,hf2,hg7,ho13⟩
      refine⟨_,rfl,?_⟩
      have ho14:=R0 ho13
      have hS56:=hS55.growV (i:=0) (o':=vec v17 9 1 ((left_3.take j3_++left_3.drop (j3_+1)).length) ((left_3.take j3_++left_3.drop (j3_+1)).flatMap Qj)) rfl hg7 hf2 ho13 (ms':=[vec v17 9 1 ((left_3.take j3_++left_3.drop (j3_+1)).length) ((left_3.take j3_++left_3.drop (j3_+1)).flatMap Qj),vec v16 9 1 ((out_3++[x4_]).length) ((out_3++[x4_]).flatMap Qj),emap b6 (fun y:Bool=>(Value.bool (y))) (put F_4 x5_ true),blk b7 177 [(.map (some b6))],blk b3 335 [(.map (some b2))],vec v6 9 1 ((cpt r1_).length) ((cpt r1_).flatMap Qj)]) rfl
      refine Q1 (v:=v17) rfl (wpList_nil (v09 (Qw ?_)))
      exact⟨left_3.take j3_++left_3.drop (j3_+1),out_3++[x4_],put F_4 x5_ true,_,rfl,hP,v17,v16,σ8,_,(Z1 rfl (Z1 rfl (Z1 rfl (Z1 rfl rfl)))),hS56,(Sub.trans hsub7 hsub8),ho14,hsm5,ho12,hsm4⟩
   ·
    replace hP:=hP.2 ht4
    refine wp_exit (z7j (z7j (j5o (Qw (Q0 (Zd (v:=v14) rfl (Q1 (v:=v14) rfl (Q1 (v:=(.int .i64 (0:Int))) rfl (wpList_nil (Qw (wp_ret (ret2 rfl (show ev _ _ _=v14 from rfl) (show ev _ _ _=(.int .i64 (0:Int)) from rfl) ?_))))))))))))
    have hS57:=hS45.front 1 rfl (ms':=[vec v14 9 1 out_3.length ((out_3).flatMap Qj),vec v13 9 1 left_3.length ((left_3).flatMap Qj),emap b6 (fun y:Bool=>(Value.bool (y))) F_4,blk b7 177 [(.map (some b6))],blk b3 335 [(.map (some b2))],vec v6 9 1 ((cpt r1_).length) ((cpt r1_).flatMap Qj)]) rfl
    exact⟨out_3,(0:Int),v14,rfl,(St.back (hS57.keep 1 (ms':=[vec v14 9 1 out_3.length ((out_3).flatMap Qj)]) rfl) (Sub.refl _)),hl9,hP⟩
end Go.Proofs.YtjepffgpbidclaaGreatDoor
end
noncomputable section
set_option maxRecDepth 100000
open Go Go.RowKit Go.Fl Go.Fl.Lk Go.Fx
namespace Go.En
theorem j5d{σ:Hv}{w:World}{g:Nat}{T:C}{n:Nat}{l:List (car T)}(hV:View σ w)(hs:SRep D (fun _=>none) σ (.pointer (some ⟨g,0,none⟩)) (.fap T n l)){i j:Nat}{x:car T}{s:FV Sg}(hx:l[i]? =some x)(hj:(D.shape T x)[j]? =some s)(hz:j<D.size T):
  ∃v,w.cell? ⟨g,i*D.size T+j,none⟩=some v/\RepF D σ v s:=by
 generalize hq:Value.pointer (some (⟨g,0,none⟩:Addr))=q at hs
 cases hs with
 |fap ad cs T' N l' hN h hl hr=>
  cases hq
  have hrow:=hr i x hx
  have hlen:=okP.ok.len T x
  have hjl:j<((cs.drop (i*D.size T)).take (D.size T)).length:=by rw[hrow.1,hlen];exact hz
  obtain⟨v,hv⟩: ∃v,((cs.drop (i*D.size T)).take (D.size T))[j]? =some v:=⟨_,List.getElem?_eq_getElem hjl⟩
  refine⟨v,?_,hrow.2 j v s hv hj⟩
  rw[List.getElem?_take,if_pos hz,List.getElem?_drop] at hv
  have:=hV.cell (h _ v hv)
  rw[Vp,Nat.zero_add] at this
  exact this
theorem v9t: ∀c,c<256->v0c[c]? =some ((Go.Lib.firstT c:Nat):Int):=by decide
theorem y6f: ∀i,i<16->(j6f[i]?).map (fun a=>(a.lo,a.hi))=some (((Go.Lib.accLo i:Nat):Int),((Go.Lib.accHi i:Nat):Int)):=by decide
theorem tabs{σ:Hv}{w:World}(hV:View σ w)(hG:Glb D σ):Go.Lib.Utf8Tabs (Proofs.Tryz.lays196_ren.g 3) (Proofs.Tryz.lays196_ren.g 4) w:=by
 refine⟨fun c hc=> ?_,fun i hi=> ?_⟩
 ·have h:=hG.known (Proofs.Tryz.lays196_ren.g 3)
  obtain⟨v,h1,h2⟩:=j5d (T:= .u8) (n:=256) (l:=v0c) hV h (i:=c) (j:=0) (s:= .int .u8 ((Go.Lib.firstT c:Nat):Int)) (v9t c hc) rfl (by decide)
  cases h2
  simpa [show D.size C.u8=1 from rfl] using h1
 ·have h:=hG.known (Proofs.Tryz.lays196_ren.g 4)
  have ha:=y6f i hi
  obtain⟨a,e1,e2⟩:=Option.map_eq_some_iff.1 ha
  obtain⟨v,h1,h2⟩:=j5d (T:= .acc) (n:=16) (l:=j6f) hV h (i:=i) (j:=0) (s:= .int .u8 a.lo) e1 rfl (by decide)
  obtain⟨v',h1',h2'⟩:=j5d (T:= .acc) (n:=16) (l:=j6f) hV h (i:=i) (j:=1) (s:= .int .u8 a.hi) e1 rfl (by decide)
  cases h2;cases h2'
  simp only[Prod.mk.injEq] at e2
  rw[e2.1] at h1;rw[e2.2] at h1'
  refine⟨by rw[Nat.mul_comm];simpa [show D.size C.acc=2 from rfl] using h1,by rw[Nat.mul_comm];simpa [show D.size C.acc=2 from rfl] using h1'⟩
theorem w72{w w':World}(h:Below w.heap.size w w'):Keeps [] w w':=⟨h.os,h.tape,h.output,h.size,fun k hk _=>h.block k hk⟩
theorem q63{σ:Hv}{w w1:World}{args:List (Tr Sg)}{vals:List Value}{K:List (Tr Sg)->List (Tr Sg)->Prop}{rets outs:List (Tr Sg)}{rv:List Value}(hS:St ⟨w,σ,feet []⟩ w σ [])(hK:K rets outs)(hb:Below w.heap.size w w1)(hL:LayL D σ rets rv [])(hT:LayT D σ args outs vals [] []):
  Back D σ w args vals [] K (.returned (retV rv)) w1:=by
 have hk:=w72 hb
 refine⟨rets,outs,rv,σ,[],[],rfl,hK,hL,hT,?_⟩
 refine⟨hk,fun b o hbo=> ?_,Sub.refl _,fun _ _ _=>rfl,by simp,by simp,by simp,by simp⟩
 have h1:=hS.view b o hbo
 have hlt:b<w.heap.size:=by
  rcases Nat.lt_or_ge b w.heap.size with h|h
  ·exact h
  ·rw[Array.getElem?_eq_none h] at h1;cases h1
 rw[hk.block b hlt (by simp)];exact h1
theorem z94:q9w Proofs.Tryz.prog D 262 (conV ([.v]:LP) ([.str]:LV) ([.bool]:LV) ([.same]:LV) (fun a K=>Vu a.1 (fun q0=>K (q0,()) ((),())))):=by
 intro args K hm w σ vals ins hG hL hS
 obtain⟨a,ha,hm⟩:=Qi hm
 have hargs:=Wp ha
 subst hargs
 obtain⟨s,_⟩:=a
 cases hL with
 |cons hp hr=>
 cases hr
 cases hp with
 |f hf=>
 cases hf
 have hm:s.size<=9223372036854775807/\K [.f (.bool (Go.Lib.validD s.data.toList))] [.same]:=hm
 refine Calls.mono (Go.Proofs.Any.utf8_ValidString Proofs.Tryz.lays196 s w hm.1 (tabs hS.view hG)) ?_
 rintro e w' ⟨rfl,hb⟩
 exact q63 (rv:=[.bool (Go.Lib.validD s.data.toList)]) hS hm.2 hb (.cons (ms:=[]) (.f (.bool _)) .nil) (.skip (a0:=[]) .nil)
theorem z95:q9w Proofs.Tryz.prog D 188 (conV ([.v,.v]:LP) ([.str,.str]:LV) ([.bool]:LV) ([.same,.same]:LV) (fun a K=>q1i a.1 a.2.1 (fun q0=>K (q0,()) ((),(),())))):=by
 intro args K hm w σ vals ins hG hL hS
 obtain⟨a,ha,hm⟩:=Qi hm
 have hargs:=Wp ha
 subst hargs
 obtain⟨s,t,_⟩:=a
 cases hL with
 |cons hp hr=>
 cases hr with
 |cons hq hr=>
 cases hr
 cases hp with
 |f hf=>
 cases hf
 cases hq with
 |f hf=>
 cases hf
 have hm:s.size<4294967281/\K [.f (.bool (Go.Lib.contains s.data.toList t.data.toList))] [.same,.same]:=hm
 obtain⟨n,hn⟩:=hG.free 2 .i64 rfl
 refine Calls.mono (Proofs.Tryz.strings_Contains s t n w hm.1 (hS.view.cell hn)) ?_
 rintro e w' ⟨rfl,rfl⟩
 exact q63 (rv:=[.bool (Go.Lib.contains s.data.toList t.data.toList)]) hS hm.2 (Below.refl _ _) (.cons (ms:=[]) (.f (.bool _)) .nil) (.skip (a0:=[]) (.skip (a0:=[]) .nil))
theorem j8u:q9w Proofs.Tryz.prog D 265 (conV ([.v]:LP) ([.str]:LV) ([.int .i64,.ifc]:LV) ([.same]:LV) (fun a K=>q3p a.1 (fun q0 q1=>K (q0,q1,()) ((),())))):=by
 intro args K hm w σ vals ins hG hL hS
 obtain⟨a,ha,hm⟩:=Qi hm
 have hargs:=Wp ha
 subst hargs
 obtain⟨s,_⟩:=a
 cases hL with
 |cons hp hr=>
 cases hr
 cases hp with
 |f hf=>
 cases hf
 have hm:s.size<=281474976710656/\v9s s (fun n b=>K [.f (.int .i64 n),.f (.ifc b)] [.same]):=hm
 obtain⟨hsz,hm⟩:=hm
 have err: ∀g:Nat,D.glob g= .fptr [.ifc false] 0-> ∃ev,w.cell? ⟨g,0,none⟩=some ev/\(ev= .nilIface∨ ∃te pe,ev= .iface te pe):=by
  intro g hg
  have h:=hG.known g
  rw[hg] at h
  generalize hq:Value.pointer (some (⟨g,0,none⟩:Addr))=q at h
  cases h with
  |fptr ad cs l off hv hr=>
  cases hq
  obtain⟨v,hvl⟩: ∃v,cs=[v]:=List.length_eq_one_iff.1 hr.1
  subst hvl
  have hc:=hS.view.cell (hv 0 v rfl)
  have hR:=hr.2 0 v _ rfl rfl
  refine⟨v,?_,?_⟩
  ·rw[Vp] at hc;exact hc
  ·cases hR with
   |ifcS t p=>exact .inr ⟨t,p,rfl⟩
 unfold v9s at hm
 split at hm
 ·rename_i v hv
  refine Calls.mono (Proofs.Tryz.strconv_Atoi_ok s (by omega) v hv w) ?_
  rintro e w' ⟨rfl,hw⟩
  have hb:Below w.heap.size w w':=by
   rcases hw with rfl|⟨t,rfl⟩
   ·exact Below.refl _ _
   ·exact Go.Lib.bytesWorld_below _ _ _
  exact q63 (rv:=[.int .i64 v,.nilIface]) hS hm hb (.cons (ms:=[]) (.f (.int _ _)) (.cons (ms:=[]) (.f .ifcN) .nil)) (.skip (a0:=[]) .nil)
 ·rename_i hv
  obtain⟨ev,h1,h2⟩:=err 6 rfl
  refine Calls.mono (Proofs.Tryz.strconv_Atoi_range s hsz hv ev w h1 h2) ?_
  rintro e w' ⟨N,rfl,_,_,hb⟩
  exact q63 (rv:=[.int .i64 _,.iface _ _]) hS hm hb (.cons (ms:=[]) (.f (.int _ _)) (.cons (ms:=[]) (.f (.ifcS _ _)) .nil)) (.skip (a0:=[]) .nil)
 ·rename_i hv
  obtain⟨ev,h1,h2⟩:=err 5 rfl
  refine Calls.mono (Proofs.Tryz.strconv_Atoi_syntax s hsz hv ev w h1 h2) ?_
  rintro e w' ⟨N,rfl,_,_,hb⟩
  exact q63 (rv:=[.int .i64 _,.iface _ _]) hS hm hb (.cons (ms:=[]) (.f (.int _ _)) (.cons (ms:=[]) (.f (.ifcS _ _)) .nil)) (.skip (a0:=[]) .nil)
theorem j8v:q9w Proofs.Tryz.prog D 282 (conV ([.v]:LP) ([.int .i64]:LV) ([.str]:LV) ([.same]:LV) (fun a K=>q98 a.1 (fun q0=>K (q0,()) ((),())))):=by
 intro args K hm w σ vals ins hG hL hS
 obtain⟨a,ha,hm⟩:=Qi hm
 have hargs:=Wp ha
 subst hargs
 obtain⟨i,_⟩:=a
 cases hL with
 |cons hp hr=>
 cases hr
 cases hp with
 |f hf=>
 cases hf
 have hm:InI i/\K [.f (.str ⟨(Go.Lib.itoa i).toArray⟩)] [.same]:=hm
 obtain⟨t,q,hb⟩:=hG.blk 7 _ rfl
 have htab:Go.Lib.TabIs Proofs.Tryz.prog w "internal/strconv.uint64pow10" .u64 Go.Lib.pow10Tab:=by
  unfold Go.Lib.TabIs World.var?
  rw[show (Proofs.Tryz.prog).globalNamed "internal/strconv.uint64pow10" =some 7 by kernel_rfl,Option.bind_some,hS.view _ _ hb]
  kernel_rfl
 refine Calls.mono (Proofs.Tryz.strconv_Itoa i hm.1.1 hm.1.2 w htab) ?_
 rintro e w' ⟨rfl,k,os,rfl⟩
 exact q63 (rv:=[.string ⟨(Go.Lib.itoa i).toArray⟩]) hS hm.2 (Go.Lib.below_grow _ _ (Nat.le_refl _) _ _) (.cons (ms:=[]) (.f (.str _)) .nil) (.skip (a0:=[]) .nil)
theorem z6m(l:List ByteArray):l.flatMap Qj=l.map Value.string:=by
 induction l with
 |nil=>rfl
 |cons a l ih=>rw[List.flatMap_cons,List.map_cons,ih];rfl
theorem y6g(l:List ByteArray):(cpt l).length<=l.length:=by
 unfold cpt Go.Lib.compact
 rw[List.length_map]
 have h: ∀(d:Array (List UInt8)) (m:Nat),(Go.Lib.compactUpTo d m).length<=m:=by
  intro d m
  unfold Go.Lib.compactUpTo
  rw[List.length_map]
  exact Nat.le_trans (List.length_filter_le _ _) (by simp)
 simpa using h _ _
theorem v5x{σ:Hv}{xs:List Value}{l:List ByteArray}(h:Els D σ C.str xs l):xs=l.flatMap Qj:=by
 have h1:xs.length=l.length:=by rw[h.1];exact Nat.mul_one _
 rw[z6m]
 refine List.ext_getElem? fun i=> ?_
 rw[List.getElem?_map]
 rcases Nat.lt_or_ge i l.length with hi|hi
 ·obtain⟨v,hv⟩: ∃v,xs[i]? =some v:=⟨_,List.getElem?_eq_getElem (by omega)⟩
  obtain⟨x,hx⟩: ∃x,l[i]? =some x:=⟨_,List.getElem?_eq_getElem hi⟩
  have hR:=(h.2 i x hx).2 0 v (.str x) (by rw[show D.size C.str=1 from rfl,Nat.mul_one,List.getElem?_take,if_pos (by decide),List.getElem?_drop];exact hv) rfl
  rw[hv,hx]
  cases hR
  rfl
 ·rw[List.getElem?_eq_none (by omega),List.getElem?_eq_none hi];rfl
theorem j6m(σ:Hv)(l:List ByteArray):Els D σ C.str (l.flatMap Qj) l:=by
 rw[z6m]
 refine⟨by rw[List.length_map];exact (Nat.mul_one _).symm,fun i x hx=> ?_⟩
 rw[show D.size C.str=1 from rfl,Nat.mul_one]
 have hx:l[i]? =some x:=hx
 have e:((l.map Value.string).drop i).take 1=[.string x]:=by
  rw[←List.map_drop,List.drop_eq_getElem_cons (List.getElem?_eq_some_iff.1 hx).1,(List.getElem?_eq_some_iff.1 hx).2];rfl
 rw[e]
 refine⟨rfl,fun j v s hj hs=> ?_⟩
 cases j with
 |zero=>cases hj;cases hs;exact .str x
 |succ j=>cases hj
theorem q56:q9w Proofs.Tryz.prog D 93 (conV ([.own 9 C.str]:LP) ([.vec 9 C.str]:LV) ([]:LV) ([.vec 9 C.str]:LV) (fun a K=>Zh a.1 (fun q0=>K () (q0,())))):=by
 intro args K hm w σ vals ins hG hL hS
 obtain⟨a,ha,hm⟩:=Qi hm
 have hargs:=Wp ha
 subst hargs
 obtain⟨s,_⟩:=a
 cases hL with
 |cons hp hr=>
 cases hr
 cases hp with
 |vec hE hl h1=>
 have hx:=v5x hE
 subst hx
 have hm:K [] [.vec 9 C.str (srt s)]:=hm
 refine Calls.mono (w9m Proofs.Tryz.slices_Sort_string Proofs.Tryz.slices_Sort_string_none hS.view (hS.get (i:=0) rfl) rfl (fun b hb=>hS.off _ (List.mem_of_getElem? (i:=0) rfl) b hb) (by omega)) ?_
 rintro _ w1 ⟨rfl,hg,ho⟩
 have hS1:=hS.growV (i:=0) (o':=vec _ 9 1 s.length ((srt s).flatMap Qj)) rfl hg rfl ho (ms':=[vec _ 9 1 s.length ((srt s).flatMap Qj)]) rfl
 refine⟨[],_,[],σ,[],[vec _ 9 1 (srt s).length ((srt s).flatMap Qj)],rfl,hm,.nil,.keep (.vec (j6m σ _) (Nat.le_trans (Nat.le_of_eq (J3 _)) hl) h1) .nil,?_⟩
 have e:(srt s).length=s.length:=J3 _
 rw[e];exact hS1
theorem q3g:q9w Proofs.Tryz.prog D 94 (conV ([.own 9 C.str]:LP) ([.vec 9 C.str]:LV) ([.vec 9 C.str]:LV) ([.same]:LV) (fun a K=>Zo a.1 (fun q0=>K (q0,()) ((),())))):=by
 intro args K hm w σ vals ins hG hL hS
 obtain⟨a,ha,hm⟩:=Qi hm
 have hargs:=Wp ha
 subst hargs
 obtain⟨s,_⟩:=a
 cases hL with
 |cons hp hr=>
 cases hr
 cases hp with
 |vec hE hl h1=>
 have hx:=v5x hE
 subst hx
 have hm:K [.vec 9 C.str (cpt s)] [.same]:=hm
 refine Calls.mono (j5t Proofs.Tryz.slices_Compact_string Proofs.Tryz.slices_Compact_string_empty hS.view (hS.get (i:=0) rfl) rfl (fun b hb=>hS.off _ (List.mem_of_getElem? (i:=0) rfl) b hb) (by omega)) ?_
 rintro _ w1 ⟨v1,rfl,hf,hg,ho⟩
 have hlc:(cpt s).length<=140737488355328:=Nat.le_trans (y6g _) hl
 have hS1:=hS.growV (i:=0) (o':=vec v1 9 1 (cpt s).length ((cpt s).flatMap Qj)) rfl hg hf ho (ms':=[vec v1 9 1 (cpt s).length ((cpt s).flatMap Qj)]) rfl
 exact⟨[.vec 9 C.str (cpt s)],[.same],[v1],σ,[vec v1 9 1 (cpt s).length ((cpt s).flatMap Qj)],[],rfl,hm,.cons (.vec (j6m σ _) hlc (R0 ho)) .nil,.skip .nil,hS1⟩
theorem y3w{σ:Hv}{v:Value}{l:List ByteArray}(h:RepF D σ v (.sl C.str l)):RSl 1 (REnc Qj) σ v l:=by
 obtain⟨a,cap,e1,e2,e3,e4⟩:=h.toRSl okP.ok
 refine⟨a,cap,e1,e2,e3,fun i x hx=> ?_⟩
 obtain⟨ad,cs,f1,f2,f3,f4⟩:=e4 i x hx
 refine⟨ad,cs,f1,f2,f3,?_⟩
 obtain⟨u,rfl⟩: ∃u,cs=[u]:=List.length_eq_one_iff.1 f2
 have g1:=f4.2 0 u (.str x) rfl rfl
 cases g1
 rfl
theorem v9u{σ:Hv}{v:Value}{l:List Edg}(h:RepF D σ v (.sl C.edge l)):RSl 2 (REnc y5l) σ v (l.map fun e=>(e.1,e.2)):=by
 obtain⟨a,cap,e1,e2,e3,e4⟩:=h.toRSl okP.ok
 have hl:(l.map fun e=>(e.1,e.2)).length=l.length:=List.length_map ..
 refine⟨a,cap,by rw[hl];exact e1,by rw[hl];exact e2,by rw[hl];exact e3,fun i x hx=> ?_⟩
 rw[List.getElem?_map] at hx
 obtain⟨y,hy,rfl⟩:=Option.map_eq_some_iff.1 hx
 obtain⟨ad,cs,f1,f2,f3,f4⟩:=e4 i y hy
 refine⟨ad,cs,f1,f2,f3,?_⟩
 obtain⟨u,v,rfl⟩: ∃u v,cs=[u,v]:=by
  match cs,f2 with
  |[u,v],_=>exact⟨u,v,rfl⟩
 have g1:=f4.2 0 u (.str y.src) rfl rfl
 have g2:=f4.2 1 v (.str y.dst) rfl rfl
 cases g1;cases g2
 rfl
theorem w1b:q9w Proofs.Tryz.prog D 191 (conV ([.sl C.str,.sl C.edge]:LP) ([.sl C.str,.sl C.edge]:LV) ([.vec 9 C.str,.int .i64]:LV) ([.same,.same]:LV) (fun a K=>P_graph_Order a.1 a.2.1 (fun q0 q1=>K (q0,q1,()) ((),(),())))):=by
 intro args K hm w σ vals ins hG hL hS
 obtain⟨a,ha,hm⟩:=Qi hm
 have hargs:=Wp ha
 subst hargs
 obtain⟨s,t,_⟩:=a
 cases hL with
 | @cons _ _ v1 _ _ _ hp hr=>
 cases hr with
 | @cons _ _ v2 _ _ _ hq hr=>
 cases hr
 cases hp with
 |f hf1=>
 cases hq with
 |f hf2=>
 have hm:Go.Fl.P_graph_Order s (t.map fun e=>(e.1,e.2)) (fun l n=>K [.vec 9 C.str l,.f (.int .i64 n)] [.same,.same]):=hm
 refine Calls.mono (Go.Proofs.YtjepffgpbidclaaGreatDoor.w_graph_Order s (t.map fun e=>(e.1,e.2)) v1 v2 hS.view (y3w hf1) (v9u hf2) hm) ?_
 rintro e w1 ⟨l,n,v,rfl,hS1,hsm,hK⟩
 have hl:l.length<=140737488355328:=by unfold Sml at hsm;omega
 exact⟨[.vec 9 C.str l,.f (.int .i64 n)],[.same,.same],[v,.int .i64 n],σ,[vec v 9 1 l.length (l.flatMap Qj)],[],rfl,hK,.cons (.vec (j6m σ _) hl (R0 (hS1.get (i:=0) rfl))) (.cons (ms:=[]) (.f (.int _ _)) .nil),.skip (a0:=[]) (.skip (a0:=[]) .nil),hS1⟩
theorem j6n:q9w Proofs.Tryz.prog D 245 (conV ([.v,.v]:LP) ([.str,.str]:LV) ([.vec 9 C.str]:LV) ([.same,.same]:LV) (fun a K=>q7h a.1 a.2.1 (fun q0=>K (q0,()) ((),(),())))):=by
 intro args K hm w σ vals ins hG hL hS
 obtain⟨a,ha,hm⟩:=Qi hm
 have hargs:=Wp ha
 subst hargs
 obtain⟨s,t,_⟩:=a
 cases hL with
 |cons hp hr=>
 cases hr with
 |cons hq hr=>
 cases hr
 cases hp with
 |f hf=>
 cases hf
 cases hq with
 |f hf=>
 cases hf
 have hm:t.size=1/\s.size<4294967281/\K [.vec 9 C.str (q0s s t)] [.same,.same]:=hm
 obtain⟨h1,hsz,hm⟩:=hm
 obtain⟨n,hn⟩:=hG.free 2 .i64 rfl
 have hlen:(q0s s t).length=Go.Lib.countB s t+1:=Go.Lib.splitB_all t (by omega) 0 _ s rfl
 have hcnt:=Go.Lib.countB_le t (by omega) s.size s (Nat.le_refl _)
 refine Calls.mono (Proofs.Tryz.strings_Split s t n w hsz (hS.view.cell hn) (by omega)) ?_
 rintro e w' ⟨rfl,rfl⟩
 have ho:(vec (.slice (some ⟨w.heap.size,0,none⟩) (q0s s t).length (q0s s t).length) 9 1 (q0s s t).length ((q0s s t).flatMap Qj)).ok (w.alloc (.cells ((q0s s t).map Value.string).toArray 9)):=by
  refine⟨by rw[z6m];simp,.inr ⟨w.heap.size,_,_,rfl,Nat.zero_le _,heap_alloc_new _ _,Nat.le_refl _,by unfold maxLen;omega,by simp,?_⟩⟩
  rw[z6m,Nat.mul_one]
  exact List.take_of_length_le (by rw[List.length_map];exact Nat.le_refl _)
 have hS1:=hS.add (Wl w _) ho (by rintro k ⟨⟩;exact Nat.le_refl _)
 have hl:(q0s s t).length<=140737488355328:=by omega
 have hr:=(⟨[.vec 9 C.str (q0s s t)],[.same,.same],[_],σ,[_],[],rfl,hm,.cons (.vec (j6m σ _) hl (R0 ho)) .nil,.skip (a0:=[]) (.skip (a0:=[]) .nil),hS1⟩:Back D σ w [.f (.str s),.f (.str t)] [.string s,.string t] [] K (.returned (retV [.slice (some ⟨w.heap.size,0,none⟩) (q0s s t).length (q0s s t).length])) (w.alloc (.cells ((q0s s t).map Value.string).toArray 9)))
 rw[hlen] at hr
 exact hr
theorem y8h: ∀c,c<256->v0d[c]? =some (if Go.Lib.isSp (UInt8.ofNat c) then (1:Int) else 0):=by decide
theorem v5y: ∀(ws:Bool) (l:List UInt8),Go.Lib.cntF ws l<=l.length
 |_,[]=>by simp[Go.Lib.cntF]
 |ws,b::l=>by
  have:=v5y (Go.Lib.isSp b) l
  simp only[Go.Lib.cntF,List.length_cons]
  split<;>omega
theorem j38:q9w Proofs.Tryz.prog D 85 (conV ([.v]:LP) ([.str]:LV) ([.vec 9 C.str]:LV) ([.same]:LV) (fun a K=>q4z a.1 (fun q0=>K (q0,()) ((),())))):=by
 intro args K hm w σ vals ins hG hL hS
 obtain⟨a,ha,hm⟩:=Qi hm
 have hargs:=Wp ha
 subst hargs
 obtain⟨s,_⟩:=a
 cases hL with
 |cons hp hr=>
 cases hr
 cases hp with
 |f hf=>
 cases hf
 have hm:s.size<4294967281/\v5v s/\K [.vec 9 C.str (Uw s)] [.same]:=hm
 obtain⟨hsz,hasc,hm⟩:=hm
 have hT: ∀c:Nat,c<256->w.cell? ⟨Proofs.Tryz.lays157_ren.g 0,c,none⟩=some (.int .u8 (if Go.Lib.isSp (UInt8.ofNat c) then 1 else 0)):=fun c hc=>by
  have h:=hG.known (Proofs.Tryz.lays157_ren.g 0)
  obtain⟨v,h1,h2⟩:=j5d (T:= .u8) (n:=256) (l:=v0d) hS.view h (i:=c) (j:=0) (s:= .int .u8 (if Go.Lib.isSp (UInt8.ofNat c) then 1 else 0)) (y8h c hc) rfl (by decide)
  cases h2
  simpa [show D.size C.u8=1 from rfl] using h1
 have hlen:(Uw s).length=(Go.Lib.fields s.data.toList).length:=by unfold Uw;rw[List.length_map]
 have hcnt:(Go.Lib.fields s.data.toList).length<=s.size:=by rw[Go.Lib.fields_length];exact Nat.le_trans (v5y _ _) (Nat.le_of_eq rfl)
 refine Calls.mono (Go.Proofs.Any.strings_Fields_core Proofs.Tryz.lays157 (by kernel_rfl) s w hsz hasc hT) ?_
 rintro e w' ⟨rfl,rfl⟩
 rw[show (Go.Lib.fields s.data.toList).map (fun l=>Value.string ⟨l.toArray⟩)=(Uw s).map Value.string by unfold Uw;rw[List.map_map];rfl,←hlen]
 rw[←hlen] at hcnt
 have ho:(vec (.slice (some ⟨w.heap.size,0,none⟩) (Uw s).length (Uw s).length) 9 1 (Uw s).length ((Uw s).flatMap Qj)).ok (w.alloc (.cells ((Uw s).map Value.string).toArray 9)):=by
  refine⟨by rw[z6m];simp,.inr ⟨w.heap.size,_,_,rfl,Nat.zero_le _,heap_alloc_new _ _,Nat.le_refl _,by unfold maxLen;omega,by simp,?_⟩⟩
  rw[z6m,Nat.mul_one]
  exact List.take_of_length_le (by rw[List.length_map];exact Nat.le_refl _)
 have hS1:=hS.add (Wl w _) ho (by rintro k ⟨⟩;exact Nat.le_refl _)
 exact (⟨[.vec 9 C.str (Uw s)],[.same],[_],σ,[_],[],rfl,hm,.cons (.vec (j6m σ _) (by omega) (R0 ho)) .nil,.skip (a0:=[]) .nil,hS1⟩:Back D σ w [.f (.str s)] [.string s] [] K (.returned (retV [.slice (some ⟨w.heap.size,0,none⟩) (Uw s).length (Uw s).length])) (w.alloc (.cells ((Uw s).map Value.string).toArray 9)))
end Go.En
end
noncomputable section
set_option maxRecDepth 100000
open Go Go.RowKit Go.Fl Go.Fl.Lk Go.Fx
namespace Go.En
def z2o(X:Hr):Con Sg:=conS [] [.vec 9 C.str] fun a K=>X (fun q0=>K (q0,()))
theorem z8i:MT 19 (z2o q22):=mS (l:=[]) trivial []
def B1(X:Wm):Con Sg:=conS [.int .u8,.int .u8,.int .u16,.int .u16,.int .u16] [.el C.env] fun a K=>X a.1 a.2.1 a.2.2.1 a.2.2.2.1 a.2.2.2.2.1 (fun q0=>K (q0,()))
theorem j39{Za:Hr}(h:AL [(19,z2o Za)]):MT 28 (B1 (q4v Za)):=mS h [(13,⟨bl 68702731295,[4,1,0],[(2,(42,8))],[sI 15,(.cell 2 5,.own 84 C.flag)]⟩),(21,⟨bl 273606445743135,[6,2],[(7,(84,13))],[sI 17,(.cell 7 2,.own 65 C.val)]⟩),(31,⟨bl 1099494915103,[6,4,1,0],[(2,(42,8))],[sI 18,(.cell 2 6,.own 91 C.layer)]⟩),(45,⟨bl 324518398916143177040605671652383,[8,6,4,1,0],[(2,(42,8))],[sI 22,(.cell 2 7,.own 97 C.exper)]⟩)]
theorem z3w:MT 28 (B1 Gs):=j39 ⟨z8i,trivial⟩
def z96(X:q38):Con Sg:=conS [.str] [.el C.subj] fun a K=>X a.1 (fun q0=>K (q0,()))
theorem j6o:MT 23 (z96 q7d):=mS (l:=[]) trivial []
def q73(X:Ui):Con Sg:=conS [.el C.subj,.str] [.int .i64] fun a K=>X a.1 a.2.1 (fun q0=>K (q0,()))
theorem z4z:MT 99 (q73 Hs):=mS (l:=[]) trivial [(135000005,⟨bl 195,[1],[],[sI 8]⟩)]
def q2c(X:Vr):Con Sg:=conS [.el C.val] [.el C.val] fun a K=>X a.1 (fun q0=>K (q0,()))
theorem q57:MT 122 (q2c Jo):=mS (l:=[]) trivial []
def q3h(X:Uj):Con Sg:=conS [.el C.attr] [.el C.attr] fun a K=>X a.1 (fun q0=>K (q0,()))
theorem j2i{Z3:Vr}(h:AL [(122,q2c Z3)]):MT 137 (q3h (q23 Z3)):=mS h []
theorem j2j:MT 137 (q3h Ri):=j2i ⟨q57,trivial⟩
def q74(X:Ht):Con Sg:=conS [.el C.ctx] [.el C.ctx] fun a K=>X a.1 (fun q0=>K (q0,()))
theorem j6p{Ru:Uj}(h:AL [(137,q3h Ru)]):MT 100 (q74 (q7e Ru)):=mS h [(137000007,⟨bl 7955,[],[],[(.slot 5,.own 244 C.attr),sI 13]⟩)]
theorem j6q:MT 100 (q74 q07):=j6p ⟨j2j,trivial⟩
def V7(X:Zu):Con Sg:=conS [.el C.subj,.str] [.el C.ctx,.bool] fun a K=>X a.1 a.2.1 (fun q0 q1=>K (q0,q1,()))
theorem j8w{Jv:Ui}{q2p:Ht}(h:AL [(99,q73 Jv),(100,q74 q2p)]):MT 67 (V7 (q9x Jv q2p)):=mS h []
theorem Bj:MT 67 (V7 Wz):=j8w ⟨z4z,j6q,trivial⟩
def z7o(X:q3m):Con Sg:=conS [.sl C.bytes] [.vec 5 C.u8] fun a K=>X a.1 (fun q0=>K (q0,()))
theorem j8x:MT 112 (z7o q3n):=mS (l:=[]) trivial [(7,⟨bl 389,[],[],[(.slot 3,.own 5 C.u8),sI 9]⟩),(13,⟨bl 8101,[],[],[(.slot 3,.own 5 C.u8),sI 6]⟩)]
def q75(X:Ux):Con Sg:=conS [.int .u64,.int .i64] [.int .u64] fun a K=>X a.1 a.2.1 (fun q0=>K (q0,()))
theorem z8j:MT 192 (q75 Uy):=mS (l:=[]) trivial []
def Ue(X:Z6):Con Sg:=conV [.ptr 253 [.v,.v,.v,.v],.v] [.ptr 253 [.int .u64,.int .u64,.int .u64,.int .u64],.int .i64] [] [.ptr 253 [.int .u64,.int .u64,.int .u64,.int .u64],.same] fun a K=>X a.1.1 a.1.2.1 a.1.2.2.1 a.1.2.2.2.1 a.2.1 (fun q0 q1 q2 q3=>K () ((q0,q1,q2,q3,()),(),()))
theorem z68{Zs:Ux}(h:AL [(192,q75 Zs)]):MT 148 (Ue (R1 Zs)):=mP (rk:=[]) h [(3,⟨[0,1,4],[],[(0,(253,4))],[sI 5,(.cell 0 0,.int IntKind.u64),(.cell 0 1,.int IntKind.u64),(.cell 0 2,.int IntKind.u64),(.cell 0 3,.int IntKind.u64)]⟩)]
theorem q5f:MT 148 (Ue Zv):=z68 ⟨z8j,trivial⟩
def q2d(X:Vs):Con Sg:=conV [.ptr 253 [.v,.v,.v,.v],.v] [.ptr 253 [.int .u64,.int .u64,.int .u64,.int .u64],.int .u64] [] [.ptr 253 [.int .u64,.int .u64,.int .u64,.int .u64],.same] fun a K=>X a.1.1 a.1.2.1 a.1.2.2.1 a.1.2.2.2.1 a.2.1 (fun q0 q1 q2 q3=>K () ((q0,q1,q2,q3,()),(),()))
theorem z97{Zk:Z6}(h:AL [(148,Ue Zk)]):MT 147 (q2d (q08 Zk)):=mP (rk:=[]) h []
theorem z98:MT 147 (q2d Hh):=z97 ⟨q5f,trivial⟩
end Go.En
end
noncomputable section
set_option maxRecDepth 100000
open Go Go.RowKit Go.Fl Go.Fl.Lk Go.Fx
namespace Go.En
def z41(X:q39):Con Sg:=conS [.int .u64,.int .u64,.sl C.u8] [.int .u64] fun a K=>X a.1 a.2.1 a.2.2.1 (fun q0=>K (q0,()))
theorem w45{V3:Vs}{Zk:Z6}(h:AL [(147,q2d V3),(148,Ue Zk)]):MT 111 (z41 (z4k V3 Zk)):=mS h [(9,⟨bl 67101127,[],[(0,(253,4))],[sI 9,(.cell 0 0,.int IntKind.u64),(.cell 0 1,.int IntKind.u64),(.cell 0 2,.int IntKind.u64),(.cell 0 3,.int IntKind.u64)]⟩),(17,⟨bl 2147476423,[0],[],[(.slot 10,.int IntKind.u64),sI 33]⟩),(29,⟨bl 15762600843272903,[0],[],[(.slot 8,.int IntKind.u64),sI 54]⟩)]
theorem w46:MT 111 (z41 q8s):=w45 ⟨z98,q5f,trivial⟩
def z2p(X:q09):Con Sg:=conS [.int .u64,.sl C.bytes] [.int .u64] fun a K=>X a.1 a.2.1 (fun q0=>K (q0,()))
theorem w1c{q3y:q3m}{q9j:q39}(h:AL [(112,z7o q3y),(111,z41 q9j)]):MT 80 (z2p (z1o q3y q9j)):=mS h []
theorem w1d:MT 80 (z2p q5m):=w1c ⟨j8x,w46,trivial⟩
def H8(X:Ji):Con Sg:=conS [.str,.str] [.int .i64] fun a K=>X a.1 a.2.1 (fun q0=>K (q0,()))
theorem w73{q6i:q09}(h:AL [(80,z2p q6i)]):MT 35 (H8 (z72 q6i)):=mS h []
theorem q3i:MT 35 (H8 W7):=w73 ⟨w1d,trivial⟩
def z42(X:q1a):Con Sg:=conS [.sl C.forced,.str] [.el C.forced,.bool] fun a K=>X a.1 a.2.1 (fun q0 q1=>K (q0,q1,()))
theorem j6r:MT 68 (z42 q1b):=mS (l:=[]) trivial [(5,⟨bl 787,[],[(0,(142,3))],[sI 10,(.cell 0 0,.str),(.cell 0 1,.str),(.cell 0 2,.int .i64)]⟩)]
def z99(X:q5n):Con Sg:=conS [.el C.env,.el C.forced] [.bool] fun a K=>X a.1 a.2.1 (fun q0=>K (q0,()))
theorem w1e:MT 69 (z99 q5o):=mSg 8 (l:=[]) trivial [(46000005,⟨bl 195,[1],[],[sI 8]⟩),(139000005,⟨bl 195,[],[],[sI 8]⟩)]
def z2q(X:q1c):Con Sg:=conS [.el C.env,.el C.subj] [.bool] fun a K=>X a.1 a.2.1 (fun q0=>K (q0,()))
theorem w1f{Qt:Zu}{Qq:Ji}(h:AL [(67,V7 Qt),(35,H8 Qq)]):MT 70 (z2q (z1p Qt Qq)):=mS h []
theorem w1g:MT 70 (z2q q5p):=w1f ⟨Bj,q3i,trivial⟩
def z2r(X:q1d):Con Sg:=conS [.int .i64] [.bool] fun a K=>X a.1 (fun q0=>K (q0,()))
theorem j0a:MT 182 (z2r Uz):=mS (l:=[]) trivial []
def Wo(X:Zb):Con Sg:=conS [.sl C.str,.sl C.str] [.bool] fun a K=>X a.1 a.2.1 (fun q0=>K (q0,()))
theorem G4:MT 216 (Wo Zt):=mS (l:=[]) trivial [(9,⟨bl 8131,[],[],[sI 13]⟩)]
def z43(X:q8t):Con Sg:=conS [.el C.val,.el C.val] [.bool] fun a K=>X a.1 a.2.1 (fun q0=>K (q0,()))
theorem w47{Qx:Zb}(h:AL [(216,Wo Qx)]):MT 280 (z43 (z4l Qx)):=mS h []
theorem w48:MT 280 (z43 q0t):=w47 ⟨G4,trivial⟩
def j6s(X:q24):Con Sg:=conV [.el C.ex,.el C.ex] [.el C.ex,.el C.ex] [.bool] [.same,.same] fun a K=>X a.1 a.2.1 (fun q0=>K (q0,()) ((),(),()))
theorem w74:MT 267 (j6s q0e):=by
 show MT _ (conV ([.el C.ex,.el C.ex]:LP) ([.el C.ex,.el C.ex]:LV) ([.bool]:LV) ([.same,.same]:LV) fun a K=>q0e a.1 a.2.1 (fun q0=>K (q0,()) ((),(),())))
 exact mQ (l:=[(280,z43 q0t)]) (u:=4) (rk:=[.v]) ⟨w48,trivial⟩ (by kernel_rfl) [(280000009,⟨bl 130055,[],[],[sI 17]⟩),(282000009,⟨bl 130055,[],[],[sI 17]⟩)] (fun X a K=>z73 q0t (fun a b K=>X (a,b,()) fun r _=>K r.1) a.1 a.2.1 (fun q0=>K (q0,()) ((),(),()))) (fun _ _ _=>by kernel_rfl) fun a K h X hX=>h (fun a b K=>X (a,b,()) fun r _=>K r.1) fun a b K hs=>hX (a,b,()) (fun r _=>K r.1) hs
def z7p(X:V5):Con Sg:=conV [.own 95 C.ex,.el C.ex] [.vec 95 C.ex,.el C.ex] [.vec 95 C.ex] [.same,.same] fun a K=>X a.1 a.2.1 (fun q0=>K (q0,()) ((),(),()))
theorem j8y:MT 248 (z7p q3o):=by
 show MT _ (conV ([.own 95 C.ex,.el C.ex]:LP) ([.vec 95 C.ex,.el C.ex]:LV) ([.vec 95 C.ex]:LV) ([.same,.same]:LV) fun a K=>q3o a.1 a.2.1 (fun q0=>K (q0,()) ((),(),())))
 exact mQ (l:=[(182,z2r Uz),(267,j6s q0e)]) (u:=4) (rk:=[.own 95 C.ex]) ⟨j0a,w74,trivial⟩ (by kernel_rfl) [(6,⟨[1,3,4],[1],[],[(.slot 0,.own 95 C.ex)]⟩),(9,⟨bl 234881050,[1],[],[(.slot 0,.own 95 C.ex),sI 28]⟩),(180000005,⟨bl 195,[0],[],[sI 8]⟩)] (fun X a K=>q9y Uz q0e (fun l e K=>X (l,e,()) fun r _=>K r.1) a.1 a.2.1 (fun q0=>K (q0,()) ((),(),()))) (fun _ _ _=>by kernel_rfl) fun a K h X hX=>h (fun l e K=>X (l,e,()) fun r _=>K r.1) fun l e K hs=>hX (l,e,()) (fun r _=>K r.1) hs
def j3m(X:Hu):Con Sg:=conV [.el C.ex] [.el C.ex] [.el C.ex] [.same] fun a K=>X a.1 (fun q0=>K (q0,()) ((),()))
theorem w49:MT 249 (j3m q8u):=by
 show MT _ (conV ([.el C.ex]:LP) ([.el C.ex]:LV) ([.el C.ex]:LV) ([.same]:LV) fun a K=>q8u a.1 (fun q0=>K (q0,()) ((),())))
 exact mQ (l:=[(122,q2c Jo)]) (u:=4) (rk:=[.el C.ex]) ⟨q57,trivial⟩ (by kernel_rfl) [(269000007,⟨bl 7955,[],[],[(.slot 5,.own 65 C.val),sI 13]⟩),(248000007,⟨bl 7955,[],[],[(.slot 5,.own 95 C.ex),sI 13]⟩)] (fun X a K=>z4m Jo (fun e K=>X (e,()) fun r _=>K r.1) a.1 (fun q0=>K (q0,()) ((),()))) (fun _ _ _=>by kernel_rfl) fun _ K h X hX=>h (fun e K=>X (e,()) fun r _=>K r.1) fun e K hs=>hX (e,()) (fun r _=>K r.1) hs
end Go.En
end
noncomputable section
set_option maxRecDepth 100000
open Go Go.RowKit Go.Fl Go.Fl.Lk Go.Fx
namespace Go.En
def z0c(X:Bd):Con Sg:=conS [.el C.ex] [.vec 95 C.ex] fun a K=>X a.1 (fun q0=>K (q0,()))
theorem j8z{q3z:V5}{q9k:Hu}(h:AL [(248,z7p q3z),(249,j3m q9k)]):MT 225 (z0c (q9z q3z q9k)):=mS h [(248000007,⟨bl 7955,[1],[],[(.slot 5,.own 95 C.ex),sI 13]⟩)]
theorem j80:MT 225 (z0c q90):=j8z ⟨j8y,w49,trivial⟩
def Jl(X:Q7):Con Sg:=conV [.own 9 C.str] [.vec 9 C.str] [] [.vec 9 C.str] fun a K=>X a.1 (fun q0=>K () (q0,()))
theorem Wt:MT 93 (Jl Zh):=⟨entB (by kernel_rfl),q56⟩
def J7(X:Zn):Con Sg:=conV [.own 9 C.str] [.vec 9 C.str] [.vec 9 C.str] [.same] fun a K=>X a.1 (fun q0=>K (q0,()) ((),()))
theorem Um:MT 94 (J7 Zo):=⟨entB (by kernel_rfl),q3g⟩
def q45(X:Gt):Con Sg:=conS [.el C.ex] [.sl C.str] fun a K=>X a.1 (fun q0=>K (q0,()))
theorem j4a{q30:Bd}{Ql:Q7}{Qs:Zn}(h:AL [(225,z0c q30),(93,Jl Ql),(94,J7 Qs)]):MT 190 (q45 (q4w q30 Ql Qs)):=mS h [(7,⟨bl 455,[1,0],[],[(.slot 3,.own 9 C.str),sI 9]⟩)]
theorem j4b:MT 190 (q45 Br):=j4a ⟨j80,Wt,Um,trivial⟩
def j0b(X:z1q):Con Sg:=conV [.sl C.str,.sl C.edge] [.sl C.str,.sl C.edge] [.vec 9 C.str,.int .i64] [.same,.same] fun a K=>X a.1 a.2.1 (fun q0 q1=>K (q0,q1,()) ((),(),()))
theorem w1h:MT 191 (j0b P_graph_Order):=⟨entB (by kernel_rfl),w1b⟩
def q76(X:Hw):Con Sg:=conS [.sl C.seg] [.vec 9 C.str,.int .i64] fun a K=>X a.1 (fun q0 q1=>K (q0,q1,()))
theorem j6t{B5:Gt}{q6j:z1q}(h:AL [(190,q45 B5),(191,j0b q6j)]):MT 144 (q76 (q7f B5 q6j)):=mS h [(9,⟨bl 3085,[],[],[(.slot 4,.own 9 C.str),(.slot 5,.own 297 C.edge),sI 12]⟩),(17,⟨bl 33488029,[6,5,3],[],[(.slot 5,.own 297 C.edge),sI 25]⟩)]
theorem j6u:MT 144 (q76 q1e):=j6t ⟨j4b,w1h,trivial⟩
def B2(X:Wn):Con Sg:=conS [.el C.subj,.str,.str] [.el C.val,.bool] fun a K=>X a.1 a.2.1 a.2.2.1 (fun q0 q1=>K (q0,q1,()))
theorem j4c{Jv:Ui}{Z3:Vr}(h:AL [(99,q73 Jv),(122,q2c Z3)]):MT 181 (B2 (q4x Jv Z3)):=mS h [(17,⟨bl 1912468303,[2,0],[(1,(65,4))],[sI 31,(.cell 1 0,.int .i64),(.cell 1 1,.int .i64),(.cell 1 2,.str),(.cell 1 3,.sl C.str)]⟩)]
theorem z3x:MT 181 (B2 Gu):=j4c ⟨z4z,q57,trivial⟩
def z2s(X:q1f):Con Sg:=conS [.el C.val,.el C.val] [.bool] fun a K=>X a.1 a.2.1 (fun q0=>K (q0,()))
theorem w1i{Qx:Zb}(h:AL [(216,Wo Qx)]):MT 185 (z2s (z1r Qx)):=mS h []
theorem w1j:MT 185 (z2s q1g):=w1i ⟨G4,trivial⟩
def Gd(X:Z2):Con Sg:=conS [.str,.str] [.bool] fun a K=>X a.1 a.2.1 (fun q0=>K (q0,()))
theorem q2e:MT 217 (Gd Jp):=mS (l:=[]) trivial []
def q0n(X:W8):Con Sg:=conS [.str,.str] [.bool] fun a K=>X a.1 a.2.1 (fun q0=>K (q0,()))
theorem z8k{Q8:Z2}(h:AL [(217,Gd Q8)]):MT 186 (q0n (q0f Q8)):=mS h []
theorem z8l:MT 186 (q0n U0):=z8k ⟨q2e,trivial⟩
def q2f(X:Wr):Con Sg:=conS [.str,.str] [.bool] fun a K=>X a.1 a.2.1 (fun q0=>K (q0,()))
theorem z2t:MT 218 (q2f U1):=mS (l:=[]) trivial []
def q0o(X:W9):Con Sg:=conS [.str,.str] [.bool] fun a K=>X a.1 a.2.1 (fun q0=>K (q0,()))
theorem z8m{Wu:Wr}(h:AL [(218,q2f Wu)]):MT 187 (q0o (q0g Wu)):=mS h []
theorem z8n:MT 187 (q0o U2):=z8m ⟨z2t,trivial⟩
end Go.En
end
noncomputable section
set_option maxRecDepth 100000
open Go Go.RowKit Go.Fl Go.Fl.Lk Go.Fx
namespace Go.En
def q9b(X:q1h):Con Sg:=conV [.v,.v] [.str,.str] [.bool] [.same,.same] fun a K=>X a.1 a.2.1 (fun q0=>K (q0,()) ((),(),()))
theorem j0c:MT 188 (q9b q1i):=⟨entB (by kernel_rfl),z95⟩
def j0d(X:q5q):Con Sg:=conS [.el C.val] [.bool] fun a K=>X a.1 (fun q0=>K (q0,()))
theorem w1k:MT 242 (j0d q5r):=mS (l:=[]) trivial [(8,⟨bl 31,[0],[],[sB 5]⟩),(14,⟨bl 63,[0],[],[sB 17]⟩)]
def q2g(X:Vt):Con Sg:=conV [.v] [.str] [.bool] [.same] fun a K=>X a.1 (fun q0=>K (q0,()) ((),()))
theorem q9c:MT 262 (q2g Vu):=⟨entB (by kernel_rfl),z94⟩
def z44(X:q4a):Con Sg:=conS [.str] [.bool] fun a K=>X a.1 (fun q0=>K (q0,()))
theorem w5a{Zy:Vt}(h:AL [(262,q2g Zy)]):MT 243 (z44 (z4n Zy)):=mS h [(9,⟨bl 32737,[],[],[(.obj 0,.siter)]⟩)]
theorem w5b:MT 243 (z44 q8v):=w5a ⟨q9c,trivial⟩
def z45(X:q7g):Con Sg:=conV [.v,.v] [.str,.str] [.vec 9 C.str] [.same,.same] fun a K=>X a.1 a.2.1 (fun q0=>K (q0,()) ((),(),()))
theorem j6v:MT 245 (z45 q7h):=⟨entB (by kernel_rfl),j6n⟩
def Ge(X:Jq):Con Sg:=conS [.str,.str] [.str,.bool] fun a K=>X a.1 a.2.1 (fun q0 q1=>K (q0,q1,()))
theorem z2u{Q8:Z2}(h:AL [(217,Gd Q8)]):MT 276 (Ge (U3 Q8)):=mS h []
theorem z2v:MT 276 (Ge U4):=z2u ⟨q2e,trivial⟩
def q0p(X:Va):Con Sg:=conS [.str,.str] [.str,.bool] fun a K=>X a.1 a.2.1 (fun q0 q1=>K (q0,q1,()))
theorem z8o{Wv:Jq}(h:AL [(276,Ge Wv)]):MT 264 (q0p (q0h Wv)):=mS h []
theorem z8p:MT 264 (q0p U5):=z8o ⟨z2v,trivial⟩
def z7q(X:q91):Con Sg:=conV [.v] [.str] [.int .i64,.ifc] [.same] fun a K=>X a.1 (fun q0 q1=>K (q0,q1,()) ((),()))
theorem j81:MT 265 (z7q q3p):=⟨entB (by kernel_rfl),j8u⟩
def q2h(X:Vv):Con Sg:=conS [.str] [.int .i64,.int .i64] fun a K=>X a.1 (fun q0 q1=>K (q0,q1,()))
theorem j0e{Gg:Va}{Bm:q91}(h:AL [(264,q0p Gg),(265,z7q Bm)]):MT 246 (q2h (q1j Gg Bm)):=mS h [(11,⟨bl 4294966321,[],[],[(.obj 0,.siter)]⟩)]
theorem j0f:MT 246 (q2h Hi):=j0e ⟨z8p,j81,trivial⟩
def q58(X:U6):Con Sg:=conS [.str] [.el C.a3,.bool] fun a K=>X a.1 (fun q0 q1=>K (q0,q1,()))
theorem w1l{q2q:q7g}{Hm:Vv}(h:AL [(245,z45 q2q),(246,q2h Hm)]):MT 223 (q58 (z1s q2q Hm)):=mS h [(13,⟨bl 228405,[2],[(1,(325,3)),(0,(325,3))],[sI 18,(.cell 1 0,.int .i64),(.cell 1 1,.int .i64),(.cell 1 2,.int .i64),(.cell 0 0,.int .i64),(.cell 0 1,.int .i64),(.cell 0 2,.int .i64)]⟩)]
theorem j0g:MT 223 (q58 q1k):=w1l ⟨j6v,j0f,trivial⟩
def z2w(X:q1l):Con Sg:=conS [.el C.val] [.int .i64] fun a K=>X a.1 (fun q0=>K (q0,()))
theorem w1m{q6k:q5q}{q4n:q4a}{Wb:U6}(h:AL [(242,j0d q6k),(243,z44 q4n),(223,q58 Wb)]):MT 220 (z2w (z1t q6k q4n Wb)):=mS h [(47,⟨bl 73643289922748022531,[0],[],[sI 66]⟩),(59,⟨bl 132521265739157328625411,[0],[],[sI 77]⟩)]
theorem w1n:MT 220 (z2w q5s):=w1m ⟨w1k,w5b,j0g,trivial⟩
def q77(X:Hx):Con Sg:=conS [.el C.val,.el C.val] [.int .i64,.int .i64] fun a K=>X a.1 a.2.1 (fun q0 q1=>K (q0,q1,()))
theorem j6w{q2r:q1l}{Wb:U6}(h:AL [(220,z2w q2r),(223,q58 Wb)]):MT 189 (q77 (q7i q2r Wb)):=mS h [(225000005,⟨bl 1539,[],[],[sI 11]⟩)]
theorem j6x:MT 189 (q77 Hy):=j6w ⟨w1n,j0g,trivial⟩
end Go.En
end
noncomputable section
set_option maxRecDepth 100000
open Go Go.RowKit Go.Fl Go.Fl.Lk Go.Fx
namespace Go.En
def z2x(X:q5t):Con Sg:=conS [.el C.subj,.el C.ex] [.bool] fun a K=>X a.1 a.2.1 (fun q0=>K (q0,()))
theorem w1o{Je:Wn}{Rv:q1d}{Rw:q1f}{Gh:W8}{Gi:W9}{Hn:q1h}{Rd:Hx}(h:AL [(181,B2 Je),(182,z2r Rv),(185,z2s Rw),(186,q0n Gh),(187,q0o Gi),(188,q9b Hn),(189,q77 Rd)]):MT 143 (z2x (z1u Je Rv Rw Gh Gi Hn Rd)):=mS h [(216000005,⟨bl 195,[2],[],[sI 8]⟩),(181000005,⟨bl 195,[],[],[sI 8]⟩)]
theorem w1p:MT 143 (z2x Rj):=w1o ⟨z3x,j0a,w1j,z8l,z8n,j0c,j6x,trivial⟩
def q59(X:J9):Con Sg:=conV [.el C.subj,.sl C.str,.el C.ex] [.el C.subj,.sl C.str,.el C.ex] [.bool] [.same,.same,.same] fun a K=>X a.1 a.2.1 a.2.2.1 (fun q0=>K (q0,()) ((),(),(),()))
theorem z2y:MT 105 (q59 Vw):=by
 show MT _ (conV ([.el C.subj,.sl C.str,.el C.ex]:LP) ([.el C.subj,.sl C.str,.el C.ex]:LV) ([.bool]:LV) ([.same,.same,.same]:LV) fun a K=>Vw a.1 a.2.1 a.2.2.1 (fun q0=>K (q0,()) ((),(),(),())))
 exact mQ (l:=[(143,z2x Rj)]) (u:=4) (rk:=[.v]) ⟨w1p,trivial⟩ (by kernel_rfl) [(180000005,⟨bl 195,[1,0],[],[sI 8]⟩),(181000005,⟨bl 195,[],[],[sI 8]⟩)] (fun X a K=>z1v Rj (fun s in_ e K=>X (s,in_,e,()) fun r _=>K r.1) a.1 a.2.1 a.2.2.1 (fun q0=>K (q0,()) ((),(),(),()))) (fun _ _ _=>by kernel_rfl) fun a K h X hX=>h (fun s in_ e K=>X (s,in_,e,()) fun r _=>K r.1) fun s in_ e K hs=>hX (s,in_,e,()) (fun r _=>K r.1) hs
def q2i(X:Vx):Con Sg:=conS [.el C.seg,.el C.subj,.sl C.str] [.bool] fun a K=>X a.1 a.2.1 a.2.2.1 (fun q0=>K (q0,()))
theorem j0h{Qt:Zu}{Zz:J9}(h:AL [(67,V7 Qt),(105,q59 Zz)]):MT 145 (q2i (q1m Qt Zz)):=mS h [(181000005,⟨bl 195,[],[],[sI 8]⟩)]
theorem j0i:MT 145 (q2i Hj):=j0h ⟨Bj,z2y,trivial⟩
def Rs(X:J4):Con Sg:=conS [.sl C.seg,.el C.subj] [.vec 9 C.str] fun a K=>X a.1 a.2.1 (fun q0=>K (q0,()))
theorem j2k{q2s:Hw}{Ho:Vx}{Ql:Q7}(h:AL [(144,q76 q2s),(145,q2i Ho),(93,Jl Ql)]):MT 106 (Rs (q25 q2s Ho Ql)):=mS h [(13,⟨bl 8380667,[1,0],[],[sI 23,(.obj 2,.map C.str C.seg)]⟩),(25,⟨bl 12918448379,[2,1,0],[],[(.slot 10,.own 9 C.str),sI 34]⟩)]
theorem z09:MT 106 (Rs W5):=j2k ⟨j6u,j0i,Wt,trivial⟩
def q3j(X:Uk):Con Sg:=conS [.el C.env,.el C.subj,.str] [.bool] fun a K=>X a.1 a.2.1 a.2.2.1 (fun q0=>K (q0,()))
theorem j2l{Q9:J4}{Zz:J9}(h:AL [(106,Rs Q9),(105,q59 Zz)]):MT 72 (q3j (q26 Q9 Zz)):=mS h [(5,⟨bl 3615,[1,0],[],[sI 12]⟩)]
theorem j2m:MT 72 (q3j Rk):=j2l ⟨z09,z2y,trivial⟩
def q6a(X:Vy):Con Sg:=conS [.sl C.range,.int .i64] [.int .i64] fun a K=>X a.1 a.2.1 (fun q0=>K (q0,()))
theorem z2z:MT 49 (q6a Rl):=mS (l:=[]) trivial [(5,⟨bl 387,[],[],[sI 9]⟩)]
def Bk(X:W0):Con Sg:=conS [.el C.env,.el C.subj,.sl C.forced,.str] [.el C.asg,.int .i64] fun a K=>X a.1 a.2.1 a.2.2.1 a.2.2.2.1 (fun q0 q1=>K (q0,q1,()))
theorem j82{Qt:Zu}{q2t:q1a}{Qq:Ji}{Zf:Vy}{Rx:Uk}{q6l:q1c}{q6m:q5n}(h:AL [(67,V7 Qt),(68,z42 q2t),(35,H8 Qq),(49,q6a Zf),(72,q3j Rx),(70,z2q q6l),(69,z99 q6m)]):MT 29 (Bk (q92 Qt q2t Qq Zf Rx q6l q6m)):=mS h [(4,⟨bl 959,[3,2,1,0],[],[sI 10]⟩),(18,⟨bl 2198939402175,[9,5,3,2,1,0],[(7,(105,5))],[(.cell 7 2,.int .i64)]⟩),(22,⟨bl 17735122472271807,[12,7,9,5,3,2,1,0],[],[sB 64]⟩),(30,⟨bl 18464479196181823423,[12,7,9,5,3,2,1,0],[],[sB 87]⟩),(41,⟨bl 73193204841212587949592543167,[12,9,5,3,2,1,0],[(7,(105,5))],[sI 96,(.cell 7 1,.str),(.cell 7 3,.int .i64)]⟩),(46,⟨bl 1261615642555177651852752060351,[19,7],[],[sB 19]⟩),(48,⟨bl 1261615642555177651852752584639,[19,7],[],[sB 122]⟩),(87000005,⟨bl 195,[],[],[sI 8]⟩),(66000005,⟨bl 195,[],[],[sI 8]⟩)]
theorem z0d:MT 29 (Bk W2):=j82 ⟨Bj,j6r,q3i,z2z,j2m,w1g,w1e,trivial⟩
def z3y(X:q4y):Con Sg:=conV [.v] [.str] [.vec 9 C.str] [.same] fun a K=>X a.1 (fun q0=>K (q0,()) ((),()))
theorem j4d:MT 85 (z3y q4z):=⟨entB (by kernel_rfl),j38⟩
def q0z(X:J5):Con Sg:=conS [.str] [.bool] fun a K=>X a.1 (fun q0=>K (q0,()))
theorem v1u{B6:q4y}(h:AL [(85,z3y B6)]):MT 43 (q0z (j12 B6)):=mS h [(9,⟨bl 261889,[],[],[(.obj 0,.siter)]⟩),(21,⟨bl 3377699721576193,[3,0],[],[sI 52]⟩)]
theorem q64:MT 43 (q0z Rm):=v1u ⟨j4d,trivial⟩
def z22(X:q1n):Con Sg:=conS [.el C.register,.el C.slot] [.bool] fun a K=>X a.1 a.2.1 (fun q0=>K (q0,()))
theorem w1q{Qy:J5}(h:AL [(43,q0z Qy)]):MT 77 (z22 (z1w Qy)):=mS h [(16,⟨bl 140737488355327,[1,0],[],[sB 50]⟩)]
theorem w1r:MT 77 (z22 q5u):=w1q ⟨q64,trivial⟩
def V2(X:Zr):Con Sg:=conV [.map C.str C.str,.v] [.map C.str C.str,.str] [.str] [.map C.str C.str,.same] fun a K=>X a.1 a.2.1 (fun q0 q1=>K (q0,()) (q1,(),()))
theorem H9:MT 110 (V2 Jk):=mP (rk:=[.v]) (l:=[]) trivial [(3,⟨[0],[0],[],[(.slot 1,.str)]⟩)]
def Ra(X:Wd):Con Sg:=conV [.map C.str C.str,.v,.v] [.map C.str C.str,.str,.str] [.bool] [.map C.str C.str,.same,.same] fun a K=>X a.1 a.2.1 a.2.2.1 (fun q0 q1=>K (q0,()) (q1,(),(),()))
theorem z47{Qn:Zr}(h:AL [(110,V2 Qn)]):MT 146 (Ra (Hz Qn)):=mP (rk:=[.v]) h []
theorem z48:MT 146 (Ra Vz):=z47 ⟨H9,trivial⟩
end Go.En
end
noncomputable section
set_option maxRecDepth 100000
open Go Go.RowKit Go.Fl Go.Fl.Lk Go.Fx
namespace Go.En
def q6b(X:U7):Con Sg:=conS [.sl C.link] [.map C.str C.str] fun a K=>X a.1 (fun q0=>K (q0,()))
theorem w1s{V4:Wd}(h:AL [(146,Ra V4)]):MT 109 (q6b (z1x V4)):=mS h [(7,⟨bl 461,[],[],[sI 9,(.obj 0,.map C.str C.str)]⟩)]
theorem j0j:MT 109 (q6b q1o):=w1s ⟨z48,trivial⟩
def Vd(X:Zp):Con Sg:=conS [.sl C.link,.str] [.str] fun a K=>X a.1 a.2.1 (fun q0=>K (q0,()))
theorem j6y{Ww:U7}{Qn:Zr}(h:AL [(109,q6b Ww),(110,V2 Qn)]):MT 76 (Vd (q7j Ww Qn)):=mS h []
theorem Rb:MT 76 (Vd We):=j6y ⟨j0j,H9,trivial⟩
def Ha(X:Z9):Con Sg:=conS [.el C.register] [.bool] fun a K=>X a.1 (fun q0=>K (q0,()))
theorem j83{Qy:J5}{q6n:q1n}{Qm:Zp}(h:AL [(43,q0z Qy),(77,z22 q6n),(76,Vd Qm)]):MT 31 (Ha (q93 Qy q6n Qm)):=mS h [(11,⟨bl 34359734275,[0],[],[sI 3,sI 35]⟩),(27,⟨bl 33056565380224955445251,[0],[],[sI 3,sI 75]⟩),(43,⟨bl 74276548750483785590388027659,[0],[],[sI 96,(.obj 5,.map C.place C.bool)]⟩)]
theorem q3v:MT 31 (Ha V6):=j83 ⟨q64,w1r,Rb,trivial⟩
def Bl(X:Wa):Con Sg:=conS [.el C.register,.int .i64] [.int .i64] fun a K=>X a.1 a.2.1 (fun q0=>K (q0,()))
theorem j84{Q3:Z9}(h:AL [(31,Ha Q3)]):MT 74 (Bl (q94 Q3)):=mS h []
theorem z0e:MT 74 (Bl G8):=j84 ⟨q3v,trivial⟩
def Zw(X:Qu):Con Sg:=conS [.sl C.link] [.vec 58 C.link] fun a K=>X a.1 (fun q0=>K (q0,()))
theorem Jt:MT 107 (Zw Q5):=mS (l:=[]) trivial []
def Zx(X:Qv):Con Sg:=conS [.sl C.slot] [.vec 30 C.slot] fun a K=>X a.1 (fun q0=>K (q0,()))
theorem Ju:MT 108 (Zx Q6):=mS (l:=[]) trivial []
def q46(X:Gv):Con Sg:=conS [.el C.register,.str,.str] [.int .i64] fun a K=>X a.1 a.2.1 a.2.2.1 (fun q0=>K (q0,()))
theorem j4e{Qm:Zp}(h:AL [(76,Vd Qm)]):MT 64 (q46 (q40 Qm)):=mS h [(98000005,⟨bl 195,[2,0,1],[],[sI 8]⟩)]
theorem j4f:MT 64 (q46 Bt):=j4e ⟨Rb,trivial⟩
def q2j(X:Vb):Con Sg:=conS [.el C.register,.str,.el C.asg,.int .i64,.int .i64] [.el C.register,.el C.slot,.int .i64] fun a K=>X a.1 a.2.1 a.2.2.1 a.2.2.2.1 a.2.2.2.2.1 (fun q0 q1 q2=>K (q0,q1,q2,()))
theorem j6z{Zq:Wa}{Qy:J5}{Qe:Qu}{Qf:Qv}{B7:Gv}{Qm:Zp}(h:AL [(74,Bl Zq),(43,q0z Qy),(107,Zw Qe),(108,Zx Qf),(64,q46 B7),(76,Vd Qm)]):MT 30 (q2j (q7k Zq Qy Qe Qf B7 Qm)):=mS h [(35,⟨bl 629028281880802687600182947007,[12,5,4,7,6,1,0],[(3,(30,7)),(2,(28,3))],[sI 99,(.cell 3 0,.str),(.cell 3 1,.str),(.cell 3 2,.str),(.cell 3 3,.int .i64),(.cell 3 4,.int .i64),(.cell 3 5,.int .i64),(.cell 3 6,.int .i64),(.cell 2 0,.int .i64),(.cell 2 1,.own 58 C.link),(.cell 2 2,.own 30 C.slot)]⟩)]
theorem z5a:MT 30 (q2j H0):=j6z ⟨z0e,q64,Jt,Ju,j4f,Rb,trivial⟩
def q47(X:Vl):Con Sg:=conS [.sl C.link,.int .i64] [.sl C.link] fun a K=>X a.1 a.2.1 (fun q0=>K (q0,()))
theorem z3z:MT 34 (q47 Gw):=mS (l:=[]) trivial [(7,⟨bl 787,[],[],[(.slot 5,.own 58 C.link),sI 10]⟩)]
def z23(X:q0i):Con Sg:=conS [.el C.register,.str,.str,.int .i64] [.el C.slot,.bool] fun a K=>X a.1 a.2.1 a.2.2.1 a.2.2.2.1 (fun q0 q1=>K (q0,q1,()))
theorem w75{Jf:Vl}{Qm:Zp}(h:AL [(34,q47 Jf),(76,Vd Qm)]):MT 57 (z23 (z74 Jf Qm)):=mS h [(9,⟨bl 16764191,[0],[(1,(30,7))],[sI 24,(.cell 1 0,.str),(.cell 1 1,.str),(.cell 1 2,.str),(.cell 1 3,.int .i64),(.cell 1 4,.int .i64),(.cell 1 5,.int .i64),(.cell 1 6,.int .i64)]⟩)]
theorem j60:MT 57 (z23 q7l):=w75 ⟨z3z,Rb,trivial⟩
def z8q(X:q7m):Con Sg:=conS [.el C.register,.str,.str,.int .i64] [.el C.slot,.bool] fun a K=>X a.1 a.2.1 a.2.2.1 a.2.2.2.1 (fun q0 q1=>K (q0,q1,()))
theorem w76{Q3:Z9}{Gj:q0i}(h:AL [(31,Ha Q3),(57,z23 Gj)]):MT 21 (z8q (z77 Q3 Gj)):=mS h []
theorem w77:MT 21 (z8q z1y):=w76 ⟨q3v,j60,trivial⟩
def z25(X:Rn):Con Sg:=conS [.el C.env,.str] [.el C.layer,.bool] fun a K=>X a.1 a.2.1 (fun q0 q1=>K (q0,q1,()))
theorem j0k:MT 32 (z25 q1p):=mS (l:=[]) trivial [(5,⟨bl 1815,[0],[(1,(91,6))],[sI 11,(.cell 1 0,.str),(.cell 1 1,.str),(.cell 1 2,.str),(.cell 1 3,.int .i64),(.cell 1 4,.int .i64),(.cell 1 5,.sl C.cool)]⟩)]
end Go.En
end
noncomputable section
set_option maxRecDepth 100000
open Go Go.RowKit Go.Fl Go.Fl.Lk Go.Fx
namespace Go.En
def q48(X:Vm):Con Sg:=conS [.el C.link,.str] [.str,.bool] fun a K=>X a.1 a.2.1 (fun q0 q1=>K (q0,q1,()))
theorem z30:MT 79 (q48 Gx):=mS (l:=[]) trivial []
def R6(X:Wq):Con Sg:=conS [.sl C.link,.str] [.map C.str C.i64] fun a K=>X a.1 a.2.1 (fun q0=>K (q0,()))
theorem z69{Jg:Vm}(h:AL [(79,q48 Jg)]):MT 78 (R6 (R2 Jg)):=mS h [(7,⟨bl 2031667,[],[],[(.slot 6,.own 9 C.str),(.obj 0,.map C.str C.i64)]⟩),(13,⟨bl 65994867,[3],[],[(.slot 7,.own 9 C.str),sI 26,(.obj 0,.map C.str C.i64)]⟩),(19,⟨bl 4274979379,[],[],[(.slot 7,.own 9 C.str),sI 32,(.obj 0,.map C.str C.i64)]⟩)]
theorem z7a:MT 78 (R6 Ua):=z69 ⟨z30,trivial⟩
def q78(X:H1):Con Sg:=conS [.sl C.link,.str,.str] [.vec 58 C.link,.bool] fun a K=>X a.1 a.2.1 a.2.2.1 (fun q0 q1=>K (q0,q1,()))
theorem j61{Uf:Wq}{Jg:Vm}(h:AL [(78,R6 Uf),(79,q48 Jg)]):MT 33 (q78 (q7n Uf Jg)):=mS h [(13,⟨bl 536610757,[0],[],[(.slot 1,.str),(.slot 11,.own 58 C.link)]⟩),(17,⟨bl 17174365893,[],[],[(.slot 1,.str),(.slot 11,.own 58 C.link),sI 34]⟩)]
theorem j62:MT 33 (q78 q1q):=j61 ⟨z7a,z30,trivial⟩
def q2k(X:Vc):Con Sg:=conS [.el C.register,.el C.env,.str,.str,.int .i64] [.el C.record,.int .i64] fun a K=>X a.1 a.2.1 a.2.2.1 a.2.2.2.1 a.2.2.2.2.1 (fun q0 q1=>K (q0,q1,()))
theorem j63{Q3:Z9}{z3j:q7m}{Wx:Rn}{Jf:Vl}{q2u:H1}{Qq:Ji}(h:AL [(31,Ha Q3),(21,z8q z3j),(32,z25 Wx),(34,q47 Jf),(33,q78 q2u),(35,H8 Qq)]):MT 11 (q2k (q7o Q3 z3j Wx Jf q2u Qq)):=mS h []
theorem z5b:MT 11 (q2k H2):=j63 ⟨q3v,w77,j0k,z3z,j62,q3i,trivial⟩
def j0l(X:q5v):Con Sg:=conS [.sl C.link,.str,.str,.int .i64] [.bool] fun a K=>X a.1 a.2.1 a.2.2.1 a.2.2.2.1 (fun q0=>K (q0,()))
theorem w1t:MT 44 (j0l q5w):=mS (l:=[]) trivial [(5,⟨bl 6157,[],[],[(.slot 1,.str),sI 13]⟩)]
def q6c(X:U8):Con Sg:=conS [.el C.record,.el C.env] [.int .i64] fun a K=>X a.1 a.2.1 (fun q0=>K (q0,()))
theorem w1u{q6o:q5v}{Wx:Rn}{Qq:Ji}{Zf:Vy}{Qy:J5}(h:AL [(44,j0l q6o),(32,z25 Wx),(35,H8 Qq),(49,q6a Zf),(43,q0z Qy)]):MT 14 (q6c (z1z q6o Wx Qq Zf Qy)):=mS h [(8,⟨bl 3135,[2,1,0],[],[sB 12]⟩),(14,⟨bl 7231,[2,1,0],[],[sB 21]⟩),(46000005,⟨bl 195,[2],[],[sI 8]⟩),(87000005,⟨bl 195,[0],[],[sI 8]⟩)]
theorem j0m:MT 14 (q6c q1r):=w1u ⟨w1t,j0k,q3i,z2z,q64,trivial⟩
def z27(X:q1s):Con Sg:=conS [] [.bool] fun a K=>X (fun q0=>K (q0,()))
theorem w1v{Jh:Wm}{Ve:q38}{Ja:W0}{Jw:Vb}{Jx:Vc}{Wc:U8}(h:AL [(28,B1 Jh),(23,z96 Ve),(29,Bk Ja),(30,q2j Jw),(11,q2k Jx),(14,q6c Wc)]):MT 9 (z27 (z10 Jh Ve Ja Jw Jx Wc)):=mS h []
theorem w1w:MT 9 (z27 q5x):=w1v ⟨z3w,j6o,z0d,z5a,z5b,j0m,trivial⟩
def Hf(X:J1):Con Sg:=conS [.el C.aenv] [.el C.env] fun a K=>X a.1 (fun q0=>K (q0,()))
theorem z39{Jh:Wm}(h:AL [(28,B1 Jh)]):MT 10 (Hf (He Jh)):=mS h []
theorem z4a:MT 10 (Hf Vf):=z39 ⟨z3w,trivial⟩
def w5c(X:z9t):Con Sg:=conS [.str] [.bool] fun a K=>X a.1 (fun q0=>K (q0,()))
theorem v5z:MT 87 (w5c z9u):=mS (l:=[]) trivial [(5,⟨[0],[],[],[sI 3]⟩)]
def j0n(X:q5y):Con Sg:=conS [] [.vec 9 C.str] fun a K=>X (fun q0=>K (q0,()))
theorem w1x:MT 88 (j0n q5z):=mS (l:=[]) trivial []
def j0o(X:q50):Con Sg:=conS [.str] [.bool] fun a K=>X a.1 (fun q0=>K (q0,()))
theorem v9v{j1c:z9t}{q6p:q5y}(h:AL [(87,w5c j1c),(88,j0n q6p)]):MT 50 (j0o (w07 j1c q6p)):=mS h [(11,⟨bl 16361,[0],[],[sI 4]⟩)]
theorem w1y:MT 50 (j0o z57):=v9v ⟨v5z,w1x,trivial⟩
def q3w(X:Ws):Con Sg:=conS [.sl C.str,.str] [.bool] fun a K=>X a.1 a.2.1 (fun q0=>K (q0,()))
theorem q6d:MT 113 (q3w Hk):=mS (l:=[]) trivial [(5,⟨[0,1],[],[],[sI 5]⟩)]
end Go.En
end
noncomputable section
set_option maxRecDepth 100000
open Go Go.RowKit Go.Fl Go.Fl.Lk Go.Fx
namespace Go.En
def j3n(X:q8w):Con Sg:=conS [.sl C.str,.str] [.vec 9 C.str] fun a K=>X a.1 a.2.1 (fun q0=>K (q0,()))
theorem w5d:MT 149 (j3n q4b):=mS (l:=[]) trivial [(5,⟨[0,1,4],[],[],[sI 5]⟩)]
def z29(X:q1t):Con Sg:=conS [.sl C.link,.str] [.vec 9 C.str] fun a K=>X a.1 a.2.1 (fun q0=>K (q0,()))
theorem w1z{Qz:Ws}{q9l:q8w}(h:AL [(113,q3w Qz),(149,j3n q9l)]):MT 114 (z29 (z11 Qz q9l)):=mS h [(7,⟨bl 6163,[],[],[(.slot 5,.own 9 C.str),sB 6]⟩),(13,⟨bl 10259,[],[],[(.slot 5,.own 9 C.str),sB 6,sI 7]⟩),(28,⟨bl 4398045719539,[3],[],[(.slot 10,.str)]⟩)]
theorem w2a:MT 114 (z29 q51):=w1z ⟨q6d,w5d,trivial⟩
def z6n(X:q27):Con Sg:=conS [.sl C.link,.str,.str] [.bool] fun a K=>X a.1 a.2.1 a.2.2.1 (fun q0=>K (q0,()))
theorem v1v{q6q:q1t}{Qz:Ws}(h:AL [(114,z29 q6q),(113,q3w Qz)]):MT 82 (z6n (j13 q6q Qz)):=mS h []
theorem j98:MT 82 (z6n q60):=v1v ⟨w2a,q6d,trivial⟩
def j2n(X:z0v):Con Sg:=conS [.el C.register,.int .i64] [.bool] fun a K=>X a.1 a.2.1 (fun q0=>K (q0,()))
theorem v1w{Vg:q50}{Un:q27}(h:AL [(50,j0o Vg),(82,z6n Un)]):MT 81 (j2n (j14 Vg Un)):=mS h [(26,⟨bl 147573952589676412711,[1,0],[],[]⟩),(29,⟨bl 147573952589676412711,[1,0],[],[sI 6]⟩),(22,⟨bl 2361183241434822606647,[],[],[sB 74]⟩)]
theorem v1x:MT 81 (j2n z58):=v1w ⟨w1y,j98,trivial⟩
def z3a(X:q0j):Con Sg:=conS [.el C.register] [.bool] fun a K=>X a.1 (fun q0=>K (q0,()))
theorem w78{Vg:q50}{z6x:z0v}(h:AL [(50,j0o Vg),(81,j2n z6x)]):MT 36 (z3a (z78 Vg z6x)):=mS h [(9,⟨bl 67108803,[0],[],[sI 3]⟩),(21,⟨bl 2147483595,[0],[],[sI 5]⟩)]
theorem j64:MT 36 (z3a q7p):=w78 ⟨w1y,v1x,trivial⟩
def z8r(X:q28):Con Sg:=conS [.sl C.link,.int .i64] [.sl C.link] fun a K=>X a.1 a.2.1 (fun q0=>K (q0,()))
theorem j65:MT 40 (z8r q7q):=mS (l:=[]) trivial [(7,⟨[0,1,4],[],[],[(.slot 5,.own 58 C.link),sI 6]⟩)]
def j5e(X:z13):Con Sg:=conS [.el C.register,.str,.str,.int .i64] [.el C.slot,.bool] fun a K=>X a.1 a.2.1 a.2.2.1 a.2.2.2.1 (fun q0 q1=>K (q0,q1,()))
theorem v9w{Gk:q0j}{Gl:q28}{Un:q27}(h:AL [(36,z3a Gk),(40,z8r Gl),(82,z6n Un)]):MT 37 (j5e (w08 Gk Gl Un)):=mS h [(11,⟨bl 2024735,[0],[(1,(30,7))],[sI 11,(.cell 1 0,.str),(.cell 1 1,.str),(.cell 1 2,.str),(.cell 1 3,.int .i64),(.cell 1 4,.int .i64),(.cell 1 5,.int .i64),(.cell 1 6,.int .i64)]⟩)]
theorem v0f:MT 37 (j5e z9v):=v9w ⟨j64,j65,j98,trivial⟩
def z8s(X:q29):Con Sg:=conS [.el C.env,.str] [.el C.layer,.bool] fun a K=>X a.1 a.2.1 (fun q0 q1=>K (q0,q1,()))
theorem j66:MT 38 (z8s q7r):=mS (l:=[]) trivial [(5,⟨bl 23,[0],[(1,(91,6))],[sI 6,(.cell 1 0,.str),(.cell 1 1,.str),(.cell 1 2,.str),(.cell 1 3,.int .i64),(.cell 1 4,.int .i64),(.cell 1 5,.sl C.cool)]⟩)]
def z0f(X:Be):Con Sg:=conS [.sl C.link,.str,.str] [.int .i64] fun a K=>X a.1 a.2.1 a.2.2.1 (fun q0=>K (q0,()))
theorem j85{Qz:Ws}(h:AL [(113,q3w Qz)]):MT 83 (z0f (q95 Qz)):=mS h [(9,⟨bl 6151,[],[],[(.slot 7,.own 9 C.str),sI 8]⟩),(17,⟨bl 3377543,[],[],[(.slot 9,.own 9 C.str),sI 10,(.obj 1,.own 9 C.str)]⟩),(24,⟨bl 64195975,[],[],[(.slot 9,.own 9 C.str),(.obj 1,.own 9 C.str)]⟩)]
theorem j86:MT 83 (z0f q3q):=j85 ⟨q6d,trivial⟩
def j2o(X:z0w):Con Sg:=conS [.sl C.link,.str,.str] [.vec 58 C.link,.bool] fun a K=>X a.1 a.2.1 a.2.2.1 (fun q0 q1=>K (q0,q1,()))
theorem v1y{Bn:Be}(h:AL [(83,z0f Bn)]):MT 39 (j2o (j15 Bn)):=mS h [(11,⟨bl 516293,[],[],[(.slot 1,.str),sI 8,(.slot 9,.own 58 C.link)]⟩),(15,⟨bl 2089413,[],[],[(.slot 1,.str),(.slot 9,.own 58 C.link),sI 10]⟩),(24,⟨bl 549655144391,[4],[],[(.slot 11,.str),sB 12]⟩)]
theorem v1z:MT 39 (j2o z59):=v1y ⟨j86,trivial⟩
def j99(X:z6a):Con Sg:=conS [.sl C.bytes] [.vec 5 C.u8] fun a K=>X a.1 (fun q0=>K (q0,()))
theorem v10:MT 116 (j99 z6b):=mS (l:=[]) trivial [(7,⟨[0,2],[],[],[(.slot 3,.own 5 C.u8),sI 4]⟩),(15,⟨bl 518069,[],[],[(.slot 3,.own 5 C.u8),sI 6]⟩)]
def j67(X:z14):Con Sg:=conS [.int .u64,.int .u64] [.int .u64] fun a K=>X a.1 a.2.1 (fun q0=>K (q0,()))
theorem w79:MT 193 (j67 z15):=mS (l:=[]) trivial []
end Go.En
end
noncomputable section
set_option maxRecDepth 100000
open Go Go.RowKit Go.Fl Go.Fl.Lk Go.Fx
namespace Go.En
def q49(X:Gy):Con Sg:=conS [.el C.sip,.int .i64] [.el C.sip] fun a K=>X a.1 a.2.1 (fun q0=>K (q0,()))
theorem j4g{Gm:z14}(h:AL [(193,j67 Gm)]):MT 150 (q49 (q41 Gm)):=mS h [(5,⟨bl 23,[1],[(0,(257,4))],[sI 5,(.cell 0 0,.int IntKind.u64),(.cell 0 1,.int IntKind.u64),(.cell 0 2,.int IntKind.u64),(.cell 0 3,.int IntKind.u64)]⟩)]
theorem j4h:MT 150 (q49 Jc):=j4g ⟨w79,trivial⟩
def w2b(X:z9w):Con Sg:=conS [.int .u64,.int .u64,.sl C.u8] [.int .u64] fun a K=>X a.1 a.2.1 a.2.2.1 (fun q0=>K (q0,()))
theorem v9x{Vn:Gy}(h:AL [(150,q49 Vn)]):MT 115 (w2b (w09 Vn)):=mS h [(7,⟨bl 1046727,[],[(0,(257,4))],[sI 8,(.cell 0 0,.int IntKind.u64),(.cell 0 1,.int IntKind.u64),(.cell 0 2,.int IntKind.u64),(.cell 0 3,.int IntKind.u64)]⟩),(15,⟨bl 33552839,[0],[],[(.slot 9,.int IntKind.u64),sI 10]⟩),(24,⟨bl 274777243079,[0],[],[(.slot 9,.int IntKind.u64)]⟩)]
theorem v9y:MT 115 (w2b j5b):=v9x ⟨j4h,trivial⟩
def j68(X:z4o):Con Sg:=conS [.int .u64,.sl C.bytes] [.int .u64] fun a K=>X a.1 a.2.1 (fun q0=>K (q0,()))
theorem v50{z6y:z6a}{j5l:z9w}(h:AL [(116,j99 z6y),(115,w2b j5l)]):MT 84 (j68 (j6h z6y j5l)):=mS h []
theorem v52:MT 84 (j68 z9x):=v50 ⟨v10,v9y,trivial⟩
def q9d(X:U9):Con Sg:=conS [.str,.str] [.int .i64] fun a K=>X a.1 a.2.1 (fun q0=>K (q0,()))
theorem v9z{j1d:z4o}(h:AL [(84,j68 j1d)]):MT 41 (q9d (w1a j1d)):=mS h []
theorem z6o:MT 41 (q9d q1u):=v9z ⟨v52,trivial⟩
def z3b(X:q1v):Con Sg:=conS [.el C.register,.el C.env,.str,.str,.int .i64] [.el C.record,.int .i64] fun a K=>X a.1 a.2.1 a.2.2.1 a.2.2.2.1 a.2.2.2.2.1 (fun q0 q1=>K (q0,q1,()))
theorem w2c{Gk:q0j}{q6r:z13}{V8:q29}{Gl:q28}{z6z:z0w}{Zi:U9}(h:AL [(36,z3a Gk),(37,j5e q6r),(38,z8s V8),(40,z8r Gl),(39,j2o z6z),(41,q9d Zi)]):MT 12 (z3b (z16 Gk q6r V8 Gl z6z Zi)):=mS h []
theorem w2d:MT 12 (z3b q52):=w2c ⟨j64,v0f,j66,j65,v1z,z6o,trivial⟩
def z5c(X:q1w):Con Sg:=conS [.sl C.link,.sl C.link] [.bool] fun a K=>X a.1 a.2.1 (fun q0=>K (q0,()))
theorem j69:MT 42 (z5c q1x):=mS (l:=[]) trivial [(9,⟨bl 1987,[],[],[sI 5]⟩)]
def j2p(X:z0x):Con Sg:=conS [.el C.record,.el C.record] [.bool] fun a K=>X a.1 a.2.1 (fun q0=>K (q0,()))
theorem v11{q2v:q1w}(h:AL [(42,z5c q2v)]):MT 13 (j2p (j16 q2v)):=mS h []
theorem v18:MT 13 (j2p z6c):=v11 ⟨j69,trivial⟩
def j7a(X:z17):Con Sg:=conS [.sl C.link,.str,.str,.int .i64] [.bool] fun a K=>X a.1 a.2.1 a.2.2.1 a.2.2.2.1 (fun q0=>K (q0,()))
theorem w8a:MT 51 (j7a z18):=mS (l:=[]) trivial [(5,⟨[0,2,3],[],[],[(.slot 1,.str),sI 9]⟩)]
def z32(X:Bu):Con Sg:=conS [.el C.env,.str,.str] [.el C.exper,.bool] fun a K=>X a.1 a.2.1 a.2.2.1 (fun q0 q1=>K (q0,q1,()))
theorem j4i:MT 52 (z32 Bv):=mS (l:=[]) trivial [(5,⟨bl 79,[0],[(1,(97,12))],[sI 8,(.cell 1 0,.str),(.cell 1 1,.str),(.cell 1 2,.str),(.cell 1 3,.str),(.cell 1 4,.int .i64),(.cell 1 5,.sl C.span),(.cell 1 6,.sl C.range),(.cell 1 7,.int .i64),(.cell 1 8,.str),(.cell 1 9,.str),(.cell 1 10,.sl C.val),(.cell 1 11,.sl C.ex)]⟩)]
def z6p(X:q0u):Con Sg:=conS [.sl C.range,.int .i64] [.int .i64] fun a K=>X a.1 a.2.1 (fun q0=>K (q0,()))
theorem j2q:MT 53 (z6p q61):=mS (l:=[]) trivial [(5,⟨[0,1],[],[],[sI 5]⟩)]
def z8t(X:q7s):Con Sg:=conS [.el C.record,.el C.env] [.int .i64] fun a K=>X a.1 a.2.1 (fun q0=>K (q0,()))
theorem w8b{Vg:q50}{q8l:z17}{V8:q29}{G5:Bu}{Zi:U9}{Jz:q0u}(h:AL [(50,j0o Vg),(51,j7a q8l),(38,z8s V8),(52,z32 G5),(41,q9d Zi),(53,z6p Jz)]):MT 15 (z8t (z79 Vg q8l V8 G5 Zi Jz)):=mS h [(33,⟨bl 2417851639228725773464575,[6,4,2,1,0],[],[sB 10,sI 11]⟩)]
theorem w8c:MT 15 (z8t z19):=w8b ⟨w1y,w8a,j66,j4i,z6o,j2q,trivial⟩
end Go.En
end
noncomputable section
set_option maxRecDepth 100000
open Go Go.RowKit Go.Fl Go.Fl.Lk Go.Fx
namespace Go.En
def v0g(X:j5c):Con Sg:=conS [] [.vec 9 C.str] fun a K=>X (fun q0=>K (q0,()))
theorem v90:MT 56 (v0g v0e):=mS (l:=[]) trivial []
def w2e(X:z8a):Con Sg:=conS [.int .i64] [.str] fun a K=>X a.1 (fun q0=>K (q0,()))
theorem y3x{j1e:j5c}(h:AL [(56,v0g j1e)]):MT 18 (w2e (w7z j1e)):=mS h []
theorem v54:MT 18 (w2e j6i):=y3x ⟨v90,trivial⟩
def z33(X:Bw):Con Sg:=conS [] [.vec 9 C.str] fun a K=>X (fun q0=>K (q0,()))
theorem j4j:MT 20 (z33 z3v):=mS (l:=[]) trivial []
def z3c(X:q1y):Con Sg:=conS [.el C.register,.str,.int .i64] [.el C.register,.int .i64,.int .i64] fun a K=>X a.1 a.2.1 a.2.2.1 (fun q0 q1 q2=>K (q0,q1,q2,()))
theorem w2f{Zq:Wa}{Qy:J5}{Qe:Qu}{Qf:Qv}(h:AL [(74,Bl Zq),(43,q0z Qy),(107,Zw Qe),(108,Zx Qf)]):MT 54 (z3c (z2a Zq Qy Qe Qf)):=mS h [(19,⟨bl 2129119183,[10,3,2,4,1,0],[],[sI 11,sI 31,(.obj 5,.own 30 C.slot)]⟩)]
theorem w2g:MT 54 (z3c q53):=w2f ⟨z0e,q64,Jt,Ju,trivial⟩
def q79(X:H3):Con Sg:=conS [.sl C.link,.str,.str] [.bool] fun a K=>X a.1 a.2.1 a.2.2.1 (fun q0=>K (q0,()))
theorem j7b{Ww:U7}{Qn:Zr}(h:AL [(109,q6b Ww),(110,V2 Qn)]):MT 89 (q79 (q7t Ww Qn)):=mS h []
theorem j7c:MT 89 (q79 q1z):=j7b ⟨j0j,H9,trivial⟩
def z0g(X:Bf):Con Sg:=conS [.el C.register,.str,.str,.int .i64] [.el C.register,.vec 30 C.slot,.int .i64] fun a K=>X a.1 a.2.1 a.2.2.1 a.2.2.2.1 (fun q0 q1 q2=>K (q0,q1,q2,()))
theorem j87{Zq:Wa}{Qy:J5}{Qe:Qu}{Qf:Qv}{q2w:H3}{Qm:Zp}(h:AL [(74,Bl Zq),(43,q0z Qy),(107,Zw Qe),(108,Zx Qf),(89,q79 q2w),(76,Vd Qm)]):MT 55 (z0g (q96 Zq Qy Qe Qf q2w Qm)):=mS h [(37,⟨bl 590284480844838764319,[10,3,2,1,0],[],[(.slot 15,.own 30 C.slot),sI 69,(.obj 15,.map C.str C.bool),(.obj 13,.own 58 C.link),(.obj 12,.own 58 C.link),(.obj 5,.own 30 C.slot)]⟩),(50,⟨bl 4951760157130191585729806111,[15],[],[(.slot 15,.own 30 C.slot),(.obj 13,.own 58 C.link),(.obj 5,.own 30 C.slot),(.obj 12,.own 58 C.link)]⟩)]
theorem j88:MT 55 (z0g q3r):=j87 ⟨z0e,q64,Jt,Ju,j7c,Rb,trivial⟩
def z5d(X:q4c):Con Sg:=conS [.el C.env,.sl C.move] [.el C.register] fun a K=>X a.1 a.2.1 (fun q0=>K (q0,()))
theorem w5e{q8m:z8a}{Ve:q38}{Za:Hr}{Ja:W0}{Jw:Vb}{B9:Bw}{q6s:q1y}{q31:Bf}(h:AL [(18,w2e q8m),(23,z96 Ve),(19,z2o Za),(29,Bk Ja),(30,q2j Jw),(20,z33 B9),(54,z3c q6s),(55,z0g q31)]):MT 16 (z5d (z4p q8m Ve Za Ja Jw B9 q6s q31)):=mS h [(7,⟨bl 55,[1,0],[(2,(28,3))],[sI 6,(.cell 2 0,.int .i64),(.cell 2 1,.sl C.link),(.cell 2 2,.sl C.slot)]⟩),(40,⟨bl 34358937591,[7,2],[(9,(28,3))],[sI 11,(.cell 9 0,.int .i64),(.cell 9 1,.sl C.link),(.cell 9 2,.sl C.slot)]⟩),(32,⟨bl 274877108215,[9],[],[sB 50]⟩)]
theorem w5f:MT 16 (z5d q8x):=w5e ⟨v54,j6o,z8i,z0d,z5a,j4j,w2g,j88,trivial⟩
def q8a(X:H4):Con Sg:=conS [.el C.register,.str,.int .i64] [.vec 142 C.forced] fun a K=>X a.1 a.2.1 a.2.2.1 (fun q0=>K (q0,()))
theorem j7d{Q3:Z9}{Ql:Q7}{Qs:Zn}{Gj:q0i}(h:AL [(31,Ha Q3),(93,Jl Ql),(94,J7 Qs),(57,z23 Gj)]):MT 59 (q8a (q7u Q3 Ql Qs Gj)):=mS h [(11,⟨bl 2064463,[0],[],[(.slot 7,.own 9 C.str),sI 21]⟩),(25,⟨bl 55842930767,[3,0],[],[(.slot 10,.own 142 C.forced),sI 36]⟩)]
theorem j7e:MT 59 (q8a q13):=j7d ⟨q3v,Wt,Um,j60,trivial⟩
end Go.En
end
noncomputable section
set_option maxRecDepth 100000
open Go Go.RowKit Go.Fl Go.Fl.Lk Go.Fx
namespace Go.En
def q5a(X:Gz):Con Sg:=conV [.el C.env,.el C.subj,.sl C.forced] [.el C.env,.el C.subj,.sl C.forced] [.ptr 214 [.str,.str,.int .i64,.sl C.decl,.sl C.seg,.sl C.flag,.sl C.layer,.sl C.exper,.sl C.ctx,.sl C.forced,.sl C.str,.map C.str C.decis,.map C.str C.bool]] [.same,.same,.same] fun a K=>X a.1 a.2.1 a.2.2.1 (fun q0 q1 q2 q3 q4 q5 q6 q7 q8 q9 q10 q11 q12=>K ((q0,q1,q2,q3,q4,q5,q6,q7,q8,q9,q10,q11,q12,()),()) ((),(),(),()))
theorem j4k{Q9:J4}(h:AL [(106,Rs Q9)]):MT 90 (q5a (q42 Q9)):=mP (rk:=[.ptr 214 [.c,.c,.c,.c,.c,.c,.c,.c,.c,.c,.sl C.str,.map C.str C.decis,.map C.str C.bool]]) h []
theorem j4l:MT 90 (q5a Bx):=j4k ⟨z09,trivial⟩
def q2l(X:V0):Con Sg:=conV [.ptr 214 [.c,.c,.c,.c,.c,.c,.c,.c,.c,.c,.c,.map C.str C.decis,.map C.str C.bool],.v] [.ptr 214 [.str,.str,.int .i64,.sl C.decl,.sl C.seg,.sl C.flag,.sl C.layer,.sl C.exper,.sl C.ctx,.sl C.forced,.sl C.str,.map C.str C.decis,.map C.str C.bool],.str] [.el C.flag,.bool] [.ptr 214 [.same,.same,.same,.same,.same,.same,.same,.same,.same,.same,.same,.map C.str C.decis,.map C.str C.bool],.same] fun a K=>X a.1.1 a.1.2.1 a.1.2.2.1 a.1.2.2.2.1 a.1.2.2.2.2.1 a.1.2.2.2.2.2.1 a.1.2.2.2.2.2.2.1 a.1.2.2.2.2.2.2.2.1 a.1.2.2.2.2.2.2.2.2.1 a.1.2.2.2.2.2.2.2.2.2.1 a.1.2.2.2.2.2.2.2.2.2.2.1 a.1.2.2.2.2.2.2.2.2.2.2.2.1 a.1.2.2.2.2.2.2.2.2.2.2.2.2.1 a.2.1 (fun q0 q1 q2 q3=>K (q0,q1,()) (((),(),(),(),(),(),(),(),(),(),(),q2,q3,()),(),()))
theorem q9e:MT 91 (q2l Jr):=mP (rk:=[.el C.flag,.v]) (l:=[]) trivial [(120000005,⟨bl 195,[3],[],[sI 8]⟩)]
def q3k(X:Rp):Con Sg:=conS [.el C.flag,.el C.subj] [.int .i64] fun a K=>X a.1 a.2.1 (fun q0=>K (q0,()))
theorem j2r{Qt:Zu}(h:AL [(67,V7 Qt)]):MT 153 (q3k (q3a Qt)):=mS h [(181000005,⟨bl 195,[],[],[sI 8]⟩),(5,⟨bl 3599,[1,0],[],[sI 12]⟩)]
theorem j2s:MT 153 (q3k W6):=j2r ⟨Bj,trivial⟩
def R7(X:Ub):Con Sg:=conV [.ptr 214 [.c,.c,.c,.c,.c,.c,.c,.c,.c,.c,.c,.map C.str C.decis,.map C.str C.bool],.el C.exper] [.ptr 214 [.str,.str,.int .i64,.sl C.decl,.sl C.seg,.sl C.flag,.sl C.layer,.sl C.exper,.sl C.ctx,.sl C.forced,.sl C.str,.map C.str C.decis,.map C.str C.bool],.el C.exper] [.int .i64] [.ptr 214 [.same,.same,.same,.same,.same,.same,.same,.same,.same,.same,.same,.map C.str C.decis,.map C.str C.bool],.same] fun a K=>X a.1.1 a.1.2.1 a.1.2.2.1 a.1.2.2.2.1 a.1.2.2.2.2.1 a.1.2.2.2.2.2.1 a.1.2.2.2.2.2.2.1 a.1.2.2.2.2.2.2.2.1 a.1.2.2.2.2.2.2.2.2.1 a.1.2.2.2.2.2.2.2.2.2.1 a.1.2.2.2.2.2.2.2.2.2.2.1 a.1.2.2.2.2.2.2.2.2.2.2.2.1 a.1.2.2.2.2.2.2.2.2.2.2.2.2.1 a.2.1 (fun q0 q1 q2=>K (q0,()) (((),(),(),(),(),(),(),(),(),(),(),q1,q2,()),(),()))
theorem z7b{Qt:Zu}{Qq:Ji}(h:AL [(67,V7 Qt),(35,H8 Qq)]):MT 154 (R7 (R3 Qt Qq)):=mP (rk:=[.v]) h [(5,⟨bl 32267,[3,0,1,2],[],[sI 15]⟩)]
theorem z7c:MT 154 (R7 Jy):=z7b ⟨Bj,q3i,trivial⟩
def z7r(X:q97):Con Sg:=conV [.v] [.int .i64] [.str] [.same] fun a K=>X a.1 (fun q0=>K (q0,()) ((),()))
theorem j89:MT 282 (z7r q98):=⟨entB (by kernel_rfl),j8v⟩
def z3d(X:q14):Con Sg:=conS [.int .i64] [.str] fun a K=>X a.1 (fun q0=>K (q0,()))
theorem w2h{q32:q97}(h:AL [(282,z7r q32)]):MT 270 (z3d (z9y q32)):=mS h []
theorem w2i:MT 270 (z3d q54):=w2h ⟨j89,trivial⟩
def z5e(X:q4d):Con Sg:=conS [.el C.val] [.str,.bool] fun a K=>X a.1 (fun q0 q1=>K (q0,q1,()))
theorem w5g{q6t:q14}(h:AL [(270,z3d q6t)]):MT 252 (z5e (z4q q6t)):=mS h [(8,⟨bl 63,[0],[],[sB 6]⟩)]
theorem w5h:MT 252 (z5e q8y):=w5g ⟨w2i,trivial⟩
def q5b(X:G0):Con Sg:=conS [.el C.subj,.str,.str,.str] [.int .i64,.bool] fun a K=>X a.1 a.2.1 a.2.2.1 a.2.2.2.1 (fun q0 q1=>K (q0,q1,()))
theorem j4m{Je:Wn}{q9m:q4d}{Qq:Ji}(h:AL [(181,B2 Je),(252,z5e q9m),(35,H8 Qq)]):MT 233 (q5b (q43 Je q9m Qq)):=mS h []
theorem j4n:MT 233 (q5b By):=j4m ⟨z3x,w5h,q3i,trivial⟩
def q5c(X:G1):Con Sg:=conS [.el C.subj,.el C.serve] [.int .i64,.int .i64,.bool] fun a K=>X a.1 a.2.1 (fun q0 q1 q2=>K (q0,q1,q2,()))
theorem j4o{q0a:G0}{Zf:Vy}(h:AL [(233,q5b q0a),(49,q6a Zf)]):MT 196 (q5c (q44 q0a Zf)):=mS h []
theorem j4p:MT 196 (q5c Bz):=j4o ⟨j4n,z2z,trivial⟩
def q0q(X:Ga):Con Sg:=conV [.ptr 214 [.c,.c,.c,.c,.c,.c,.c,.c,.c,.c,.c,.map C.str C.decis,.map C.str C.bool],.el C.flag,.el C.serve,.el C.reason] [.ptr 214 [.str,.str,.int .i64,.sl C.decl,.sl C.seg,.sl C.flag,.sl C.layer,.sl C.exper,.sl C.ctx,.sl C.forced,.sl C.str,.map C.str C.decis,.map C.str C.bool],.el C.flag,.el C.serve,.el C.reason] [.int .i64,.el C.reason] [.ptr 214 [.same,.same,.same,.same,.same,.same,.same,.same,.same,.same,.same,.map C.str C.decis,.map C.str C.bool],.same,.same,.same] fun a K=>X a.1.1 a.1.2.1 a.1.2.2.1 a.1.2.2.2.1 a.1.2.2.2.2.1 a.1.2.2.2.2.2.1 a.1.2.2.2.2.2.2.1 a.1.2.2.2.2.2.2.2.1 a.1.2.2.2.2.2.2.2.2.1 a.1.2.2.2.2.2.2.2.2.2.1 a.1.2.2.2.2.2.2.2.2.2.2.1 a.1.2.2.2.2.2.2.2.2.2.2.2.1 a.1.2.2.2.2.2.2.2.2.2.2.2.2.1 a.2.1 a.2.2.1 a.2.2.2.1 (fun q0 q1 q2 q3=>K (q0,q1,()) (((),(),(),(),(),(),(),(),(),(),(),q2,q3,()),(),(),(),()))
theorem z8u{q0b:G1}(h:AL [(196,q5c q0b)]):MT 155 (q0q (q0k q0b)):=mP (rk:=[.v,.el C.reason]) h []
theorem z8v:MT 155 (q0q J6):=z8u ⟨j4p,trivial⟩
def q5g(X:Z7):Con Sg:=conV [.ptr 214 [.c,.c,.c,.c,.c,.c,.c,.c,.c,.c,.c,.map C.str C.decis,.map C.str C.bool],.el C.flag] [.ptr 214 [.str,.str,.int .i64,.sl C.decl,.sl C.seg,.sl C.flag,.sl C.layer,.sl C.exper,.sl C.ctx,.sl C.forced,.sl C.str,.map C.str C.decis,.map C.str C.bool],.el C.flag] [.el C.decis] [.ptr 214 [.same,.same,.same,.same,.same,.same,.same,.same,.same,.same,.same,.map C.str C.decis,.map C.str C.bool],.same] fun a K=>X a.1.1 a.1.2.1 a.1.2.2.1 a.1.2.2.2.1 a.1.2.2.2.2.1 a.1.2.2.2.2.2.1 a.1.2.2.2.2.2.2.1 a.1.2.2.2.2.2.2.2.1 a.1.2.2.2.2.2.2.2.2.1 a.1.2.2.2.2.2.2.2.2.2.1 a.1.2.2.2.2.2.2.2.2.2.2.1 a.1.2.2.2.2.2.2.2.2.2.2.2.1 a.1.2.2.2.2.2.2.2.2.2.2.2.2.1 a.2.1 (fun q0 q1 q2=>K (q0,()) (((),(),(),(),(),(),(),(),(),(),(),q1,q2,()),(),()))
theorem z7d:MT 92 (q5g Uc):=by
 show MT _ (conV ([.ptr 214 [.c,.c,.c,.c,.c,.c,.c,.c,.c,.c,.c,.map C.str C.decis,.map C.str C.bool],.el C.flag]:LP) ([.ptr 214 [.str,.str,.int .i64,.sl C.decl,.sl C.seg,.sl C.flag,.sl C.layer,.sl C.exper,.sl C.ctx,.sl C.forced,.sl C.str,.map C.str C.decis,.map C.str C.bool],.el C.flag]:LV) ([.el C.decis]:LV) ([.ptr 214 [.same,.same,.same,.same,.same,.same,.same,.same,.same,.same,.same,.map C.str C.decis,.map C.str C.bool],.same]:LV) fun a K=>Uc a.1.1 a.1.2.1 a.1.2.2.1 a.1.2.2.2.1 a.1.2.2.2.2.1 a.1.2.2.2.2.2.1 a.1.2.2.2.2.2.2.1 a.1.2.2.2.2.2.2.2.1 a.1.2.2.2.2.2.2.2.2.1 a.1.2.2.2.2.2.2.2.2.2.1 a.1.2.2.2.2.2.2.2.2.2.2.1 a.1.2.2.2.2.2.2.2.2.2.2.2.1 a.1.2.2.2.2.2.2.2.2.2.2.2.2.1 a.2.1 (fun q0 q1 q2=>K (q0,()) (((),(),(),(),(),(),(),(),(),(),(),q1,q2,()),(),())))
 exact mQ (l:=[(122,q2c Jo),(91,q2l Jr),(153,q3k W6),(29,Bk W2),(154,R7 Jy),(105,q59 Vw),(155,q0q J6)]) (u:=4) (rk:=[.el C.decis]) ⟨q57,q9e,j2s,z0d,z7c,z2y,z8v,trivial⟩ (by kernel_rfl) [(122000009,⟨bl 14909483,[9],[(10,(67,4)),(0,(214,13))],[sI 24,(.cell 10 0,.int .i64),(.cell 10 1,.int .i64),(.cell 10 2,.str),(.cell 10 3,.int .i64),(.obj 2,.map C.str C.bool),(.obj 1,.map C.str C.decis)]⟩),(122000027,⟨bl 2269884306126242091,[9],[(10,(67,4)),(0,(214,13))],[sI 61,(.cell 10 0,.int .i64),(.cell 10 1,.int .i64),(.cell 10 2,.str),(.cell 10 3,.int .i64),(.obj 1,.map C.str C.decis),(.obj 2,.map C.str C.bool)]⟩),(122000043,⟨bl 18173039004871905887270070919594283,[9],[(10,(67,4)),(0,(214,13))],[sI 114,(.cell 10 0,.int .i64),(.cell 10 1,.int .i64),(.cell 10 2,.str),(.cell 10 3,.int .i64),(.obj 2,.map C.str C.bool),(.obj 1,.map C.str C.decis)]⟩),(20,⟨bl 131067,[4,3],[(5,(69,11)),(0,(214,13))],[(.cell 5 0,.str),(.cell 5 1,.int .i64),(.cell 5 2,.int .i64),(.cell 5 3,.int .i64),(.cell 5 4,.str),(.cell 5 5,.sl C.str),(.cell 5 6,.int .i64),(.cell 5 7,.int .i64),(.cell 5 8,.str),(.cell 5 9,.int .i64),(.cell 5 10,.int .i64),(.obj 1,.map C.str C.decis),(.obj 2,.map C.str C.bool)]⟩),(16,⟨bl 68719476731,[10,1,2,0,9],[(5,(69,11))],[(.cell 5 2,.int .i64),(.cell 5 3,.int .i64),(.cell 5 4,.str),(.cell 5 5,.sl C.str)]⟩)] (fun X a K=>R4 Jo Jr W6 W2 Jy Vw J6 (fun salt hkind hold attrs segs flags layers expers ctxs fs inn done opn f K=>X ((salt,hkind,hold,attrs,segs,flags,layers,expers,ctxs,fs,inn,done,opn,()),f,()) fun r o=>K r.1 o.1.2.2.2.2.2.2.2.2.2.2.2.1 o.1.2.2.2.2.2.2.2.2.2.2.2.2.1) a.1.1 a.1.2.1 a.1.2.2.1 a.1.2.2.2.1 a.1.2.2.2.2.1 a.1.2.2.2.2.2.1 a.1.2.2.2.2.2.2.1 a.1.2.2.2.2.2.2.2.1 a.1.2.2.2.2.2.2.2.2.1 a.1.2.2.2.2.2.2.2.2.2.1 a.1.2.2.2.2.2.2.2.2.2.2.1 a.1.2.2.2.2.2.2.2.2.2.2.2.1 a.1.2.2.2.2.2.2.2.2.2.2.2.2.1 a.2.1 (fun q0 q1 q2=>K (q0,()) (((),(),(),(),(),(),(),(),(),(),(),q1,q2,()),(),()))) (fun _ _ _=>by kernel_rfl) fun a K h X hX=>h (fun salt hkind hold attrs segs flags layers expers ctxs fs inn done opn f K=>X ((salt,hkind,hold,attrs,segs,flags,layers,expers,ctxs,fs,inn,done,opn,()),f,()) fun r o=>K r.1 o.1.2.2.2.2.2.2.2.2.2.2.2.1 o.1.2.2.2.2.2.2.2.2.2.2.2.2.1) fun salt hkind hold attrs segs flags layers expers ctxs fs inn done opn f K hs=>hX ((salt,hkind,hold,attrs,segs,flags,layers,expers,ctxs,fs,inn,done,opn,()),f,()) (fun r o=>K r.1 o.1.2.2.2.2.2.2.2.2.2.2.2.1 o.1.2.2.2.2.2.2.2.2.2.2.2.2.1) hs
def q8b(X:H5):Con Sg:=conS [.el C.env,.el C.subj,.sl C.forced,.str] [.el C.decis,.int .i64] fun a K=>X a.1 a.2.1 a.2.2.1 a.2.2.2.1 (fun q0 q1=>K (q0,q1,()))
theorem j7f{q0c:Gz}{Wj:V0}{Ug:Z7}(h:AL [(90,q5a q0c),(91,q2l Wj),(92,q5g Ug)]):MT 58 (q8b (q7v q0c Wj Ug)):=mS h []
theorem j7g:MT 58 (q8b q15):=j7f ⟨j4l,q9e,z7d,trivial⟩
end Go.En
end
noncomputable section
set_option maxRecDepth 100000
open Go Go.RowKit Go.Fl Go.Fl.Lk Go.Fx
namespace Go.En
def z0h(X:Bg):Con Sg:=conS [.el C.register,.el C.env,.el C.subj,.str,.str,.int .i64] [.el C.decis,.int .i64] fun a K=>X a.1 a.2.1 a.2.2.1 a.2.2.2.1 a.2.2.2.2.1 a.2.2.2.2.2.1 (fun q0 q1=>K (q0,q1,()))
theorem j9a{q2x:H4}{q2y:H5}(h:AL [(59,q8a q2x),(58,q8b q2y)]):MT 22 (z0h (q99 q2x q2y)):=mS h []
theorem j9b:MT 22 (z0h q3s):=j9a ⟨j7e,j7g,trivial⟩
def j5f(X:z2b):Con Sg:=conS [.sl C.str,.str] [.sl C.str] fun a K=>X a.1 a.2.1 (fun q0=>K (q0,()))
theorem w2j:MT 63 (j5f q8z):=mS (l:=[]) trivial [(5,⟨[0,1,4],[],[],[sI 5]⟩)]
def z5f(X:q4e):Con Sg:=conS [.el C.register,.str,.int .i64] [.vec 142 C.forced] fun a K=>X a.1 a.2.1 a.2.2.1 (fun q0=>K (q0,()))
theorem w5i{q2z:z2b}{q6r:z13}(h:AL [(63,j5f q2z),(37,j5e q6r)]):MT 25 (z5f (z4r q2z q6r)):=mS h [(7,⟨bl 79,[0],[],[(.slot 7,.sl C.str),sI 8]⟩),(17,⟨bl 254415,[0],[],[(.slot 9,.own 142 C.forced),sI 10]⟩)]
theorem w5j:MT 25 (z5f q80):=w5i ⟨w2j,v0f,trivial⟩
def z5g(X:q4f):Con Sg:=conS [.el C.env,.str] [.int .i64] fun a K=>X a.1 a.2.1 (fun q0=>K (q0,()))
theorem j3o:MT 60 (z5g H6):=mS (l:=[]) trivial [(5,⟨[0,1,2],[0],[],[sI 5]⟩)]
def w0a(X:z6d):Con Sg:=conS [.sl C.seg] [.vec 9 C.str] fun a K=>X a.1 (fun q0=>K (q0,()))
theorem v19:MT 169 (w0a j17):=mS (l:=[]) trivial [(7,⟨[0,2],[],[],[(.slot 3,.own 9 C.str),sI 4]⟩)]
def j3p(X:H7):Con Sg:=conV [.sl C.str,.el C.ex] [.sl C.str,.el C.ex] [.sl C.str] [.same,.same] fun a K=>X a.1 a.2.1 (fun q0=>K (q0,()) ((),(),()))
theorem w5k:MT 235 (j3p q81):=by
 show MT _ (conV ([.sl C.str,.el C.ex]:LP) ([.sl C.str,.el C.ex]:LV) ([.sl C.str]:LV) ([.same,.same]:LV) fun a K=>q81 a.1 a.2.1 (fun q0=>K (q0,()) ((),(),())))
 exact mQ (l:=[(63,j5f q8z)]) (u:=4) (rk:=[.sl C.str]) ⟨w2j,trivial⟩ (by kernel_rfl) [(6,⟨[1,3,4],[0],[],[(.slot 0,.sl C.str)]⟩),(9,⟨[1,3,4],[0],[],[(.slot 0,.sl C.str),sI 5]⟩)] (fun X a K=>z4s q8z (fun l e K=>X (l,e,()) fun r _=>K r.1) a.1 a.2.1 (fun q0=>K (q0,()) ((),(),()))) (fun _ _ _=>by kernel_rfl) fun a K h X hX=>h (fun l e K=>X (l,e,()) fun r _=>K r.1) fun l e K hs=>hX (l,e,()) (fun r _=>K r.1) hs
def z5h(X:q4g):Con Sg:=conS [.el C.ex] [.sl C.str] fun a K=>X a.1 (fun q0=>K (q0,()))
theorem w5l{q9n:H7}(h:AL [(235,j3p q9n)]):MT 204 (z5h (z4t q9n)):=mS h []
theorem w5m:MT 204 (z5h q82):=w5l ⟨w5k,trivial⟩
def z8w(X:q7w):Con Sg:=conS [.sl C.seg] [.vec 297 C.edge] fun a K=>X a.1 (fun q0=>K (q0,()))
theorem w8d{q9o:q4g}(h:AL [(204,z5h q9o)]):MT 170 (z8w (z8b q9o)):=mS h [(7,⟨[0,2],[],[],[(.slot 3,.own 297 C.edge),sI 4]⟩),(15,⟨bl 518069,[],[],[(.slot 3,.own 297 C.edge),sI 6]⟩)]
theorem w8e:MT 170 (z8w z2c):=w8d ⟨w5m,trivial⟩
def j2t(X:z0y):Con Sg:=conS [.sl C.str,.sl C.edge,.str] [.bool] fun a K=>X a.1 a.2.1 a.2.2.1 (fun q0=>K (q0,()))
theorem v2a{Qz:Ws}(h:AL [(113,q3w Qz)]):MT 203 (j2t (j18 Qz)):=mS h [(5,⟨[0,1,2],[],[],[sI 7]⟩)]
theorem v2b:MT 203 (j2t z6e):=v2a ⟨q6d,trivial⟩
def j2u(X:z0z):Con Sg:=conS [.sl C.str,.sl C.edge] [.vec 9 C.str,.int .i64] fun a K=>X a.1 a.2.1 (fun q0 q1=>K (q0,q1,()))
theorem v2c{Qz:Ws}{z60:z0y}(h:AL [(113,q3w Qz),(203,j2t z60)]):MT 168 (j2u (j19 Qz z60)):=mS h [(5,⟨[0,1],[],[],[sI 6]⟩),(15,⟨bl 61507,[],[],[sI 7]⟩),(25,⟨bl 1006694595,[],[],[(.slot 8,.own 9 C.str)]⟩),(31,⟨bl 34902898118816195,[],[],[(.slot 9,.str),sB 10,sI 11,(.obj 2,.own 9 C.str)]⟩)]
theorem v2d:MT 168 (j2u z6f):=v2c ⟨q6d,v2b,trivial⟩
def z8x(X:q7x):Con Sg:=conS [.sl C.seg] [.vec 9 C.str,.int .i64] fun a K=>X a.1 (fun q0 q1=>K (q0,q1,()))
theorem w8f{z61:z6d}{z3k:q7w}{z62:z0z}(h:AL [(169,w0a z61),(170,z8w z3k),(168,j2u z62)]):MT 125 (z8x (z8c z61 z3k z62)):=mS h []
theorem w8g:MT 125 (z8x z2d):=w8f ⟨v19,w8e,v2d,trivial⟩
def q8c(X:V1):Con Sg:=conS [.el C.subj,.str] [.el C.ctx,.bool] fun a K=>X a.1 a.2.1 (fun q0 q1=>K (q0,q1,()))
theorem z1a:MT 171 (q8c q16):=mS (l:=[]) trivial [(5,⟨bl 23,[0],[(1,(135,3))],[sI 6,(.cell 1 0,.str),(.cell 1 1,.str),(.cell 1 2,.sl C.attr)]⟩)]
end Go.En
end
noncomputable section
set_option maxRecDepth 100000
open Go Go.RowKit Go.Fl Go.Fl.Lk Go.Fx
namespace Go.En
def z3e(X:q0l):Con Sg:=conS [.el C.subj,.str,.str] [.el C.val,.bool] fun a K=>X a.1 a.2.1 a.2.2.1 (fun q0 q1=>K (q0,q1,()))
theorem w8h{Zg:V1}(h:AL [(171,q8c Zg)]):MT 208 (z3e (z8d Zg)):=mS h [(15,⟨bl 3668815,[2,0],[(1,(65,4))],[sI 10,(.cell 1 0,.int .i64),(.cell 1 1,.int .i64),(.cell 1 2,.str),(.cell 1 3,.sl C.str)]⟩)]
theorem j7h:MT 208 (z3e q7y):=w8h ⟨z1a,trivial⟩
def j7i(X:z2e):Con Sg:=conS [.int .i64] [.bool] fun a K=>X a.1 (fun q0=>K (q0,()))
theorem w8i:MT 209 (j7i z2f):=mS (l:=[]) trivial []
def w5n(X:z9z):Con Sg:=conS [.sl C.str,.sl C.str] [.bool] fun a K=>X a.1 a.2.1 (fun q0=>K (q0,()))
theorem v55:MT 236 (w5n z90):=mS (l:=[]) trivial [(9,⟨bl 1987,[],[],[sI 5]⟩)]
def j2v(X:z00):Con Sg:=conS [.el C.val,.el C.val] [.bool] fun a K=>X a.1 a.2.1 (fun q0=>K (q0,()))
theorem v2e{j1f:z9z}(h:AL [(236,w5n j1f)]):MT 210 (j2v (j2a j1f)):=mS h []
theorem v2f:MT 210 (j2v z01):=v2e ⟨v55,trivial⟩
def z5i(X:q0v):Con Sg:=conS [.str,.str,.int .i64] [.bool] fun a K=>X a.1 a.2.1 a.2.2.1 (fun q0=>K (q0,()))
theorem j3q:MT 211 (z5i q4h):=mS (l:=[]) trivial []
def z0i(X:Bh):Con Sg:=conS [.el C.val,.el C.val] [.bool] fun a K=>X a.1 a.2.1 (fun q0=>K (q0,()))
theorem j9c{Qz:Ws}{W4:q0v}(h:AL [(113,q3w Qz),(211,z5i W4)]):MT 212 (z0i (z0a Qz W4)):=mS h [(13,⟨bl 4047,[1,0],[],[sI 5]⟩)]
theorem j9d:MT 212 (z0i q3t):=j9c ⟨q6d,j3q,trivial⟩
def w0b(X:z6g):Con Sg:=conS [.el C.val] [.bool] fun a K=>X a.1 (fun q0=>K (q0,()))
theorem v2g:MT 253 (w0b z6h):=mS (l:=[]) trivial []
def z6q(X:q3b):Con Sg:=conS [.str] [.bool] fun a K=>X a.1 (fun q0=>K (q0,()))
theorem v2h{Zy:Vt}(h:AL [(262,q2g Zy)]):MT 254 (z6q (j2b Zy)):=mS h [(9,⟨bl 4081,[],[],[sI 3]⟩)]
theorem w0c:MT 254 (z6q z02):=v2h ⟨q9c,trivial⟩
def z34(X:B0):Con Sg:=conS [.str] [.int .i64,.int .i64] fun a K=>X a.1 (fun q0 q1=>K (q0,q1,()))
theorem j4q:MT 256 (z34 G3):=mS (l:=[]) trivial [(8,⟨bl 269,[],[],[(.slot 4,.str)]⟩),(11,⟨[0,4,8],[],[],[sI 5]⟩),(31,⟨bl 562915601547569,[],[],[sI 6,sI 7]⟩)]
def z6r(X:q3c):Con Sg:=conS [.str] [.el C.a3,.bool] fun a K=>X a.1 (fun q0 q1=>K (q0,q1,()))
theorem v2i{G6:B0}(h:AL [(256,z34 G6)]):MT 239 (z6r (j2c G6)):=mS h [(9,⟨[0,2,4],[],[(1,(325,3)),(0,(325,3))],[sI 5,sI 6,(.cell 1 0,.int .i64),(.cell 1 1,.int .i64),(.cell 1 2,.int .i64),(.cell 0 0,.int .i64),(.cell 0 1,.int .i64),(.cell 0 2,.int .i64)]⟩),(15,⟨bl 19669,[1,0],[],[sI 5]⟩)]
theorem w0d:MT 239 (z6r z03):=v2i ⟨j4q,trivial⟩
def j7j(X:z4u):Con Sg:=conS [.sl C.str] [.int .i64] fun a K=>X a.1 (fun q0=>K (q0,()))
theorem v56{Ry:q3b}(h:AL [(254,z6q Ry)]):MT 255 (j7j (j6j Ry)):=mS h [(9,⟨bl 225,[],[],[sI 3]⟩),(19,⟨bl 4073,[],[],[sI 4]⟩)]
theorem v57:MT 255 (j7j z91):=v56 ⟨w0c,trivial⟩
def j2w(X:z04):Con Sg:=conS [.el C.val] [.int .i64] fun a K=>X a.1 (fun q0=>K (q0,()))
theorem v2j{z63:z6g}{Ry:q3b}{Hc:q3c}{j1g:z4u}(h:AL [(253,w0b z63),(254,z6q Ry),(239,z6r Hc),(255,j7j j1g)]):MT 237 (j2w (j2d z63 Ry Hc j1g)):=mS h []
theorem v2k:MT 237 (j2w z6i):=v2j ⟨v2g,w0c,w0d,v57,trivial⟩
end Go.En
end
noncomputable section
set_option maxRecDepth 100000
open Go Go.RowKit Go.Fl Go.Fl.Lk Go.Fx
namespace Go.En
def w5o(X:z92):Con Sg:=conS [.bool,.bool] [.int .i64] fun a K=>X a.1 a.2.1 (fun q0=>K (q0,()))
theorem v58:MT 238 (w5o z05):=mS (l:=[]) trivial []
def z5j(X:q4i):Con Sg:=conS [.el C.val,.el C.val] [.int .i64,.int .i64] fun a K=>X a.1 a.2.1 (fun q0 q1=>K (q0,q1,()))
theorem w5p{z1e:z04}{Qb:z92}{Hc:q3c}(h:AL [(237,j2w z1e),(238,w5o Qb),(239,z6r Hc)]):MT 213 (z5j (z4v z1e Qb Hc)):=mS h [(35,⟨bl 302157694953358261874639,[4,2,1,0],[],[sI 12]⟩)]
theorem w5q:MT 213 (z5j q4j):=w5p ⟨v2k,v58,w0d,trivial⟩
def j2x(X:z6j):Con Sg:=conS [.el C.subj,.el C.ex] [.bool] fun a K=>X a.1 a.2.1 (fun q0=>K (q0,()))
theorem v2l{Gn:q0l}{z3l:z2e}{q66:z00}{W4:q0v}{Bo:Bh}{q4p:q4i}(h:AL [(208,z3e Gn),(209,j7i z3l),(210,j2v q66),(211,z5i W4),(212,z0i Bo),(213,z5j q4p)]):MT 177 (j2x (j2e Gn z3l q66 W4 Bo q4p)):=mS h [(17,⟨bl 34359734383,[2,1,0],[],[sI 7]⟩)]
theorem v2m:MT 177 (j2x q62):=v2l ⟨j7h,w8i,v2f,j3q,j9d,w5q,trivial⟩
def z6s(X:G9):Con Sg:=conV [.el C.subj,.sl C.str,.el C.ex] [.el C.subj,.sl C.str,.el C.ex] [.bool] [.same,.same,.same] fun a K=>X a.1 a.2.1 a.2.2.1 (fun q0=>K (q0,()) ((),(),(),()))
theorem j2y:MT 132 (z6s q0w):=by
 show MT _ (conV ([.el C.subj,.sl C.str,.el C.ex]:LP) ([.el C.subj,.sl C.str,.el C.ex]:LV) ([.bool]:LV) ([.same,.same,.same]:LV) fun a K=>q0w a.1 a.2.1 a.2.2.1 (fun q0=>K (q0,()) ((),(),(),())))
 exact mQ (l:=[(113,q3w Hk),(177,j2x q62)]) (u:=4) (rk:=[.v]) ⟨q6d,v2m,trivial⟩ (by kernel_rfl) [(13,⟨bl 32303,[1,0],[],[sI 7]⟩),(27,⟨bl 6442483247,[1,0],[],[sI 8]⟩)] (fun X a K=>j2f Hk q62 (fun s in_ e K=>X (s,in_,e,()) fun r _=>K r.1) a.1 a.2.1 a.2.2.1 (fun q0=>K (q0,()) ((),(),(),()))) (fun _ _ _=>by kernel_rfl) fun a K h X hX=>h (fun s in_ e K=>X (s,in_,e,()) fun r _=>K r.1) fun s in_ e K hs=>hX (s,in_,e,()) (fun r _=>K r.1) hs
def z5k(X:q4k):Con Sg:=conS [.el C.seg,.el C.subj,.sl C.str] [.bool] fun a K=>X a.1 a.2.1 a.2.2.1 (fun q0=>K (q0,()))
theorem w5r{Zg:V1}{Qz:Ws}{Uo:G9}(h:AL [(171,q8c Zg),(113,q3w Qz),(132,z6s Uo)]):MT 126 (z5k (z4w Zg Qz Uo)):=mS h []
theorem w5s:MT 126 (z5k q83):=w5r ⟨z1a,q6d,j2y,trivial⟩
def q6e(X:Gb):Con Sg:=conS [.sl C.seg,.el C.subj] [.sl C.str] fun a K=>X a.1 a.2.1 (fun q0=>K (q0,()))
theorem w2k{z3m:q7x}{q9p:q4k}{q2z:z2b}(h:AL [(125,z8x z3m),(126,z5k q9p),(63,j5f q2z)]):MT 95 (q6e (z2g z3m q9p q2z)):=mS h [(9,⟨bl 31867,[1,0],[],[(.slot 7,.sl C.str),sI 8]⟩),(15,⟨bl 449883,[],[],[(.slot 7,.sl C.str),sI 9]⟩)]
theorem j0p:MT 95 (q6e Rq):=w2k ⟨w8g,w5s,w2j,trivial⟩
def z8y(X:q7z):Con Sg:=conV [.el C.env,.el C.subj,.sl C.forced] [.el C.env,.el C.subj,.sl C.forced] [.ptr 189 [.str,.str,.int .i64,.sl C.decl,.sl C.seg,.sl C.flag,.sl C.layer,.sl C.exper,.sl C.ctx,.sl C.forced,.sl C.str,.vec 4 C.bool,.vec 69 C.decis]] [.same,.same,.same] fun a K=>X a.1 a.2.1 a.2.2.1 (fun q0 q1 q2 q3 q4 q5 q6 q7 q8 q9 q10 q11 q12=>K ((q0,q1,q2,q3,q4,q5,q6,q7,q8,q9,q10,q11,q12,()),()) ((),(),(),()))
theorem w8j{Z4:Gb}(h:AL [(95,q6e Z4)]):MT 61 (z8y (z8e Z4)):=mP (rk:=[.ptr 189 [.c,.c,.c,.c,.c,.c,.c,.c,.c,.c,.sl C.str,.own 4 C.bool,.own 69 C.decis]]) h []
theorem w8k:MT 61 (z8y z2h):=w8j ⟨j0p,trivial⟩
def j2z(X:z06):Con Sg:=conS [.el C.flag,.int .i64,.el C.reason] [.el C.decis] fun a K=>X a.1 a.2.1 a.2.2.1 (fun q0=>K (q0,()))
theorem w0e:MT 127 (j2z q0x):=mS (l:=[]) trivial []
def z5l(X:q84):Con Sg:=conS [.el C.flag,.el C.subj] [.int .i64] fun a K=>X a.1 a.2.1 (fun q0=>K (q0,()))
theorem w5t{Zg:V1}{Qz:Ws}(h:AL [(171,q8c Zg),(113,q3w Qz)]):MT 129 (z5l (z4x Zg Qz)):=mS h [(5,⟨bl 15,[1,0],[],[sI 5]⟩)]
theorem w5u:MT 129 (z5l q0y):=w5t ⟨z1a,q6d,trivial⟩
def z3f(X:Rr):Con Sg:=conS [.el C.env,.str] [.int .i64] fun a K=>X a.1 a.2.1 (fun q0=>K (q0,()))
theorem j0q:MT 172 (z3f q17):=mS (l:=[]) trivial [(5,⟨[0,1,2],[0],[],[sI 5]⟩)]
def j3r(X:q85):Con Sg:=conS [.sl C.forced,.str] [.el C.forced,.bool] fun a K=>X a.1 a.2.1 (fun q0 q1=>K (q0,q1,()))
theorem w5v:MT 205 (j3r q86):=mS (l:=[]) trivial [(5,⟨[0,1,4],[],[(0,(142,3))],[sI 6,(.cell 0 0,.str),(.cell 0 1,.str),(.cell 0 2,.int .i64)]⟩)]
def q2m(X:Wh):Con Sg:=conS [.el C.env,.str] [.int .i64] fun a K=>X a.1 a.2.1 (fun q0=>K (q0,()))
theorem q9f:MT 206 (q2m Wi):=mS (l:=[]) trivial [(5,⟨[0,1,2],[0],[],[sI 5]⟩)]
end Go.En
end
noncomputable section
set_option maxRecDepth 100000
open Go Go.RowKit Go.Fl Go.Fl.Lk Go.Fx
namespace Go.En
def j3s(X:q87):Con Sg:=conS [.sl C.range,.int .i64] [.bool] fun a K=>X a.1 a.2.1 (fun q0=>K (q0,()))
theorem w5w:MT 207 (j3s q88):=mS (l:=[]) trivial [(5,⟨[0,1],[],[],[sI 5]⟩)]
def z8z(X:q70):Con Sg:=conS [.el C.env,.sl C.forced,.el C.asg] [.el C.asg,.bool] fun a K=>X a.1 a.2.1 a.2.2.1 (fun q0 q1=>K (q0,q1,()))
theorem w8l{q9q:q85}{Z0:Wh}{q9r:q87}(h:AL [(205,j3r q9q),(206,q2m Z0),(207,j3s q9r)]):MT 173 (z8z (z8f q9q Z0 q9r)):=mS h []
theorem w8m:MT 173 (z8z z2i):=w8l ⟨w5v,q9f,w5w,trivial⟩
def j20(X:z07):Con Sg:=conS [.el C.env,.el C.subj] [.bool] fun a K=>X a.1 a.2.1 (fun q0=>K (q0,()))
theorem v2n{Zg:V1}{Zi:U9}(h:AL [(171,q8c Zg),(41,q9d Zi)]):MT 174 (j20 (j2g Zg Zi)):=mS h []
theorem v2o:MT 174 (j20 z6k):=v2n ⟨z1a,z6o,trivial⟩
def j3t(X:q89):Con Sg:=conS [.sl C.span,.int .i64] [.bool] fun a K=>X a.1 a.2.1 (fun q0=>K (q0,()))
theorem w5x:MT 175 (j3t q9a):=mS (l:=[]) trivial [(5,⟨[0,1],[],[],[sI 5]⟩)]
def z0j(X:Bi):Con Sg:=conS [.el C.env,.el C.subj,.str] [.bool] fun a K=>X a.1 a.2.1 a.2.2.1 (fun q0=>K (q0,()))
theorem j9e{Z0:Wh}{Z4:Gb}{Uo:G9}(h:AL [(206,q2m Z0),(95,q6e Z4),(132,z6s Uo)]):MT 176 (z0j (z0b Z0 Z4 Uo)):=mS h []
theorem j9f:MT 176 (z0j q3u):=j9e ⟨q9f,j0p,j2y,trivial⟩
def z81(X:z2j):Con Sg:=conS [.el C.env,.el C.subj,.sl C.forced,.str] [.el C.asg,.int .i64] fun a K=>X a.1 a.2.1 a.2.2.1 a.2.2.2.1 (fun q0 q1=>K (q0,q1,()))
theorem w8n{Wy:Rr}{Zg:V1}{z3n:q70}{z64:z07}{q4q:q89}{Bp:Bi}{Zi:U9}{Jz:q0u}(h:AL [(172,z3f Wy),(171,q8c Zg),(173,z8z z3n),(174,j20 z64),(175,j3t q4q),(176,z0j Bp),(41,q9d Zi),(53,z6p Jz)]):MT 130 (z81 (z8g Wy Zg z3n z64 q4q Bp Zi Jz)):=mS h [(18,⟨bl 549738544959,[7,3,2,1,0],[(5,(105,5))],[(.cell 5 2,.int .i64)]⟩),(33,⟨bl 295129820961837808959,[10,7,3,1,0],[(5,(105,5)),(2,(105,5))],[sI 17,(.cell 5 0,.str),(.cell 5 1,.str),(.cell 5 2,.int .i64),(.cell 5 3,.int .i64),(.cell 5 4,.bool),(.cell 2 0,.str),(.cell 2 1,.str),(.cell 2 2,.int .i64),(.cell 2 3,.int .i64),(.cell 2 4,.bool)]⟩)]
theorem w8o:MT 130 (z81 q3d):=w8n ⟨j0q,z1a,w8m,v2o,w5x,j9f,z6o,j2q,trivial⟩
def q8d(X:q18):Con Sg:=conS [.el C.env,.el C.subj,.el C.exper] [.int .i64] fun a K=>X a.1 a.2.1 a.2.2.1 (fun q0=>K (q0,()))
theorem j7k{Wy:Rr}{Zg:V1}{Zi:U9}(h:AL [(172,z3f Wy),(171,q8c Zg),(41,q9d Zi)]):MT 131 (q8d (q71 Wy Zg Zi)):=mS h []
theorem j7l:MT 131 (q8d Ul):=j7k ⟨j0q,z1a,z6o,trivial⟩
def j7m(X:z2k):Con Sg:=conS [.int .i64] [.str] fun a K=>X a.1 (fun q0=>K (q0,()))
theorem w8p:MT 257 (j7m z2l):=mS (l:=[]) trivial [(9,⟨bl 980,[],[],[sI 0,(.slot 3,.str)]⟩),(16,⟨bl 16349,[],[],[sI 5]⟩)]
def j7n(X:z4y):Con Sg:=conS [.el C.val] [.str,.bool] fun a K=>X a.1 (fun q0 q1=>K (q0,q1,()))
theorem v59{z3o:z2k}(h:AL [(257,j7m z3o)]):MT 240 (j7n (j6k z3o)):=mS h [(20,⟨bl 6399,[0],[],[sB 16]⟩)]
theorem v6a:MT 240 (j7n z93):=v59 ⟨w8p,trivial⟩
def z3g(X:q19):Con Sg:=conS [.el C.subj,.str,.str,.str] [.int .i64,.bool] fun a K=>X a.1 a.2.1 a.2.2.1 a.2.2.2.1 (fun q0 q1=>K (q0,q1,()))
theorem w2l{Gn:q0l}{j1h:z4y}{Zi:U9}(h:AL [(208,z3e Gn),(240,j7n j1h),(41,q9d Zi)]):MT 214 (z3g (z2m Gn j1h Zi)):=mS h []
theorem w2m:MT 214 (z3g q55):=w2l ⟨j7h,v6a,z6o,trivial⟩
def z82(X:q72):Con Sg:=conS [.el C.subj,.el C.serve] [.int .i64,.int .i64,.bool] fun a K=>X a.1 a.2.1 (fun q0 q1 q2=>K (q0,q1,q2,()))
theorem w8q{q6u:q19}{Jz:q0u}(h:AL [(214,z3g q6u),(53,z6p Jz)]):MT 178 (z82 (z8h q6u Jz)):=mS h []
theorem w8r:MT 178 (z82 z2n):=w8q ⟨w2m,j2q,trivial⟩
def R8(X:Ud):Con Sg:=conV [.ptr 189 [.c,.c,.c,.c,.c,.c,.c,.c,.c,.c,.c,.kow 4 C.bool,.kow 69 C.decis],.el C.flag,.el C.serve,.el C.reason] [.ptr 189 [.str,.str,.int .i64,.sl C.decl,.sl C.seg,.sl C.flag,.sl C.layer,.sl C.exper,.sl C.ctx,.sl C.forced,.sl C.str,.vec 4 C.bool,.vec 69 C.decis],.el C.flag,.el C.serve,.el C.reason] [.el C.decis] [.ptr 189 [.same,.same,.same,.same,.same,.same,.same,.same,.same,.same,.same,.kvec 4 C.bool,.kvec 69 C.decis],.same,.same,.same] fun a K=>X a.1.1 a.1.2.1 a.1.2.2.1 a.1.2.2.2.1 a.1.2.2.2.2.1 a.1.2.2.2.2.2.1 a.1.2.2.2.2.2.2.1 a.1.2.2.2.2.2.2.2.1 a.1.2.2.2.2.2.2.2.2.1 a.1.2.2.2.2.2.2.2.2.2.1 a.1.2.2.2.2.2.2.2.2.2.2.1 a.1.2.2.2.2.2.2.2.2.2.2.2.1 a.1.2.2.2.2.2.2.2.2.2.2.2.2.1 a.2.1 a.2.2.1 a.2.2.2.1 (fun q0 q1 q2=>K (q0,()) (((),(),(),(),(),(),(),(),(),(),(),q1,q2,()),(),(),(),()))
theorem z7e{z3p:q72}{Vo:z06}(h:AL [(178,z82 z3p),(127,j2z Vo)]):MT 133 (R8 (R5 z3p Vo)):=mP (rk:=[.el C.decis]) h []
theorem z7f:MT 133 (R8 Z8):=z7e ⟨w8r,w0e,trivial⟩
end Go.En
end
noncomputable section
set_option maxRecDepth 100000
open Go Go.RowKit Go.Fl Go.Fl.Lk Go.Fx
namespace Go.En
def q8e(X:Jj):Con Sg:=conV [.ptr 189 [.c,.c,.c,.c,.c,.c,.c,.c,.c,.c,.c,.kow 4 C.bool,.kow 69 C.decis],.v] [.ptr 189 [.str,.str,.int .i64,.sl C.decl,.sl C.seg,.sl C.flag,.sl C.layer,.sl C.exper,.sl C.ctx,.sl C.forced,.sl C.str,.vec 4 C.bool,.vec 69 C.decis],.int .i64] [.el C.decis] [.ptr 189 [.same,.same,.same,.same,.same,.same,.same,.same,.same,.same,.same,.kvec 4 C.bool,.kvec 69 C.decis],.same] fun a K=>X a.1.1 a.1.2.1 a.1.2.2.1 a.1.2.2.2.1 a.1.2.2.2.2.1 a.1.2.2.2.2.2.1 a.1.2.2.2.2.2.2.1 a.1.2.2.2.2.2.2.2.1 a.1.2.2.2.2.2.2.2.2.1 a.1.2.2.2.2.2.2.2.2.2.1 a.1.2.2.2.2.2.2.2.2.2.2.1 a.1.2.2.2.2.2.2.2.2.2.2.2.1 a.1.2.2.2.2.2.2.2.2.2.2.2.2.1 a.2.1 (fun q0 q1 q2=>K (q0,()) (((),(),(),(),(),(),(),(),(),(),(),q1,q2,()),(),()))
theorem z83:MT 62 (q8e Gc):=by
 show MT _ (conV ([.ptr 189 [.c,.c,.c,.c,.c,.c,.c,.c,.c,.c,.c,.kow 4 C.bool,.kow 69 C.decis],.v]:LP) ([.ptr 189 [.str,.str,.int .i64,.sl C.decl,.sl C.seg,.sl C.flag,.sl C.layer,.sl C.exper,.sl C.ctx,.sl C.forced,.sl C.str,.vec 4 C.bool,.vec 69 C.decis],.int .i64]:LV) ([.el C.decis]:LV) ([.ptr 189 [.same,.same,.same,.same,.same,.same,.same,.same,.same,.same,.same,.kvec 4 C.bool,.kvec 69 C.decis],.same]:LV) fun a K=>Gc a.1.1 a.1.2.1 a.1.2.2.1 a.1.2.2.2.1 a.1.2.2.2.2.1 a.1.2.2.2.2.2.1 a.1.2.2.2.2.2.2.1 a.1.2.2.2.2.2.2.2.1 a.1.2.2.2.2.2.2.2.2.1 a.1.2.2.2.2.2.2.2.2.2.1 a.1.2.2.2.2.2.2.2.2.2.2.1 a.1.2.2.2.2.2.2.2.2.2.2.2.1 a.1.2.2.2.2.2.2.2.2.2.2.2.2.1 a.2.1 (fun q0 q1 q2=>K (q0,()) (((),(),(),(),(),(),(),(),(),(),(),q1,q2,()),(),())))
 exact mQ (l:=[(60,z5g H6),(127,j2z q0x),(129,z5l q0y),(130,z81 q3d),(131,q8d Ul),(132,z6s q0w),(133,R8 Z8)]) (u:=4) (rk:=[.el C.decis]) ⟨j3o,w0e,w5u,w8o,j7l,j2y,z7f,trivial⟩ (by kernel_rfl) [(950022,⟨[],[],[],[]⟩),(97000009,⟨bl 28699,[5],[(6,(69,11)),(0,(189,13))],[sI 5,(.cell 6 0,.str),(.cell 6 1,.int .i64),(.cell 6 2,.int .i64),(.cell 6 3,.int .i64),(.cell 6 4,.str),(.cell 6 5,.sl C.str),(.cell 6 6,.int .i64),(.cell 6 7,.int .i64),(.cell 6 8,.str),(.cell 6 9,.int .i64),(.cell 6 10,.int .i64),(.obj 2,.own 69 C.decis),(.obj 1,.own 4 C.bool)]⟩),(97000025,⟨bl 17944029797838971,[1,2,0,5],[(6,(69,11))],[sI 7,(.cell 6 0,.str),(.cell 6 1,.int .i64),(.cell 6 2,.int .i64),(.cell 6 3,.int .i64),(.cell 6 4,.str),(.cell 6 5,.sl C.str),(.cell 6 6,.int .i64),(.cell 6 7,.int .i64),(.cell 6 8,.str),(.cell 6 9,.int .i64),(.cell 6 10,.int .i64)]⟩),(97000041,⟨bl 9407857421621669163259,[5],[(6,(69,11)),(0,(189,13))],[sI 11,(.cell 6 0,.str),(.cell 6 1,.int .i64),(.cell 6 2,.int .i64),(.cell 6 3,.int .i64),(.cell 6 4,.str),(.cell 6 5,.sl C.str),(.cell 6 6,.int .i64),(.cell 6 7,.int .i64),(.cell 6 8,.str),(.cell 6 9,.int .i64),(.cell 6 10,.int .i64),(.obj 1,.own 4 C.bool),(.obj 2,.own 69 C.decis)]⟩),(8,⟨[0,1,4],[3],[(0,(189,13))],[(.obj 1,.own 4 C.bool),(.obj 2,.own 69 C.decis)]⟩)] (fun X a K=>q0m H6 q0x q0y q3d Ul q0w Z8 (fun salt hkind hold attrs segs flags layers expers ctxs fs inn done opn i K=>X ((salt,hkind,hold,attrs,segs,flags,layers,expers,ctxs,fs,inn,done,opn,()),i,()) fun r o=>K r.1 o.1.2.2.2.2.2.2.2.2.2.2.2.1 o.1.2.2.2.2.2.2.2.2.2.2.2.2.1) a.1.1 a.1.2.1 a.1.2.2.1 a.1.2.2.2.1 a.1.2.2.2.2.1 a.1.2.2.2.2.2.1 a.1.2.2.2.2.2.2.1 a.1.2.2.2.2.2.2.2.1 a.1.2.2.2.2.2.2.2.2.1 a.1.2.2.2.2.2.2.2.2.2.1 a.1.2.2.2.2.2.2.2.2.2.2.1 a.1.2.2.2.2.2.2.2.2.2.2.2.1 a.1.2.2.2.2.2.2.2.2.2.2.2.2.1 a.2.1 (fun q0 q1 q2=>K (q0,()) (((),(),(),(),(),(),(),(),(),(),(),q1,q2,()),(),()))) (fun _ _ _=>by kernel_rfl) fun a K h X hX=>h (fun salt hkind hold attrs segs flags layers expers ctxs fs inn done opn i K=>X ((salt,hkind,hold,attrs,segs,flags,layers,expers,ctxs,fs,inn,done,opn,()),i,()) fun r o=>K r.1 o.1.2.2.2.2.2.2.2.2.2.2.2.1 o.1.2.2.2.2.2.2.2.2.2.2.2.2.1) fun salt hkind hold attrs segs flags layers expers ctxs fs inn done opn i K hs=>hX ((salt,hkind,hold,attrs,segs,flags,layers,expers,ctxs,fs,inn,done,opn,()),i,()) (fun r o=>K r.1 o.1.2.2.2.2.2.2.2.2.2.2.2.1 o.1.2.2.2.2.2.2.2.2.2.2.2.2.1) hs
def j21(X:z08):Con Sg:=conS [.el C.env,.el C.subj,.sl C.forced,.str] [.el C.decis,.int .i64] fun a K=>X a.1 a.2.1 a.2.2.1 a.2.2.2.1 (fun q0 q1=>K (q0,q1,()))
theorem v2p{q01:q4f}{z3q:q7z}{Gq:Jj}(h:AL [(60,z5g q01),(61,z8y z3q),(62,q8e Gq)]):MT 24 (j21 (j2h q01 z3q Gq)):=mS h []
theorem v2q:MT 24 (j21 z6l):=v2p ⟨j3o,w8k,z83,trivial⟩
def Hl(X:q2a):Con Sg:=conS [.el C.aenv,.sl C.move,.int .u8,.int .u8,.int .u8] [.bool] fun a K=>X a.1 a.2.1 a.2.2.1 a.2.2.2.1 a.2.2.2.2.1 (fun q0=>K (q0,()))
theorem j0r{q6v:q1s}{Vh:J1}{q9s:q4c}{Jx:Vc}{q6w:q1v}{z65:z0x}{Wc:U8}{z3r:q7s}{Ve:q38}{q33:Bg}{q9t:q4e}{z66:z08}{q8m:z8a}{Za:Hr}(h:AL [(9,z27 q6v),(10,Hf Vh),(16,z5d q9s),(11,q2k Jx),(12,z3b q6w),(13,j2p z65),(14,q6c Wc),(15,z8t z3r),(23,z96 Ve),(22,z0h q33),(25,z5f q9t),(24,j21 z66),(18,w2e q8m),(19,z2o Za)]):MT 7 (Hl (q2b q6v Vh q9s Jx q6w z65 Wc z3r Ve q33 q9t z66 q8m Za)):=mS h [(16,⟨bl 17163099199,[3,1,0],[],[(.slot 13,.str),(.slot 14,.str)]⟩),(19,⟨bl 17163122751,[3,1,0],[],[sI 15]⟩)]
theorem j0s:MT 7 (Hl Js):=j0r ⟨w1w,z4a,w5f,z5b,w2d,v18,j0m,w8c,j6o,j9b,w5j,v2q,v54,z8i,trivial⟩
end Go.En
end
noncomputable section
set_option maxRecDepth 100000
namespace Go.En
open Go Go.Fl Go.Fl.Lk Go.Fx
theorem Cnd.mk{c A B:Prop}(h:c->A)(k: ¬c->B):Cnd c A B:=⟨h,k⟩
theorem getm{α:Type}{l:List α}{k:Nat}{x:α}(h:l[k]? =some x):x∈l:=List.mem_of_getElem? h
theorem sz0:(ByteArray.mk (Array.mk ([]:List UInt8))).size<=100:=by decide
theorem B3{α:Type}{P:α->Prop}{l:List α}{x:α}(h: ∀y∈l,P y)(hx:P x): ∀y∈l++[x],P y:=fun y hy=>by
 rcases List.mem_append.1 hy with hy|hy
 ·exact h y hy
 ·rw[List.mem_singleton.1 hy];exact hx
end Go.En
end
noncomputable section
set_option maxRecDepth 100000
namespace Go.En
open Go Go.Fl Go.Fl.Lk Go.Fx
abbrev S4:=Int×Int×Int×Int
def w64(x:Int):Int:=Go.IntKind.u64.wrap x
def xr(a b:Int):Int:=Go.IntKind.u64.wrap ((BitVec.ofInt 64 a ^^^ BitVec.ofInt 64 b).toNat:Int)
def rot(x n:Int):Int:=Go.IntKind.u64.wrap ((BitVec.ofInt 64 (Go.IntKind.u64.wrap (x*2 ^ Min.min n.toNat 64))|||BitVec.ofInt 64 (x.fdiv (2 ^ Min.min (Go.IntKind.u64.wrap (64 - n)).toNat 64))).toNat:Int)
def rnd(s:S4):S4:=
  (w64 (rot (w64 (s.1+s.2.1)) 32+xr (rot s.2.2.2 16) (w64 (s.2.2.1+s.2.2.2))),
   xr (rot (xr (rot s.2.1 13) (w64 (s.1+s.2.1))) 17) (w64 (w64 (s.2.2.1+s.2.2.2)+xr (rot s.2.1 13) (w64 (s.1+s.2.1)))),
   rot (w64 (w64 (s.2.2.1+s.2.2.2)+xr (rot s.2.1 13) (w64 (s.1+s.2.1)))) 32,
   xr (rot (xr (rot s.2.2.2 16) (w64 (s.2.2.1+s.2.2.2))) 21) (w64 (rot (w64 (s.1+s.2.1)) 32+xr (rot s.2.2.2 16) (w64 (s.2.2.1+s.2.2.2)))))
def rn:Nat->S4->S4
  |0,s=>s
  |k+1,s=>rnd (rn k s)
def tm(y:Int)(k:Nat):BitVec 64:=BitVec.ofInt 64 (Go.IntKind.u64.wrap (Go.IntKind.u64.wrap y*2 ^ Min.min (8*k) 64))
def wv(b:List Int)(o:Nat)(v:BitVec 64):Nat->BitVec 64
  |0=>v
  |k+1=>wv b o v k|||tm (b.getD (o+k) 0) k
def s0(k0 k1:Int):S4:=(xr k0 8317987319222330741,xr k1 7237128888997146477,xr k0 7816392313619706465,xr k1 8387220255154660723)
def topV(n:Nat):BitVec 64:=BitVec.ofInt 64 (Go.IntKind.u64.wrap (Go.IntKind.u64.wrap (n:Int)*2 ^ Min.min (Int.toNat 56) 64))
def v91(b:List Int):BitVec 64:=wv b (8*(b.length / 8)) 0 (b.length % 8)|||topV b.length
theorem j7o(x:Int):Go.IntKind.u64.wrap x=x % 18446744073709551616:=rfl
theorem y3y(x:Int):Go.IntKind.u64.wrap x=((BitVec.ofInt 64 (Go.IntKind.u64.wrap x)).toNat:Int):=by
  rw[BitVec.toNat_ofInt,j7o]
  omega
theorem j0t{n:Nat}(h:n<18446744073709551616):Go.IntKind.u64.wrap (n:Int)=n:=by
  show (n:Int) % 18446744073709551616=n
  omega
theorem v6b(v:BitVec 64):BitVec.ofInt 64 ((v.toNat:Nat):Int)=v:=by simp
theorem v92(v t:BitVec 64):Go.IntKind.u64.wrap ((BitVec.ofInt 64 ((v.toNat:Nat):Int)|||t).toNat:Int)=((v|||t).toNat:Int):=by
  rw[v6b];exact j0t (v|||t).isLt
theorem j22{x k:Int}{K:Int->Prop}(hk:k=13∨k=16∨k=17∨k=21∨k=32)(h:K (rot x k)):Uy x k K:=by
  have e:Go.IntKind.u64.wrap (↑(BitVec.ofInt 64 (Go.IntKind.u64.wrap k) &&& BitVec.ofInt 64 63).toNat:Int)=k:=by rcases hk with rfl|rfl|rfl|rfl|rfl<;>decide
  have e2:0<=Go.IntKind.u64.wrap (64 - k):=by rcases hk with rfl|rfl|rfl|rfl|rfl<;>decide
  unfold Uy
  rw[e]
  exact⟨by omega,e2,h⟩
theorem z6t{x k:Int}{K:Int->Prop}(hk:k=13∨k=16∨k=17∨k=21∨k=32)(h:K (rot x k)):z15 x k K:=by
  have e2:0<=Go.IntKind.u64.wrap (64 - k):=by rcases hk with rfl|rfl|rfl|rfl|rfl<;>decide
  unfold z15
  exact⟨by omega,e2,h⟩
theorem v6c(s:S4)(i:Int)(h:0<=i):rnd (rn i.toNat s)=rn (i+1).toNat s:=by
  rw[show (i+1).toNat=i.toNat+1 by omega];rfl
theorem v2r{a b c d n:Int}{q:Nat}{K:Int->Int->Int->Int->Prop}(hn:n=(q:Int))(h1:q<=1000)(h:K (rn q (a,b,c,d)).1 (rn q (a,b,c,d)).2.1 (rn q (a,b,c,d)).2.2.1 (rn q (a,b,c,d)).2.2.2):Zv a b c d n K:=by
  subst hn
  unfold Zv R1
  refine Lp5.ind (fun i a' b' c' d'=>0<=i/\i<=(q:Int)/\(a',b',c',d')=rn i.toNat (a,b,c,d)) (fun i _ _ _ _=>((q:Int) - i).toNat) ?_ ⟨Int.le_refl 0,by omega,rfl⟩
  rintro i a' b' c' d' ⟨i0,i1,hs⟩
  refine Cnd.mk (fun hc=>j22 (by simp) (j22 (by simp) (j22 (by simp) (j22 (by simp) (j22 (by simp) (j22 (by simp) ⟨by unfold InI;omega,⟨by omega,by omega,?_⟩,by omega⟩)))))) fun hc=> ?_
  · rw[←v6c _ _ i0,←hs];simp only[rnd,w64,xr]
  · rw[show q=i.toNat by omega,←hs] at h;exact h
theorem w5y{v:Sip}{n:Int}{q:Nat}{K:Sip->Prop}(hn:n=(q:Int))(h1:q<=1000)(h:K (Sip.mk (rn q (v.1,v.2,v.3,v.4)).1 (rn q (v.1,v.2,v.3,v.4)).2.1 (rn q (v.1,v.2,v.3,v.4)).2.2.1 (rn q (v.1,v.2,v.3,v.4)).2.2.2)):Jc v n K:=by
  subst hn
  unfold Jc q41
  refine Lp5.ind (fun i a' b' c' d'=>0<=i/\i<=(q:Int)/\(a',b',c',d')=rn i.toNat (v.1,v.2,v.3,v.4)) (fun i _ _ _ _=>((q:Int) - i).toNat) ?_ ⟨Int.le_refl 0,by omega,rfl⟩
  rintro i a' b' c' d' ⟨i0,i1,hs⟩
  refine Cnd.mk (fun hc=>z6t (by simp) (z6t (by simp) (z6t (by simp) (z6t (by simp) (z6t (by simp) (z6t (by simp) ⟨by unfold InI;omega,⟨by omega,by omega,?_⟩,by omega⟩)))))) fun hc=> ?_
  · rw[←v6c _ _ i0,←hs];simp only[rnd,w64,xr]
  · rw[show q=i.toNat by omega,←hs] at h;exact h
theorem exR: ∃R:Nat->S4->S4,(∀(a b c d n:Int) (q:Nat) (K:Int->Int->Int->Int->Prop),n=(q:Int)->q<=1000->K (R q (a,b,c,d)).1 (R q (a,b,c,d)).2.1 (R q (a,b,c,d)).2.2.1 (R q (a,b,c,d)).2.2.2->Zv a b c d n K)/\
    ∀(v:Sip) (n:Int) (q:Nat) (K:Sip->Prop),n=(q:Int)->q<=1000->K (Sip.mk (R q (v.1,v.2,v.3,v.4)).1 (R q (v.1,v.2,v.3,v.4)).2.1 (R q (v.1,v.2,v.3,v.4)).2.2.1 (R q (v.1,v.2,v.3,v.4)).2.2.2)->Jc v n K:=
  ⟨rn,fun _ _ _ _ _ _ _ hn hq h=>v2r hn hq h,fun _ _ _ _ hn hq h=>w5y hn hq h⟩
def RR:Nat->S4->S4:=Classical.choose exR
theorem w5z{a b c d n:Int}{q:Nat}{K:Int->Int->Int->Int->Prop}(hn:n=(q:Int))(h1:q<=1000)(h:K (RR q (a,b,c,d)).1 (RR q (a,b,c,d)).2.1 (RR q (a,b,c,d)).2.2.1 (RR q (a,b,c,d)).2.2.2):Zv a b c d n K:=(Classical.choose_spec exR).1 a b c d n q K hn h1 h
theorem j7p{v:Sip}{n:Int}{q:Nat}{K:Sip->Prop}(hn:n=(q:Int))(h1:q<=1000)(h:K (Sip.mk (RR q (v.1,v.2,v.3,v.4)).1 (RR q (v.1,v.2,v.3,v.4)).2.1 (RR q (v.1,v.2,v.3,v.4)).2.2.1 (RR q (v.1,v.2,v.3,v.4)).2.2.2)):Jc v n K:=(Classical.choose_spec exR).2 v n q K hn h1 h
def wds(s:S4)(m:Int):S4:=(xr (RR 2 (s.1,s.2.1,s.2.2.1,xr s.2.2.2 m)).1 m,(RR 2 (s.1,s.2.1,s.2.2.1,xr s.2.2.2 m)).2)
def blks(b:List Int)(k0 k1:Int):Nat->S4
  |0=>s0 k0 k1
  |i+1=>wds (blks b k0 k1 i) ((wv b (8*i) 0 8).toNat:Int)
def fin4(s:S4):S4:=RR 4 (s.1,s.2.1,xr s.2.2.1 255,s.2.2.2)
def endV(s:S4):Int:=xr (xr (xr (fin4 s).1 (fin4 s).2.1) (fin4 s).2.2.1) (fin4 s).2.2.2
def sumV(k0 k1:Int)(b:List Int):Int:=
  endV (wds (blks b k0 k1 (b.length / 8)) ((v91 b).toNat:Int))
theorem v6d{a b c d m:Int}{K:Int->Int->Int->Int->Prop}(h:K (wds (a,b,c,d) m).1 (wds (a,b,c,d) m).2.1 (wds (a,b,c,d) m).2.2.1 (wds (a,b,c,d) m).2.2.2):Hh a b c d m K:=by
  unfold Hh q08
  simp only[wds,xr] at h
  exact w5z (q:=2) rfl (by decide) h
theorem y3z{s:S4}{K:Int->Prop}(h:K (endV s)):Zv s.1 s.2.1 (Go.IntKind.u64.wrap (↑(BitVec.ofInt 64 s.2.2.1 ^^^ BitVec.ofInt 64 255).toNat:Int)) s.2.2.2 4 fun Zc q4m w9b w9c=>K (Go.IntKind.u64.wrap (↑(BitVec.ofInt 64 (Go.IntKind.u64.wrap (↑(BitVec.ofInt 64 (Go.IntKind.u64.wrap (↑(BitVec.ofInt 64 Zc ^^^ BitVec.ofInt 64 q4m).toNat:Int)) ^^^ BitVec.ofInt 64 w9b).toNat:Int)) ^^^ BitVec.ofInt 64 w9c).toNat:Int)):=by
  simp only[endV,fin4,xr] at h
  exact w5z (q:=4) rfl (by decide) h
theorem v6e{s:S4}{K:Int->Prop}(h:K (endV s)):Jc (Sip.mk s.1 s.2.1 (Go.IntKind.u64.wrap (↑(BitVec.ofInt 64 s.2.2.1 ^^^ BitVec.ofInt 64 255).toNat:Int)) s.2.2.2) 4 fun x=>K (Go.IntKind.u64.wrap (↑(BitVec.ofInt 64 (Go.IntKind.u64.wrap (↑(BitVec.ofInt 64 (Go.IntKind.u64.wrap (↑(BitVec.ofInt 64 x.1 ^^^ BitVec.ofInt 64 x.2).toNat:Int)) ^^^ BitVec.ofInt 64 x.3).toNat:Int)) ^^^ BitVec.ofInt 64 x.4).toNat:Int)):=by
  simp only[endV,fin4,xr] at h
  exact j7p (q:=4) rfl (by decide) h
theorem v6f{a b c d m:Int}{K:Sip->Prop}(h: ∀x:Sip,(Go.IntKind.u64.wrap (↑(BitVec.ofInt 64 x.1 ^^^ BitVec.ofInt 64 m).toNat:Int),x.2,x.3,x.4)=wds (a,b,c,d) m->K x):Jc (Sip.mk a b c (Go.IntKind.u64.wrap (↑(BitVec.ofInt 64 d ^^^ BitVec.ofInt 64 m).toNat:Int))) 2 K:=by
  refine j7p (q:=2) rfl (by decide) (h _ ?_)
  simp only[wds,xr]
theorem y6h(b:List Int)(o:Nat)(v:BitVec 64): ∀k,wv b o v k=wv b o 0 k|||v
  |0=>by simp[wv]
  |k+1=>by
    rw[wv,wv,y6h b o v k,BitVec.or_assoc,BitVec.or_comm v,←BitVec.or_assoc]
theorem w8s{b:List Int}{o k:Nat}{v:BitVec 64}{y:Int}(hy:b[o+k]? =some y):wv b o v (k+1)=wv b o v k|||tm y k:=by
  rw[wv,List.getD_eq_getElem?_getD,hy];rfl
theorem y32(n:Nat):topV n=BitVec.ofInt 64 (Go.IntKind.u64.wrap (Go.IntKind.u64.wrap ((n:Int).tmod 256)*2 ^ Min.min (Int.toNat 56) 64)):=by
  have e:(2:Int) ^ Min.min (Int.toNat 56) 64=72057594037927936:=by decide
  have h2:Go.IntKind.u64.wrap (Go.IntKind.u64.wrap (n:Int)*72057594037927936)=Go.IntKind.u64.wrap (Go.IntKind.u64.wrap ((n:Int).tmod 256)*72057594037927936):=by
    rw[j7o,j7o,j7o,j7o,Int.tmod_eq_emod_of_nonneg (by omega)]
    omega
  unfold topV
  rw[e,h2]
theorem w2n{k0 k1:Int}{b:List Int}{K:Int->Prop}(hb:b.length<=1099511627776)(h:K (sumV k0 k1 b)):q8s k0 k1 b K:=by
  unfold q8s z4k
  refine fun _=>⟨by decide,?_⟩
  refine Lp5.ind (fun i a' b' c' d'=> ∃j:Nat,i=8*(j:Int)/\8*j<=b.length/\(a',b',c',d')=blks b k0 k1 j) (fun i _ _ _ _=>(b.length - i).toNat) ?_ ⟨0,rfl,by omega,rfl⟩
  rintro i a' b' c' d' ⟨j,rfl,hj,hs⟩
  refine⟨by unfold InI;omega,fun _=>Cnd.mk (fun hc=> ?_) fun hc=> ?_⟩
  · refine Lp2.ind (fun v k=> ∃q:Nat,k=(q:Int)/\q<=8/\v=((wv b (8*j) 0 q).toNat:Int)) (fun _ k=>(8 - k).toNat) ?_ ⟨0,rfl,by omega,rfl⟩
    rintro v k ⟨q,rfl,hq,rfl⟩
    refine Cnd.mk (fun hk=>⟨by unfold InI;omega,⟨by omega,by omega⟩,fun y hy=>⟨by unfold InI;omega,by omega,by unfold InI;omega,⟨q+1,by omega,by omega,?_⟩,by omega⟩⟩) fun hk=> ?_
    · rw[show (8*(j:Int)+q).toNat=8*j+q by omega] at hy
      rw[w8s hy,show (8*(q:Int)).toNat=8*q by omega]
      exact v92 _ _
    · refine v6d ⟨by unfold InI;omega,⟨j+1,by omega,by omega,?_⟩,by omega⟩
      rw[hs,show q=8 by omega];rfl
  · refine fun _=>⟨by decide,?_⟩
    have hjl:j=b.length / 8:=by omega
    have hm:((b.length:Nat):Int).tmod 8=((b.length % 8:Nat):Int):=by rw[Int.tmod_eq_emod_of_nonneg (by omega)];omega
    rw[hm]
    refine Lp2.ind (fun v k=> ∃q:Nat,k=(q:Int)/\q<=b.length % 8/\v=((wv b (8*j) (topV b.length) q).toNat:Int)) (fun _ k=>(8 - k).toNat) ?_ ⟨0,rfl,by omega,by unfold wv topV;exact y3y _⟩
    rintro v k ⟨q,rfl,hq,rfl⟩
    refine Cnd.mk (fun hk _ _=>⟨by decide,by unfold InI;omega,by unfold InI;omega,⟨by omega,by omega⟩,fun y hy=>⟨by unfold InI;omega,by omega,by unfold InI;omega,⟨q+1,by omega,by omega,?_⟩,by omega⟩⟩) fun hk=> ?_
    · rw[show ((b.length:Int) - ((b.length % 8:Nat):Int)+q).toNat=8*j+q by omega] at hy
      rw[w8s hy,show (8*(q:Int)).toNat=8*q by omega]
      exact v92 _ _
    · refine v6d (y3z (s:=wds (a',b',c',d') _) ?_)
      rw[hs,show q=b.length % 8 by omega,y6h,hjl]
      exact h
theorem v6g{k0 k1:Int}{b:List Int}{K:Int->Prop}(hb:b.length<=1099511627776)(h:K (sumV k0 k1 b)):j5b k0 k1 b K:=by
  unfold j5b w09
  have hd:((b.length:Nat):Int).tdiv 8=((b.length / 8:Nat):Int):=by rw[Int.tdiv_eq_ediv_of_nonneg (by omega)];omega
  rw[hd]
  refine Lp5.ind (fun i a' b' c' d'=> ∃j:Nat,i=(j:Int)/\j<=b.length / 8+1/\(j<=b.length / 8->(a',b',c',d')=blks b k0 k1 j)/\(j=b.length / 8+1->(a',b',c',d')=wds (blks b k0 k1 (b.length / 8)) ((v91 b).toNat:Int))) (fun i _ _ _ _=>(b.length / 8+1 - i).toNat) ?_ ⟨0,rfl,by omega,fun _=>rfl,fun h=>by omega⟩
  rintro i a' b' c' d' ⟨j,rfl,hj,hs,hf⟩
  refine fun _=>⟨by decide,by unfold InI;omega,Cnd.mk (fun hc=> ?_) fun hc=> ?_⟩
  · have hs:=hs (by omega)
    have done: ∀q:Nat,(q=8∨q=b.length % 8/\j=b.length / 8)->q<=8->(j<b.length / 8->q=8)->(j=b.length / 8->q=b.length % 8)->Jn1 (fun Qg=>Jc (Sip.mk a' b' c' (Go.IntKind.u64.wrap (↑(BitVec.ofInt 64 d' ^^^ BitVec.ofInt 64 Qg).toNat:Int))) 2 fun Qr=>InI ((j:Int)+1)/\(∃j':Nat,(j:Int)+1=(j':Int)/\j'<=b.length / 8+1/\(j'<=b.length / 8->(Go.IntKind.u64.wrap (↑(BitVec.ofInt 64 Qr.1 ^^^ BitVec.ofInt 64 Qg).toNat:Int),Qr.2,Qr.3,Qr.4)=blks b k0 k1 j')/\(j'=b.length / 8+1->(Go.IntKind.u64.wrap (↑(BitVec.ofInt 64 Qr.1 ^^^ BitVec.ofInt 64 Qg).toNat:Int),Qr.2,Qr.3,Qr.4)=wds (blks b k0 k1 (b.length / 8)) ((v91 b).toNat:Int)))/\((b.length / 8:Nat)+1 - ((j:Int)+1)).toNat<((b.length / 8:Nat)+1 - (j:Int)).toNat) fun w31=>b.length<=(9223372036854775807:Nat)->(8:Int)≠0/\InI ((b.length / 8:Nat):Int)/\Cnd ((j:Int)=((b.length / 8:Nat):Int)) (b.length<=(9223372036854775807:Nat)->(256:Int)≠0/\(0:Int)<=56/\w31 (Go.IntKind.u64.wrap (↑(BitVec.ofInt 64 ((wv b (8*j) 0 q).toNat:Int)|||BitVec.ofInt 64 (Go.IntKind.u64.wrap (Go.IntKind.u64.wrap ((b.length:Int).tmod 256)*2 ^ Min.min (Int.toNat 56) 64))).toNat:Int))) (w31 ((wv b (8*j) 0 q).toNat:Int)):=fun q _ hq h1 h2=>by
      refine Jn1.mk (fun x=>(j<b.length / 8->x=((wv b (8*j) 0 8).toNat:Int))/\(j=b.length / 8->x=((v91 b).toNat:Int))) (fun _=>⟨by decide,by unfold InI;omega,Cnd.mk (fun he=>fun _=>⟨by decide,by decide,fun _=>by omega,fun hjl=> ?_⟩) fun hne=>⟨fun hl=>by rw[h1 hl],fun he=>by omega⟩⟩) fun x hx=>v6f fun s hsw=>⟨by unfold InI;omega,⟨j+1,by omega,by omega,fun hl=> ?_,fun he=> ?_⟩,by omega⟩
      · rw[←y32,v92,h2 hjl,hjl];rfl
      · rw[hsw,hx.1 (by omega),blks,←hs]
      · rw[hsw,hx.2 (by omega),←show j=b.length / 8 by omega,←hs]
    refine Lp2.ind (fun v k=> ∃q:Nat,k=(q:Int)/\q<=8/\(j=b.length / 8->q<=b.length % 8)/\v=((wv b (8*j) 0 q).toNat:Int)) (fun _ k=>(8 - k).toNat) ?_ ⟨0,rfl,by omega,fun _=>by omega,rfl⟩
    rintro v k ⟨q,rfl,hq,hq2,rfl⟩
    refine Cnd.mk (fun hk=>⟨by unfold InI;omega,by unfold InI;omega,fun _=>Cnd.mk (fun hl=>⟨by unfold InI;omega,by unfold InI;omega,⟨by omega,by omega⟩,fun y hy=>⟨by unfold InI;omega,?_,by unfold InI;omega,⟨q+1,by omega,by omega,fun _=>by omega,?_⟩,by omega⟩⟩) fun hl=> ?_⟩) fun hk=> ?_
    · rw[show 8*(q:Int)=((8*q:Nat):Int) by omega,j0t (by omega)];omega
    · rw[show (8*(j:Int)+q).toNat=8*j+q by omega] at hy
      rw[w8s hy,show 8*(q:Int)=((8*q:Nat):Int) by omega,j0t (n:=8*q) (by omega),Int.toNat_natCast]
      exact v92 _ _
    · exact done q (by omega) hq (fun h=>by omega) (fun h=>by omega)
    · exact done q (by omega) hq (fun h=>by omega) (fun h=>by omega)
  · have hf:=hf (by omega)
    unfold sumV at h
    rw[←hf] at h
    exact v6e (s:=(a',b',c',d')) h
def fb(n k:Nat):Int:=Go.IntKind.u8.wrap ((Go.IntKind.u64.wrap (n:Int)).fdiv (2 ^ Min.min (8*k) 64))
def hdr(n:Nat)(j:Nat):List Int:=(List.range j).map fun i=>fb n (7 - i)
def frm(l:List (List Int)):List Int:=l.flatMap fun f=>hdr f.length 8++f
theorem v0h(n j:Nat):hdr n (j+1)=hdr n j++[fb n (7 - j)]:=by simp[hdr,List.range_succ]
theorem z84(n j:Nat):(hdr n j).length=j:=by simp[hdr]
theorem j5g{l:List (List Int)}{i:Nat}{y:List Int}(hy:l[i]? =some y):frm (l.take (i+1))=frm (l.take i)++(hdr y.length 8++y):=by
  rw[List.take_add_one,hy];simp[frm]
theorem j7q(l:List (List Int))(i:Nat):(frm (l.take i)).length<=(frm l).length:=by
  have h:frm l=frm (l.take i)++frm (l.drop i):=by
    conv=>lhs;rw[←List.take_append_drop i l]
    exact List.flatMap_append
  rw[h,List.length_append];omega
theorem j7r{l:List (List Int)}{K:List Int->Prop}(hl:(frm l).length<=1000000000)(hn:l.length<=1000)(h:K (frm l)):q3n l K:=by
  unfold q3n
  refine fun _=>Lp2.ind (fun o i=> ∃j:Nat,i=(j:Int)/\j<=l.length/\o=frm (l.take j)) (fun _ i=>(l.length - i).toNat) ?_ ⟨0,rfl,by omega,rfl⟩
  rintro o i ⟨j,rfl,hj,rfl⟩
  refine Cnd.mk (fun hc=>⟨by omega,fun y hy=> ?_⟩) fun hc=> ?_
  · have hy:l[j]? =some y:=hy
    have hln:=j7q l (j+1)
    rw[j5g hy] at hln
    simp only[List.length_append,z84] at hln
    refine Lp2.ind (fun o k=> ∃q:Nat,k=7 - (q:Int)/\q<=8/\o=frm (l.take j)++hdr y.length q) (fun _ k=>(k+1).toNat) ?_ ⟨0,rfl,by omega,by simp[hdr]⟩
    rintro o k ⟨q,rfl,hq,rfl⟩
    refine Cnd.mk (fun hk _=>⟨by unfold InI;omega,by omega,?_,by unfold InI;omega,⟨q+1,by omega,by omega,?_⟩,by omega⟩) fun hk=>⟨?_,by unfold InI;omega,⟨j+1,by omega,by omega,?_⟩,by omega⟩
    · unfold Sml;simp only[List.length_append,z84,List.length_singleton];omega
    · rw[v0h,←List.append_assoc,show (8*(7 - (q:Int))).toNat=8*(7 - q) by omega];rfl
    · unfold Sml;simp only[List.length_append,z84];omega
    · rw[j5g hy,show q=8 by omega,List.append_assoc]
  · rw[show j=l.length by omega,List.take_length];exact h
theorem w8t{l:List (List Int)}{K:List Int->Prop}(hl:(frm l).length<=1000000000)(hn:l.length<=1000)(h:K (frm l)):z6b l K:=by
  unfold z6b
  refine Lp2.ind (fun o i=> ∃j:Nat,i=(j:Int)/\j<=l.length/\o=frm (l.take j)) (fun _ i=>(l.length - i).toNat) ?_ ⟨0,rfl,by omega,rfl⟩
  rintro o i ⟨j,rfl,hj,rfl⟩
  refine fun _=>Cnd.mk (fun hc=>⟨by omega,fun y hy _=> ?_⟩) fun hc=> ?_
  · have hy:l[j]? =some y:=hy
    have hln:=j7q l (j+1)
    rw[j5g hy] at hln
    simp only[List.length_append,z84] at hln
    refine Lp2.ind (fun o k=> ∃q:Nat,k=56 - 8*(q:Int)/\q<=8/\o=frm (l.take j)++hdr y.length q) (fun _ k=>(k+8).toNat) ?_ ⟨0,rfl,by omega,by simp[hdr]⟩
    rintro o k ⟨q,rfl,hq,rfl⟩
    refine Cnd.mk (fun hk=> ?_) fun hk=>⟨by omega,fun z hz=> ?_⟩
    · have e:56 - 8*(q:Int)=((8*(7 - q):Nat):Int):=by omega
      rw[e,j0t (by omega)]
      refine⟨by omega,?_,by unfold InI;omega,⟨q+1,by omega,by omega,?_⟩,by omega⟩
      · unfold Sml;simp only[List.length_append,z84,List.length_singleton];omega
      · rw[v0h,←List.append_assoc,Int.toNat_natCast];rfl
    · have hz:l[j]? =some z:=hz
      rw[hy] at hz
      cases hz
      refine⟨?_,by unfold InI;omega,⟨j+1,by omega,by omega,?_⟩,by omega⟩
      · unfold Sml;simp only[List.length_append,z84];omega
      · rw[j5g hy,show q=8 by omega,List.append_assoc]
  · rw[show j=l.length by omega,List.take_length];exact h
theorem v6h(a b:Int):0<=xr a b/\xr a b<18446744073709551616:=by
  unfold xr
  rw[j0t (BitVec.isLt _)]
  have:=(BitVec.ofInt 64 a ^^^ BitVec.ofInt 64 b).isLt
  omega
def ofV0(salt key:ByteArray):Int:=(sumV 1 0 (frm [bytesOf salt,bytesOf key])).tmod 10000
theorem w2o(salt key:ByteArray):0<=ofV0 salt key/\ofV0 salt key<10000:=by
  have h: ∀s,0<=endV s:=fun s=>(v6h _ _).1
  have h0:0<=sumV 1 0 (frm [bytesOf salt,bytesOf key]):=h _
  exact⟨Int.tmod_nonneg _ h0,Int.tmod_lt_of_pos _ (by decide)⟩
theorem v0i(a b:ByteArray):(frm [bytesOf a,bytesOf b]).length=a.size+b.size+16:=by
  have h: ∀a:ByteArray,(bytesOf a).length=a.size:=fun a=>by simp[bytesOf]
  simp only[frm,List.flatMap_cons,List.flatMap_nil,List.length_append,z84,h,List.length_nil]
  omega
theorem w2p{salt key:ByteArray}{K:Int->Prop}(hs:salt.size<=10000000)(hk:key.size<=10000000)(h:K (ofV0 salt key)):W7 salt key K:=by
  have hl:=v0i salt key
  have hr:=w2o salt key
  unfold W7 z72
  refine⟨by unfold Sml;omega,by unfold Sml;omega,?_⟩
  show q5m 1 [bytesOf salt,bytesOf key] _
  unfold q5m z1o
  refine j7r (by omega) (by simp) (w2n (by omega) ⟨by decide,?_,h⟩)
  exact InI.mk (Int.le_trans (by decide) hr.1) (Int.le_trans (Int.le_of_lt hr.2) (by decide))
theorem v2s{salt key:ByteArray}{K:Int->Prop}(hs:salt.size<=10000000)(hk:key.size<=10000000)(h:K (ofV0 salt key)):q1u salt key K:=by
  have hl:=v0i salt key
  have hr:=w2o salt key
  unfold q1u w1a
  refine⟨by unfold Sml;omega,by unfold Sml;omega,?_⟩
  show z9x 1 [bytesOf salt,bytesOf key] _
  unfold z9x j6h
  refine w8t (by omega) (by simp) (v6g (by omega) ⟨by decide,?_,h⟩)
  exact InI.mk (Int.le_trans (by decide) hr.1) (Int.le_trans (Int.le_of_lt hr.2) (by decide))
theorem exOf: ∃F:ByteArray->ByteArray->Int,(∀a b,0<=F a b/\F a b<10000)/\(∀(salt key:ByteArray) (K:Int->Prop),salt.size<=10000000->key.size<=10000000->K (F salt key)->W7 salt key K)/\
    ∀(salt key:ByteArray) (K:Int->Prop),salt.size<=10000000->key.size<=10000000->K (F salt key)->q1u salt key K:=
  ⟨ofV0,w2o,fun _ _ _ h1 h2 h=>w2p h1 h2 h,fun _ _ _ h1 h2 h=>v2s h1 h2 h⟩
def ofV:ByteArray->ByteArray->Int:=Classical.choose exOf
theorem j7s(salt key:ByteArray):0<=ofV salt key/\ofV salt key<10000:=(Classical.choose_spec exOf).1 salt key
theorem Us{salt key:ByteArray}{K:Int->Prop}(hs:salt.size<=10000000)(hk:key.size<=10000000)(h:K (ofV salt key)):W7 salt key K:=(Classical.choose_spec exOf).2.1 salt key K hs hk h
theorem q4l{salt key:ByteArray}{K:Int->Prop}(hs:salt.size<=10000000)(hk:key.size<=10000000)(h:K (ofV salt key)):q1u salt key K:=(Classical.choose_spec exOf).2.2 salt key K hs hk h
end Go.En
end
noncomputable section
set_option maxRecDepth 100000
namespace Go.En
open Go Go.Fl Go.Fl.Lk Go.Fx
theorem v2t{a b:List ByteArray}{K:Bool->Prop}(h: ∀r,(r=true↔a=b)->K r):z90 a b K:=by
 unfold z90
 intro ha hb
 refine Cnd.mk (fun hl=> ?_) fun hl=>h _ ⟨fun h=>(by cases h),fun e=>by rw[e] at hl;exact absurd rfl hl⟩
 refine Lp1.ind (fun (i:Int)=>0<=i/\i<=a.length/\a.take i.toNat=b.take i.toNat) (fun (i:Int)=>(a.length - i).toNat) ?_ ⟨by omega,by omega,by simp⟩
 rintro i ⟨i0,i1,he⟩ _
 refine Cnd.mk (fun hc=>⟨by omega,fun x hx=>⟨by omega,fun y hy=>Cnd.mk (fun hc=>⟨by unfold InI;omega,⟨by omega,by omega,?_⟩,by omega⟩) fun hc=>h _ ⟨fun h=>(by cases h),fun h=> ?_⟩⟩⟩) fun hc=>h _ ⟨fun _=> ?_,fun _=>rfl⟩
 ·rw[show (i+1).toNat=i.toNat+1 by omega,List.take_add_one,List.take_add_one,he,hx,hy,hc]
 ·subst h;rw[hx] at hy;cases hy;exact absurd rfl hc
 ·rwa [List.take_of_length_le (by omega),List.take_of_length_le (by omega)] at he
theorem J2{l:List ByteArray}{s:ByteArray}{K:Bool->Prop}(h: ∀r,(r=true↔s∈l)->K r):Hk l s K:=by
 unfold Hk
 refine Lp1.ind (fun (i:Int)=>0<=i/\i<=l.length/\s∉l.take i.toNat) (fun (i:Int)=>(l.length - i).toNat) ?_ ⟨by omega,by omega,by simp⟩
 rintro i ⟨i0,i1,he⟩ _
 refine Cnd.mk (fun hc=>⟨by omega,fun x hx=>Cnd.mk (fun e=>h _ ⟨fun _=>e▸getm hx,fun _=>rfl⟩) fun e=>⟨by unfold InI;omega,⟨by omega,by omega,?_⟩,by omega⟩⟩) fun hc=>h _ ⟨fun h=>(by cases h),fun hm=> ?_⟩
 ·rw[show (i+1).toNat=i.toNat+1 by omega,List.take_add_one,hx];simp[he,Ne.symm e]
 ·rw[List.take_of_length_le (by omega)] at he;exact absurd hm he
theorem j7t{a b:Val}{K:Bool->Prop}(h: ∀r,(r=true↔a=b)->K r):z01 a b K:=by
 unfold z01 j2a
 have no:(a≠b)->K false:=fun hn=>h _ ⟨fun h=>(by cases h),fun e=>absurd e hn⟩
 refine Cnd.mk (fun h1=>Cnd.mk (fun h2=>Cnd.mk (fun h3=>v2t fun r hr=>h r (hr.trans ⟨fun h4=> ?_,fun e=>by rw[e]⟩)) fun h=>no fun e=>h (by rw[e])) fun h=>no fun e=>h (by rw[e])) fun h=>no fun e=>h (by rw[e])
 cases a;cases b;simp_all
theorem V9{e:Ex}:Ex.mk e.op e.kind e.name e.values e.kids=e:=by cases e;rfl
theorem w50{op:Int}{K:Bool->Prop}(h: ∀r,(r=true↔6<=op/\op<=15)->K r):z2f op K:=by
 unfold z2f
 exact Cnd.mk (fun h6=>h _ ⟨fun a=>⟨h6,of_decide_eq_true a⟩,fun a=>decide_eq_true a.2⟩) fun h6=>h _ ⟨fun a=>(by cases a),fun a=>absurd a.1 h6⟩
theorem v6i{α:Type}{l:List α}{f:α->ByteArray}{K:List ByteArray->Prop}(hl:l.length<=1000000)(h:K (l.map f)):
  Lp2 (fun (r:List ByteArray) (i:Int) Y=>l.length<=9223372036854775807->Cnd (i<(l.length:Int)) ((0<=i/\i<(l.length:Int))/\ ∀y,l[i.toNat]? =some y->Sml (r++[f y]).length/\InI (i+1)/\Y (r++[f y]) (i+1)) (K r)) [] 0:=by
 refine Lp2.ind (fun (r:List ByteArray) (i:Int)=>0<=i/\i<=l.length/\r=(l.take i.toNat).map f) (fun _ (i:Int)=>(l.length - i).toNat) ?_ ⟨Int.le_refl 0,by omega,by simp⟩
 rintro r i ⟨i0,i1,rfl⟩ _
 refine Cnd.mk (fun hc=>⟨by omega,fun y hy=>⟨by unfold Sml;simp;omega,by unfold InI;omega,⟨by omega,by omega,?_⟩,by omega⟩⟩) fun hc=> ?_
 ·rw[show (i+1).toNat=i.toNat+1 by omega,List.take_add_one,hy];simp
 ·rw[List.take_of_length_le (by omega)];exact h
theorem w8u{l:List Seg}{K:List ByteArray->Prop}(hl:l.length<=1000000)(h:K (l.map Seg.key)):j17 l K:=v6i hl h
end Go.En
end
noncomputable section
set_option maxRecDepth 100000
namespace Go.Sg
open Go
abbrev bts(s:ByteArray):List UInt8:=s.data.toList
theorem Gf(s:ByteArray):(bts s).length=s.size:=rfl
theorem q2n{s:ByteArray}{i:Nat}{b:UInt8}:s[i]? =some b↔(bts s)[i]? =some b:=by
 rw[show s[i]? =s.data[i]? from by
  by_cases h:i<s.size
  ·rw[getElem?_pos s i h,getElem?_pos s.data i h];rfl
  ·rw[getElem?_neg s i h,getElem?_neg s.data i h]]
 rw[Array.getElem?_toList]
theorem get!_of{s:ByteArray}{i:Nat}(h:i<s.size):(bts s)[i]? =some (s.get! i):=by
 have h':i<s.data.size:=h
 show s.data.toList[i]? =some (s.data[i]!)
 rw[Array.getElem?_toList,Array.getElem?_eq_getElem h',getElem!_pos s.data i h']
theorem v0j{s:ByteArray}{i:Nat}(h:(s.get! i).toNat<128):Utf8.decode s i=((s.get! i).toNat,1):=by
 unfold Utf8.decode
 simp only[Nat.add_zero]
 rw[if_pos h]
theorem v0k{s:ByteArray}{i:Nat}(h:128<=(s.get! i).toNat):128<=(Utf8.decode s i).1/\1<=(Utf8.decode s i).2/\ ∀k,k<(Utf8.decode s i).2->128<=(s.get! (i+k)).toNat:=by
 have k1: ∀k,k<1->128<=(s.get! (i+k)).toNat:=fun k hk=>by rw[show k=0 by omega];exact h
 have bad:128<=(Utf8.runeError,1).1/\1<=(Utf8.runeError,1).2/\ ∀k,k<(Utf8.runeError,1).2->128<=(s.get! (i+k)).toNat:=⟨by decide,by decide,k1⟩
 unfold Utf8.decode
 simp only[Nat.add_zero]
 rw[if_neg (by omega)]
 split
 ·rename_i hc
  simp only[Bool.and_eq_true,beq_iff_eq,decide_eq_true_eq] at hc
  split
  ·rename_i h2
   refine⟨h2,by simp,fun k hk=> ?_⟩
   have:k=0∨k=1:=by simp only at hk;omega
   rcases this with rfl|rfl
   ·exact h
   ·omega
  ·exact bad
 ·split
  ·rename_i _ hc
   simp only[Bool.and_eq_true,beq_iff_eq,decide_eq_true_eq] at hc
   split
   ·rename_i h2
    simp only[Bool.and_eq_true,decide_eq_true_eq] at h2
    refine⟨by simp only;omega,by simp,fun k hk=> ?_⟩
    have:k=0∨k=1∨k=2:=by simp only at hk;omega
    rcases this with rfl|rfl|rfl
    ·exact h
    ·omega
    ·omega
   ·exact bad
  ·split
   ·rename_i _ _ hc
    simp only[Bool.and_eq_true,beq_iff_eq,decide_eq_true_eq] at hc
    split
    ·rename_i h2
     simp only[Bool.and_eq_true,decide_eq_true_eq] at h2
     refine⟨by simp only;omega,by simp,fun k hk=> ?_⟩
     have:k=0∨k=1∨k=2∨k=3:=by simp only at hk;omega
     rcases this with rfl|rfl|rfl|rfl
     ·exact h
     ·omega
     ·omega
     ·omega
    ·exact bad
   ·exact bad
structure RuneP(p:Nat->Prop):Prop where
 hi: ∀n,128<=n->(p n↔p 128)
def Clr(p:Nat->Prop)(s:ByteArray)(k:Nat):Prop:= ∀i,i<k->i<s.size-> ¬p (s.get! i).toNat
theorem Clr.zero{p:Nat->Prop}{s:ByteArray}:Clr p s 0:=fun _ h=>absurd h (Nat.not_lt_zero _)
theorem v6j(s:ByteArray)(k:Nat):1<=(Utf8.decode s k).2:=by
 rcases Nat.lt_or_ge (s.get! k).toNat 128 with h|h
 ·rw[v0j h];exact Nat.le_refl 1
 ·exact (v0k h).2.1
theorem Clr.step{p:Nat->Prop}(hp:RuneP p){s:ByteArray}{k:Nat}(h:Clr p s k)(hk: ¬p (Utf8.decode s k).1):Clr p s (k+(Utf8.decode s k).2):=by
 intro i hi hs
 rcases Nat.lt_or_ge i k with h1|h1
 ·exact h i h1 hs
 rcases Nat.lt_or_ge (s.get! k).toNat 128 with h2|h2
 ·rw[v0j h2] at hk hi
  simp only at hk hi
  rw[show i=k by omega];exact hk
 ·obtain⟨a,_,c⟩:=v0k h2
  have:=c (i - k) (by omega)
  rw[show k+(i - k)=i by omega] at this
  rw[hp.hi _ this,←hp.hi _ a];exact hk
theorem j5h{p:Nat->Prop}(hp:RuneP p){s:ByteArray}{k:Nat}(hk:p (Utf8.decode s k).1):p (s.get! k).toNat:=by
 rcases Nat.lt_or_ge (s.get! k).toNat 128 with h2|h2
 ·rw[v0j h2] at hk;exact hk
 ·rw[hp.hi _ h2,←hp.hi _ (v0k h2).1];exact hk
theorem Clr.all{p:Nat->Prop}{s:ByteArray}{k:Nat}(h:Clr p s k)(hk:s.size<=k): ∀c∈bts s,¬p c.toNat:=by
 intro c hc
 obtain⟨i,hi⟩:=List.mem_iff_getElem?.1 hc
 have hl:i<s.size:=(List.getElem?_eq_some_iff.1 hi).1
 have:=get!_of hl
 rw[hi] at this
 cases this
 exact h i (by omega) hl
theorem j23{s:ByteArray}{k:Nat}(h:k<s.size):s.get! k∈bts s:=List.mem_of_getElem? (get!_of h)
def good(c:UInt8):Bool:=decide (32<=c.toNat) && decide (c.toNat≠127)
def vld(s:ByteArray):Bool:=decide (s.size<=200) && Go.Lib.validD (bts s) && (bts s).all good
def isD(c:UInt8):Bool:=decide (48<=c.toNat) && decide (c.toNat<=57)
def z7g(n:Nat)(c:UInt8):Nat:=10*n+(c.toNat - 48)
def valD(n:Nat)(l:List UInt8):Nat:=l.foldl z7g n
def digs(s:ByteArray):ByteArray:=if s[0]? =some 45 then s.extract 1 s.size else s
def pnum(s:ByteArray):Int×Int:=
 if (bts (digs s)).all isD=false then (0,1)
 else if (digs s).size=0∨((digs s)[0]? =some 48/\s≠ByteArray.mk (Array.mk [48])) then (0,1)
 else if 1099511627776<valD 0 (bts (digs s)) then (0,3)
 else (if (digs s).size<s.size then -(valD 0 (bts (digs s)):Int) else valD 0 (bts (digs s)),0)
theorem v0l(n:Nat):valD n []=n:=rfl
theorem j0u(n:Nat)(c:UInt8)(l:List UInt8):valD n (c::l)=valD (z7g n c) l:=List.foldl_cons ..
theorem v6k(n:Nat)(l:List UInt8)(c:UInt8):valD n (l++[c])=z7g (valD n l) c:=by
 unfold valD;rw[List.foldl_append];rfl
theorem w8v: ∀(l:List UInt8) (n:Nat),n*10 ^ l.length<=valD n l
 |[],n=>by simp[valD]
 |c::l,n=>by
  rw[j0u,List.length_cons]
  refine Nat.le_trans ?_ (w8v l (z7g n c))
  rw[Nat.pow_succ,Nat.mul_comm (10 ^ l.length) 10,←Nat.mul_assoc]
  exact Nat.mul_le_mul_right _ (by unfold z7g;omega)
theorem v6l: ∀(l:List UInt8) (n:Nat),l.all isD=true->valD n l<(n+1)*10 ^ l.length
 |[],n,_=>by simp[valD]
 |c::l,n,h=>by
  simp only[List.all_cons,Bool.and_eq_true] at h
  rw[j0u,List.length_cons]
  refine Nat.lt_of_lt_of_le (v6l l (z7g n c) h.2) ?_
  have h1:=h.1
  simp only[isD,Bool.and_eq_true,decide_eq_true_eq] at h1
  rw[Nat.pow_succ,Nat.mul_comm (10 ^ l.length) 10,←Nat.mul_assoc]
  exact Nat.mul_le_mul_right _ (by unfold z7g;omega)
theorem v6m: ∀(l:List UInt8) (n:Nat),n<=valD n l:=fun l n=>Nat.le_trans (by
 have:0<10 ^ l.length:=Nat.pow_pos (by decide)
 exact Nat.le_mul_of_pos_right n this) (w8v l n)
theorem j3u: ∀(l:List UInt8) (n:Nat),l.all isD=true->Go.Lib.parseUint10 n l=(if valD n l<18446744073709551616/\n<18446744073709551616 then .ok (valD n l) else if l=[] then .ok n else .range)
 |[],n,_=>by
  unfold Go.Lib.parseUint10
  rw[v0l]
  split<;>simp
 |c::l,n,h=>by
  simp only[List.all_cons,Bool.and_eq_true] at h
  have h1:=h.1
  simp only[isD,Bool.and_eq_true,decide_eq_true_eq] at h1
  have ih:=j3u l (z7g n c) h.2
  have hs:=v6m l (z7g n c)
  have es:z7g n c=10*n+(c.toNat - 48):=rfl
  have e:n*10+(c.toNat - 48)=z7g n c:=by omega
  have hne: ¬(c::l=[]):=by simp
  unfold Go.Lib.parseUint10
  rw[if_pos h1,j0u,e,if_neg hne]
  generalize z7g n c=m at ih hs es e⊢
  by_cases h2:1844674407370955162<=n
  ·rw[if_pos h2,if_neg (by omega)]
  ·rw[if_neg h2]
   by_cases h3:18446744073709551616<=m
   ·rw[if_pos h3,if_neg (by omega)]
   ·rw[if_neg h3,ih]
    by_cases h4:valD m l<18446744073709551616
    ·rw[if_pos ⟨h4,by omega⟩,if_pos ⟨h4,by omega⟩]
    ·have: ¬l=[]:=by rintro rfl;rw[v0l] at h4;omega
     rw[if_neg (by omega),if_neg this,if_neg (by omega)]
theorem w51{l:List UInt8}(h:l.all isD=true)(hn:l≠[]):Go.Lib.parseMag l=(if valD 0 l<18446744073709551616 then .ok (valD 0 l) else .range):=by
 unfold Go.Lib.parseMag
 rw[if_neg hn,j3u l 0 h]
 by_cases h4:valD 0 l<18446744073709551616
 ·rw[if_pos ⟨h4,by omega⟩,if_pos h4]
 ·rw[if_neg (by omega),if_neg h4,if_neg hn]
theorem v0m{s:ByteArray}{k:Nat}:bts (s.extract k s.size)=(bts s).drop k:=by
 show (s.extract k s.size).data.toList=_
 rw[ByteArray.data_extract,Array.toList_extract,List.extract_eq_take_drop,List.take_of_length_le]
 rw[List.length_drop]
 exact Nat.le_refl _
theorem j24{s:ByteArray}(h:s[0]? =some 45):bts s=45::bts (digs s)/\(digs s).size+1=s.size:=by
 have h0:0<s.size:=by
  rw[q2n] at h;exact (List.getElem?_eq_some_iff.1 h).1
 have e:bts (digs s)=(bts s).drop 1:=by
  unfold digs
  rw[if_pos h,v0m]
 rw[q2n] at h
 refine⟨?_,?_⟩
 ·rw[e]
  cases hb:bts s with
  |nil=>rw[hb] at h;simp at h
  |cons c l=>rw[hb] at h;simp at h;simp[h]
 ·rw[←Gf,e,List.length_drop,Gf];omega
theorem q8f{s:ByteArray}(h: ¬s[0]? =some 45):digs s=s:=by unfold digs;rw[if_neg h]
theorem w8w{s:ByteArray}(h:(bts (digs s)).all isD=true)(hn:(digs s).size≠0):Go.Lib.atoiAll (bts s)=(if valD 0 (bts (digs s))<=(if s[0]? =some 45 then 9223372036854775808 else 9223372036854775807) then .ok (if s[0]? =some 45 then -(valD 0 (bts (digs s)):Int) else valD 0 (bts (digs s))) else .range):=by
 have hne:bts (digs s)≠[]:=fun e=>hn (by rw[←Gf,e];rfl)
 by_cases hm:s[0]? =some 45
 ·obtain⟨e,_⟩:=j24 hm
  rw[if_pos hm,if_pos hm,e]
  unfold Go.Lib.atoiAll
  simp only[show (45:UInt8).toNat=45 from rfl,or_true,if_true]
  rw[w51 h hne]
  generalize valD 0 (bts (digs s))=v
  by_cases h1:v<18446744073709551616
  ·rw[if_pos h1]
   by_cases h2:v<=9223372036854775808
   ·rw[if_pos h2];simp only[not_true,false_and,if_false,true_and];rw[if_neg (by omega)]
   ·rw[if_neg h2];simp only[not_true,false_and,if_false,true_and];rw[if_pos (by omega)]
  ·rw[if_neg h1,if_neg (by omega)]
 ·rw[if_neg hm,if_neg hm]
  rw[q8f hm] at h hne⊢
  have hp:=w51 h hne
  generalize valD 0 (bts s)=v at hp⊢
  cases hb:bts s with
  |nil=>exact absurd hb hne
  |cons c l=>
   have hc':isD c=true:=by rw[hb] at h;simp only[List.all_cons,Bool.and_eq_true] at h;exact h.1
   simp only[isD,Bool.and_eq_true,decide_eq_true_eq] at hc'
   unfold Go.Lib.atoiAll
   simp only[]
   rw[if_neg (show ¬(c.toNat=43∨c.toNat=45) by omega),←hb,hp]
   by_cases h1:v<18446744073709551616
   ·rw[if_pos h1]
    simp only[]
    by_cases h2:v<=9223372036854775807
    ·rw[if_pos h2,if_neg (by omega),if_neg (by omega),if_neg (by omega)]
    ·rw[if_neg h2,if_pos (by omega)]
   ·rw[if_neg h1,if_neg (by omega)]
def dot(s:ByteArray)(k:Nat):Nat:=k+((bts s).drop k).idxOf 46
theorem v0n{s:ByteArray}{k:Nat}:k<=dot s k:=Nat.le_add_right _ _
theorem y1g{s:ByteArray}{k:Nat}(h:k<=s.size):dot s k<=s.size:=by
 have:=List.idxOf_le_length (a:=(46:UInt8)) (l:=(bts s).drop k)
 rw[List.length_drop,Gf] at this
 unfold dot;omega
theorem v6n{s:ByteArray}{k:Nat}(h:dot s k<s.size):s[dot s k]? =some 46:=by
 have hl:((bts s).drop k).idxOf 46<((bts s).drop k).length:=by rw[List.length_drop,Gf];unfold dot at h;omega
 have h2:=List.getElem_idxOf hl
 rw[q2n]
 unfold dot
 rw[←List.getElem?_drop,List.getElem?_eq_getElem hl,h2]
theorem v6o{s:ByteArray}{k i:Nat}(h0:k<=i)(h1:i<dot s k):s[i]? ≠some 46:=by
 intro e
 rw[q2n] at e
 have e2:((bts s).drop k)[i - k]? =some 46:=by rw[List.getElem?_drop,show k+(i - k)=i by omega];exact e
 obtain⟨hl,e3⟩:=List.getElem?_eq_some_iff.1 e2
 have h2:i - k<((bts s).drop k).idxOf 46:=by unfold dot at h1;omega
 have:=List.not_of_lt_findIdx (p:=fun x=>x==(46:UInt8)) (xs:=(bts s).drop k) (i:=i - k) h2
 rw[e3] at this
 simp at this
theorem y6i{s:ByteArray}{k i:Nat}(h0:k<=i)(hs:s[i]? =some 46)(hn: ∀j,k<=j->j<i->s[j]? ≠some 46):dot s k=i:=by
 have hi:i<s.size:=(List.getElem?_eq_some_iff.1 (q2n.1 hs)).1
 rcases Nat.lt_trichotomy (dot s k) i with h|h|h
 ·exact absurd (v6n (show dot s k<s.size by omega)) (hn _ v0n h)
 ·exact h
 ·exact absurd hs (v6o h0 h)
theorem y33{s:ByteArray}{k:Nat}(hk:k<=s.size)(hn: ∀j,k<=j->j<s.size->s[j]? ≠some 46):dot s k=s.size:=by
 rcases Nat.lt_or_ge (dot s k) s.size with h|h
 ·exact absurd (v6n h) (hn _ v0n h)
 ·have:=y1g hk;omega
def okp(p:Int×Int):Bool:=decide (p.2=0) && decide (0<=p.1) && decide (p.1<=999999)
def Hp(s:ByteArray)(k:Nat):Int×Int:=pnum (s.extract k (dot s k))
def j9g(s:ByteArray):Prop:=(dot s 0<s.size/\okp (Hp s 0)=true)/\(dot s (dot s 0+1)<s.size/\okp (Hp s (dot s 0+1))=true)/\ ¬dot s (dot s (dot s 0+1)+1)<s.size/\okp (Hp s (dot s (dot s 0+1)+1))=true
instance (s:ByteArray):Decidable (j9g s):=by unfold j9g;infer_instance
def prt(s:ByteArray):(Int×Int×Int)×Bool:=
 if j9g s then (((Hp s 0).1,(Hp s (dot s 0+1)).1,(Hp s (dot s (dot s 0+1)+1)).1),true) else ((0,0,0),false)
theorem y1h{s:ByteArray}(h: ¬j9g s):prt s=((0,0,0),false):=if_neg h
theorem v6p{s:ByteArray}(h:j9g s):prt s=(((Hp s 0).1,(Hp s (dot s 0+1)).1,(Hp s (dot s (dot s 0+1)+1)).1),true):=if_pos h
abbrev dotB:ByteArray:=ByteArray.mk (Array.mk [46])
theorem w52: ∀l:List UInt8,Go.Lib.index l [46]=if l.idxOf 46<l.length then ((l.idxOf 46:Nat):Int) else -1
 |[]=>rfl
 |b::l=>by
  have ih:=w52 l
  unfold Go.Lib.index
  by_cases hb:b=46
  ·subst hb
   rw[if_pos (by simp[List.isPrefixOf]),List.idxOf_cons_self,if_pos (by simp)];rfl
  ·have hx:(b::l).idxOf 46=l.idxOf 46+1:=by rw[List.idxOf_cons,show (b==(46:UInt8))=false by simpa using hb];rfl
   rw[if_neg (by simp[List.isPrefixOf,Ne.symm hb]),hx,ih,List.length_cons]
   by_cases h:l.idxOf 46<l.length
   ·simp only[if_pos h]
    rw[if_neg (by simp only[beq_iff_eq];omega),if_pos (by omega)]
    push_cast;rfl
   ·simp only[if_neg h]
    rw[if_pos (by decide),if_neg (by omega)]
theorem v6q{s:ByteArray}{k:Nat}:(s.extract k s.size).size=s.size - k:=by rw[ByteArray.size_extract];omega
theorem j7u{s:ByteArray}{k:Nat}(hk:k<=s.size):Go.Lib.indexB (s.extract k s.size) dotB=if dot s k<s.size then ((dot s k - k:Nat):Int) else -1:=by
 show Go.Lib.index (bts (s.extract k s.size)) [46]=_
 rw[v0m,w52,List.length_drop,Gf]
 have e:dot s k - k=((bts s).drop k).idxOf 46:=by unfold dot;omega
 rw[e]
 have hg:=v0n (s:=s) (k:=k)
 by_cases h:dot s k<s.size
 ·rw[if_pos h,if_pos (by omega)]
 ·rw[if_neg h,if_neg (by omega)]
def pc(s:ByteArray)(k:Nat):List ByteArray:=Go.Lib.splitB dotB 0 (Go.Lib.countB (s.extract k s.size) dotB) (s.extract k s.size)
theorem ext2{s:ByteArray}{k i:Nat}(h:k+i<=s.size):(s.extract k s.size).extract 0 i=s.extract k (k+i):=by
 apply ByteArray.ext
 have:s.data.size=s.size:=rfl
 simp only[ByteArray.data_extract,Array.extract_extract]
 congr 1
 omega
theorem ext3{s:ByteArray}{k i:Nat}:(s.extract k s.size).extract i (s.extract k s.size).size=s.extract (k+i) s.size:=by
 apply ByteArray.ext
 rw[v6q]
 have:s.data.size=s.size:=rfl
 simp only[ByteArray.data_extract,Array.extract_extract]
 congr 1
 omega
theorem j7v{s:ByteArray}{k:Nat}(hk:k<=s.size)(h: ¬dot s k<s.size):pc s k=[s.extract k s.size]:=by
 unfold pc
 exact Go.Lib.splitB_miss _ _ _ _ (by rw[j7u hk,if_neg h])
theorem w0f{s:ByteArray}{k:Nat}(hk:k<=s.size)(h:dot s k<s.size):pc s k=s.extract k (dot s k)::pc s (dot s k+1):=by
 have hi:=j7u hk
 rw[if_pos h] at hi
 have hg:=v0n (s:=s) (k:=k)
 unfold pc
 rw[Go.Lib.countB_hit _ dotB _ (by decide) hi,Nat.add_comm,Go.Lib.splitB_hit _ _ _ _ _ hi]
 have e1:dotB.size=1:=rfl
 rw[Nat.add_zero,e1,ext2 (by omega),ext3,show k+(dot s k - k)=dot s k by omega,show k+(dot s k - k+1)=dot s k+1 by omega]
theorem least{p:Nat->Prop}: ∀n,p n-> ∃n,p n/\ ∀k,k<n-> ¬p k:=by
 intro n
 induction n using Nat.strongRecOn with
 |_ n ih=>
  intro h
  by_cases hx: ∃k,k<n/\p k
  ·obtain⟨k,hk,hp⟩:=hx;exact ih k hk hp
  ·exact⟨n,h,fun k hk hp=>hx ⟨k,hk,hp⟩⟩
theorem y6j{s:ByteArray}{k:Nat}(hk:k<=s.size):0<(pc s k).length:=by
 by_cases h:dot s k<s.size
 ·rw[w0f hk h];simp
 ·rw[j7v hk h];simp
theorem w53{s:ByteArray}:Go.En.q0s s dotB=pc s 0:=by
 unfold Go.En.q0s pc
 have e:s.extract 0 s.size=s:=by simp
 rw[e]
theorem j7w{s:ByteArray}:(Go.En.q0s s dotB).length=3↔dot s 0<s.size/\dot s (dot s 0+1)<s.size/\ ¬dot s (dot s (dot s 0+1)+1)<s.size:=by
 rw[w53]
 by_cases h0:dot s 0<s.size
 ·rw[w0f (by omega) h0]
  by_cases h1:dot s (dot s 0+1)<s.size
  ·rw[w0f (by omega) h1]
   by_cases h2:dot s (dot s (dot s 0+1)+1)<s.size
   ·have:=y6j (s:=s) (k:=dot s (dot s (dot s 0+1)+1)+1) (by omega)
    rw[w0f (by omega) h2]
    simp only[List.length_cons]
    exact⟨fun e=>by omega,fun e=>absurd h2 e.2.2⟩
   ·rw[j7v (by omega) h2];simp[h0,h1,h2]
  ·rw[j7v (by omega) h1];simp[h1]
 ·rw[j7v (by omega) h0];simp[h0]
theorem w8x{s:ByteArray}(h:dot s 0<s.size/\dot s (dot s 0+1)<s.size/\ ¬dot s (dot s (dot s 0+1)+1)<s.size):Go.En.q0s s dotB=[s.extract 0 (dot s 0),s.extract (dot s 0+1) (dot s (dot s 0+1)),s.extract (dot s (dot s 0+1)+1) (dot s (dot s (dot s 0+1)+1))]:=by
 obtain⟨h0,h1,h2⟩:=h
 rw[w53,w0f (by omega) h0,w0f (by omega) h1,j7v (by omega) h2]
 have:=y1g (s:=s) (k:=dot s (dot s 0+1)+1) (by omega)
 rw[show dot s (dot s (dot s 0+1)+1)=s.size by omega]
theorem j3v{s t:List UInt8}:Go.Lib.contains s t=true↔ ∃i,i+t.length<=s.length/\(s.drop i).take t.length=t:=by
 have key:Go.Lib.contains s t=true↔ ∃i,i<=s.length/\Go.Lib.occAt s t i=true:=by
  unfold Go.Lib.contains
  constructor
  ·intro h
   have hge:0<=Go.Lib.index s t:=by simpa using h
   by_cases hx: ∃i,i<=s.length/\Go.Lib.occAt s t i=true
   ·exact hx
   ·have:=Go.Lib.index_none (s:=s) (sub:=t) (fun j hj=>by
     cases hb:Go.Lib.occAt s t j with
     |false=>rfl
     |true=>exact absurd ⟨j,hj,hb⟩ hx)
    omega
  ·rintro⟨i,hi,ho⟩
   obtain⟨j,⟨hj,hjo⟩,hmin⟩:=least (p:=fun j=>j<=s.length/\Go.Lib.occAt s t j=true) i ⟨hi,ho⟩
   have:=Go.Lib.index_first hj hjo (fun k hk=>by
    cases hb:Go.Lib.occAt s t k with
    |false=>rfl
    |true=>exact absurd ⟨by omega,hb⟩ (hmin k hk))
   rw[this];simp
 rw[key]
 constructor
 ·rintro⟨i,hi,ho⟩
  unfold Go.Lib.occAt at ho
  have hp:=List.isPrefixOf_iff_prefix.1 ho
  have hl:=hp.length_le
  rw[List.length_drop] at hl
  exact⟨i,by omega,(List.prefix_iff_eq_take.1 hp).symm⟩
 ·rintro⟨i,hi,ho⟩
  refine⟨i,by omega,?_⟩
  unfold Go.Lib.occAt
  rw[List.isPrefixOf_iff_prefix,List.prefix_iff_eq_take]
  exact ho.symm
end Go.Sg
end
noncomputable section
set_option maxRecDepth 100000
namespace Go.En
open Go Go.Fl Go.Fl.Lk Go.Fx Go.Sg
theorem v6r{s:ByteArray}:s=ByteArray.mk (Array.mk [])↔s.size=0:=by
 constructor
 ·rintro rfl;rfl
 ·intro h;exact ByteArray.ext (Array.eq_empty_of_size_eq_zero h)
theorem y1i{s:ByteArray}{i:Int}(h0:0<=i)(h1:i<s.size){b:UInt8}(hb:s[i.toNat]? =some b):b=s.get! i.toNat:=by
 rw[q2n,get!_of (by omega)] at hb
 cases hb;rfl
theorem v6s{s:ByteArray}{K:Bool->Prop}(hs:s.size<=1000)(h:K (Go.Lib.validD (bts s))):Vu s K:=⟨by omega,h⟩
theorem badP:RuneP fun n=>n<32∨n=127:=⟨fun n h=>by omega⟩
theorem j3w{s:ByteArray}(h:200<s.size∨Go.Lib.validD (bts s)=false∨ ∃c∈bts s,c.toNat<32∨c.toNat=127):vld s=false:=by
 unfold vld
 rcases h with h|h|⟨c,hc,h⟩
 ·rw[decide_eq_false (by omega)];rfl
 ·rw[h];simp
 ·have:(bts s).all good=false:=by
   rw[List.all_eq_false]
   refine⟨c,hc,?_⟩
   unfold good
   simp only[Bool.and_eq_true,decide_eq_true_eq]
   omega
  rw[this];simp
theorem v6t{s:ByteArray}(h1: ¬200<s.size)(h2:Go.Lib.validD (bts s)=true)(h3: ∀c∈bts s,¬(c.toNat<32∨c.toNat=127)):vld s=true:=by
 unfold vld
 rw[h2,decide_eq_true (show s.size<=200 by omega)]
 simp only[Bool.and_true,Bool.true_and,List.all_eq_true]
 intro c hc
 have:=h3 c hc
 unfold good
 simp only[Bool.and_eq_true,decide_eq_true_eq]
 omega
theorem j7x{s:ByteArray}{K:Bool->Prop}(h:K (vld s)):z02 s K:=by
 unfold z02 j2b
 refine Cnd.mk (fun h1=>by rwa [j3w (.inl (by omega))] at h) fun h1=>v6s (by omega) (Cnd.mk (fun h2=> ?_) fun h2=>by rwa [j3w (.inr (.inl (by simpa using h2)))] at h)
 refine Lp1.ind (fun (i:Int)=>0<=i/\Clr (fun n=>n<32∨n=127) s i.toNat) (fun (i:Int)=>(s.size - i).toNat) ?_ ⟨by omega,Clr.zero⟩
 rintro i ⟨i0,hc⟩
 refine Cnd.mk (fun h3=>⟨by omega,fun b hb=> ?_⟩) fun h3=>by rwa [v6t (by omega) h2 (hc.all (by omega))] at h
 have e:=y1i i0 (by omega) hb
 have hm:b∈bts s:=e▸j23 (by omega)
 refine Cnd.mk (fun h4=>by rwa [j3w (.inr (.inr ⟨b,hm,.inl (by omega)⟩))] at h) fun h4=>⟨by omega,fun b' hb'=> ?_⟩
 rw[hb] at hb';cases hb'
 refine Cnd.mk (fun h5=>by rwa [j3w (.inr (.inr ⟨b,hm,.inr (by omega)⟩))] at h) fun h5=>⟨by unfold InI;omega,⟨by omega,fun j hj hs=> ?_⟩,by omega⟩
 by_cases hji:j<i.toNat
 ·exact hc j hji hs
 ·rw[show j=i.toNat by omega,←e];omega
theorem v2u{b:UInt8}(h:isD b=true):Go.IntKind.u8.wrap ((b.toNat:Int) - 48)=((b.toNat - 48:Nat):Int):=by
 simp only[isD,Bool.and_eq_true,decide_eq_true_eq] at h
 have:(b.toNat:Int) - 48=((b.toNat - 48:Nat):Int):=by omega
 rw[this]
 show ((b.toNat - 48:Nat):Int) % 256=_
 omega
theorem digP:RuneP fun n=>n<48∨57<n:=⟨fun n h=>by omega⟩
theorem w8y{l:List UInt8}:l.all isD=true↔ ∀c∈l,¬(c.toNat<48∨57<c.toNat):=by
 rw[List.all_eq_true]
 constructor
 ·intro h c hc;have:=h c hc;simp only[isD,Bool.and_eq_true,decide_eq_true_eq] at this;omega
 ·intro h c hc;have:=h c hc;simp only[isD,Bool.and_eq_true,decide_eq_true_eq];omega
theorem z3h{l:List UInt8}{c:UInt8}(hc:c∈l)(h:c.toNat<48∨57<c.toNat):l.all isD=false:=by
 rw[Bool.eq_false_iff];intro e;exact w8y.1 e c hc h
theorem take_snoc{l:List UInt8}{i:Nat}{b:UInt8}(h:l[i]? =some b):l.take (i+1)=l.take i++[b]:=by rw[List.take_add_one,h];rfl
theorem j0v{s:ByteArray}(h:(bts (digs s)).all isD=false):pnum s=(0,1):=by unfold pnum;rw[if_pos h]
theorem j0w{s:ByteArray}(h:(bts (digs s)).all isD=true)(h0:(digs s).size=0∨((digs s)[0]? =some 48/\s≠ByteArray.mk (Array.mk [48]))):pnum s=(0,1):=by unfold pnum;rw[if_neg (by simp[h]),if_pos h0]
theorem j5i{s:ByteArray}(h:(bts (digs s)).all isD=true)(h0: ¬((digs s).size=0∨((digs s)[0]? =some 48/\s≠ByteArray.mk (Array.mk [48]))))(h1:1099511627776<valD 0 (bts (digs s))):pnum s=(0,3):=by unfold pnum;rw[if_neg (by simp[h]),if_neg h0,if_pos h1]
theorem v0o{s:ByteArray}(h:(bts (digs s)).all isD=true)(h0: ¬((digs s).size=0∨((digs s)[0]? =some 48/\s≠ByteArray.mk (Array.mk [48]))))(h1: ¬1099511627776<valD 0 (bts (digs s))):pnum s=(if (digs s).size<s.size then -(valD 0 (bts (digs s)):Int) else valD 0 (bts (digs s)),0):=by unfold pnum;rw[if_neg (by simp[h]),if_neg h0,if_neg h1]
theorem j7y{s:ByteArray}(h:(bts (digs s)).all isD=true)(h0: ¬((digs s).size=0∨((digs s)[0]? =some 48/\s≠ByteArray.mk (Array.mk [48]))))(hl:13<(digs s).size):1099511627776<valD 0 (bts (digs s)):=by
 have hs:s≠ByteArray.mk (Array.mk [48]):=by
  rintro rfl
  revert hl;decide
 cases hb:bts (digs s) with
 |nil=>have:=Gf (digs s);rw[hb] at this;simp at this;omega
 |cons c l=>
  have hc:(digs s)[0]? =some c:=by rw[q2n,hb];rfl
  have hc0:c≠48:=fun e=>h0 (.inr ⟨e▸hc,hs⟩)
  have hd:isD c=true:=by rw[hb,List.all_cons,Bool.and_eq_true] at h;exact h.1
  simp only[isD,Bool.and_eq_true,decide_eq_true_eq] at hd
  have hne:c.toNat≠48:=fun e=>hc0 (by rw[←UInt8.toNat_inj];exact e)
  have hlen:13<=l.length:=by have:=Gf (digs s);rw[hb] at this;simp at this;omega
  rw[j0u]
  have h1:=w8v l (z7g 0 c)
  have h2:10 ^ 13<=10 ^ l.length:=Nat.pow_le_pow_right (by decide) hlen
  have h3:1*10 ^ l.length<=z7g 0 c*10 ^ l.length:=Nat.mul_le_mul_right _ (by unfold z7g;omega)
  omega
theorem dsz{s:ByteArray}:(digs s).size<=s.size:=by
 unfold digs
 split
 ·rw[ByteArray.size_extract];omega
 ·omega
theorem j25{s:ByteArray}{K:Int->Int->Prop}(hs:s.size<=1000000000)(h:K (pnum s).1 (pnum s).2):G3 s K:=by
 unfold G3
 refine Jn1.mk (fun d=>d=digs s) ?_ fun d hd=> ?_
 ·refine Cnd.mk (fun h0=>⟨by omega,fun b hb=>Cnd.mk (fun h1=>⟨by omega,?_⟩) fun h1=> ?_⟩) fun h0=> ?_
  ·have:b=45:=by rw[←UInt8.toNat_inj];show b.toNat=45;omega
   unfold digs;rw[if_pos (by rw[←this];exact hb)];congr 1
  ·rw[q8f];intro e;rw[show Int.toNat 0=0 from rfl] at hb;rw[hb] at e;cases e;exact h1 rfl
  ·rw[q8f];intro e;have:=(List.getElem?_eq_some_iff.1 (q2n.1 e)).1;rw[Gf] at this;omega
 subst hd
 generalize hd:digs s=d at*
 have hz:d.size<=s.size:=hd▸dsz
 refine Lp1.ind (fun (i:Int)=>0<=i/\i<=d.size/\Clr (fun n=>n<48∨57<n) d i.toNat) (fun (i:Int)=>(d.size - i).toNat) ?_ ⟨by omega,by omega,Clr.zero⟩
 rintro i ⟨i0,i1,hc⟩
 refine Cnd.mk (fun h3=>⟨by omega,fun b hb=> ?_⟩) fun h3=> ?_
 ·have e:=y1i i0 (by omega) hb
  have hm:b∈bts d:=e▸j23 (by omega)
  refine Cnd.mk (fun h4=> ?_) fun h4=>⟨by omega,fun b' hb'=> ?_⟩
  ·rwa [j0v (by rw[hd];exact z3h hm (.inl (by omega)))] at h
  rw[hb] at hb';cases hb'
  refine Cnd.mk (fun h5=> ?_) fun h5=>⟨by unfold InI;omega,⟨by omega,by omega,fun j hj hs=> ?_⟩,by omega⟩
  ·rwa [j0v (by rw[hd];exact z3h hm (.inr (by omega)))] at h
  by_cases hji:j<i.toNat
  ·exact hc j hji hs
  ·rw[show j=i.toNat by omega,←e];omega
 have hall:(bts d).all isD=true:=w8y.2 (hc.all (by omega))
 have hall':(bts (digs s)).all isD=true:=by rw[hd];exact hall
 have fin: ¬((digs s).size=0∨((digs s)[0]? =some 48/\s≠ByteArray.mk (Array.mk [48])))-> ¬13<d.size->Lp2 (fun (Qg Up:Int) v07=>Cnd (Up<(↑d.size:Int)) (InI ((10:Int)*Qg)/\((0:Int)<=Up/\Up<(↑d.size:Int))/\ ∀b5,d[Up.toNat]? =some b5->InI (Go.IntKind.u8.wrap ((↑b5.toNat:Int) - (48:Int)))/\InI ((10:Int)*Qg+Go.IntKind.u8.wrap ((↑b5.toNat:Int) - (48:Int)))/\InI (Up+(1:Int))/\v07 ((10:Int)*Qg+Go.IntKind.u8.wrap ((↑b5.toNat:Int) - (48:Int))) (Up+(1:Int))) (Cnd ((1099511627776:Int)<Qg) (K (0:Int) (3:Int)) (Cnd ((↑d.size:Int)<(↑s.size:Int)) (InI ((0:Int) - Qg)/\K ((0:Int) - Qg) (0:Int)) (K Qg (0:Int))))) (0:Int) (0:Int):=fun hg h13=>by
  refine Lp2.ind (fun (n j:Int)=>0<=j/\j<=d.size/\n=(valD 0 ((bts d).take j.toNat):Int)) (fun _ (j:Int)=>(d.size - j).toNat) ?_ ⟨by omega,by omega,by simp[valD]⟩
  rintro n j ⟨j0,j1,rfl⟩
  have hb1:valD 0 ((bts d).take j.toNat)<1*10 ^ 13:=by
   have h1:=v6l ((bts d).take j.toNat) 0 (by rw[List.all_eq_true] at hall⊢;exact fun c hc=>hall c (List.mem_of_mem_take hc))
   have h2:((bts d).take j.toNat).length<=13:=by rw[List.length_take,Gf];omega
   have h3:10 ^ ((bts d).take j.toNat).length<=10 ^ 13:=Nat.pow_le_pow_right (by decide) h2
   omega
  refine Cnd.mk (fun hc=>⟨by unfold InI;omega,by omega,fun b hb=> ?_⟩) fun hc=> ?_
  ·have hm:b∈bts d:=List.mem_of_getElem? (q2n.1 hb)
   have hdg:isD b=true:=by rw[List.all_eq_true] at hall;exact hall b hm
   have hdg':=hdg
   simp only[isD,Bool.and_eq_true,decide_eq_true_eq] at hdg'
   rw[v2u hdg]
   refine⟨by unfold InI;omega,by unfold InI;omega,by unfold InI;omega,⟨by omega,by omega,?_⟩,by omega⟩
   rw[show (j+1).toNat=j.toNat+1 by omega,take_snoc (q2n.1 hb),v6k]
   unfold z7g;push_cast;omega
  ·have ht:(bts d).take j.toNat=bts d:=List.take_of_length_le (by rw[Gf];omega)
   rw[ht] at hb1⊢
   refine Cnd.mk (fun h1=> ?_) fun h1=> ?_
   ·rwa [j5i hall' hg (by rw[hd];omega)] at h
   ·rw[v0o hall' hg (by rw[hd];omega),hd] at h
    refine Cnd.mk (fun h2=>⟨by unfold InI;omega,?_⟩) fun h2=> ?_
    ·rw[if_pos (by omega)] at h;rwa [Int.zero_sub]
    ·rwa [if_neg (by omega)] at h
 have gone: ∀{b:UInt8},d[0]? =some b->(b≠48∨s=ByteArray.mk (Array.mk [48]))->d.size≠0-> ¬((digs s).size=0∨((digs s)[0]? =some 48/\s≠ByteArray.mk (Array.mk [48]))):=by
  rw[hd]
  rintro b hb h1 h2 (h3|⟨h3,h4⟩)
  ·exact h2 h3
  ·rw[hb] at h3;cases h3;rcases h1 with h1|h1
   ·exact h1 rfl
   ·exact h4 h1
 refine Cnd.mk (fun h4=> ?_) fun h4=> ?_
 ·rwa [j0w hall' (.inl (by rw[hd];exact v6r.1 h4))] at h
 have h5:d.size≠0:=fun e=>h4 (v6r.2 e)
 refine⟨by omega,fun b hb=> ?_⟩
 have hb:d[0]? =some b:=hb
 refine Cnd.mk (fun h6=> ?_) fun h6=> ?_
 ·have h6:b=48:=by rw[←UInt8.toNat_inj];show b.toNat=48;omega
  refine Cnd.mk (fun h7=> ?_) fun h7=> ?_
  ·refine Cnd.mk (fun h8=> ?_) fun h8=>fin (gone hb (.inr h7) h5) (by omega)
   rwa [j5i hall' (gone hb (.inr h7) h5) (j7y hall' (gone hb (.inr h7) h5) (by rw[hd];omega))] at h
  ·rwa [j0w hall' (.inr ⟨by rw[hd,hb,h6],h7⟩)] at h
 ·have hg:=gone hb (.inl fun e=>h6 (by rw[e];rfl)) h5
  refine Cnd.mk (fun h8=> ?_) fun h8=>fin hg (by omega)
  rwa [j5i hall' hg (j7y hall' hg (by rw[hd];omega))] at h
inductive PtS(s:ByteArray):Int->Int->Int->Int->Int->Prop
 |s0 {o0 o1 o2:Int}:PtS s 0 0 o0 o1 o2
 |s1 {o1 o2:Int} (h0:dot s 0<s.size/\okp (Hp s 0)=true):PtS s ((dot s 0+1:Nat):Int) 1 (Hp s 0).1 o1 o2
 |s2 {o2:Int} (h0:dot s 0<s.size/\okp (Hp s 0)=true) (h1:dot s (dot s 0+1)<s.size/\okp (Hp s (dot s 0+1))=true):PtS s ((dot s (dot s 0+1)+1:Nat):Int) 2 (Hp s 0).1 (Hp s (dot s 0+1)).1 o2
 |s3 {a:Int} (h:j9g s):PtS s a 3 (Hp s 0).1 (Hp s (dot s 0+1)).1 (Hp s (dot s (dot s 0+1)+1)).1
theorem z35{p:Int×Int}(h: ¬p.2=0∨p.1<0∨999999<p.1):okp p=false:=by
 unfold okp
 rw[Bool.eq_false_iff]
 simp only[ne_eq,Bool.and_eq_true,decide_eq_true_eq]
 omega
theorem w2q{p:Int×Int}(h0:p.2=0)(h1: ¬p.1<0)(h2: ¬999999<p.1):okp p=true:=by
 unfold okp
 simp only[Bool.and_eq_true,decide_eq_true_eq]
 omega
theorem PtS.le{s:ByteArray}{a i o0 o1 o2:Int}(h:PtS s a i o0 o1 o2)(hi:i<3):0<=a/\a<=s.size:=by
 cases h with
 |s0=>omega
 |s1 h0=>omega
 |s2 h0 h1=>omega
 |s3=>omega
theorem PtS.no{s:ByteArray}{a i o0 o1 o2:Int}(h:PtS s a i o0 o1 o2)(hi:i<3)(hb:okp (Hp s a.toNat)=false∨(i<2/\ ¬dot s a.toNat<s.size)∨(i=2/\dot s a.toNat<s.size)): ¬j9g s:=by
 rintro⟨⟨v1,v2⟩,⟨v3,v4⟩,v5,v6⟩
 cases h with
 |s0=>
  simp only[Int.toNat_zero] at hb
  rcases hb with hb|hb|hb
  ·rw[hb] at v2;cases v2
  ·exact hb.2 v1
  ·omega
 |s1 h0=>
  simp only[Int.toNat_natCast] at hb
  rcases hb with hb|hb|hb
  ·rw[hb] at v4;cases v4
  ·exact hb.2 v3
  ·omega
 |s2 h0 h1=>
  simp only[Int.toNat_natCast] at hb
  rcases hb with hb|hb|hb
  ·rw[hb] at v6;cases v6
  ·omega
  ·exact v5 hb.2
 |s3=>omega
theorem z86{s:ByteArray}{K:A3->Bool->Prop}(hs:s.size<=1000000000)(h:K (prt s).1 (prt s).2):z03 s K:=by
 unfold z03 j2c
 have no: ¬j9g s->K (0,0,0) false:=fun hn=>by rwa [y1h hn] at h
 refine LpH.ind (fun x=>PtS s x.1 x.2.1 x.2.2.1 x.2.2.2.1 x.2.2.2.2.1) (fun x=>(3 - x.2.1).toNat) ?_ .s0
 rintro⟨a,i,o0,o1,o2,x⟩ hp
 simp only at hp⊢
 refine Cnd.mk (fun hc=> ?_) fun hc=> ?_
 ·obtain⟨a0,a1⟩:=hp.le hc
  refine Lp1.ind (fun (j:Int)=>a<=j/\j<=s.size/\ ∀m:Nat,a.toNat<=m->(m:Int)<j->s[m]? ≠some 46) (fun (j:Int)=>(s.size - j).toNat) ?_ ⟨by omega,by omega,fun m h1 h2=>by omega⟩
  rintro j ⟨j0,j1,jn⟩
  have stop: ∀hj:dot s a.toNat=j.toNat,(0<=a/\a<=j/\j<=(s.size:Int))/\G3 (s.extract a.toNat j.toNat) fun Qh Ut=>Cnd (Ut=0) (Cnd (Qh<0) (K (0,0,0) false) (Cnd (999999<Qh) (K (0,0,0) false) (Cnd (decide (i<2)=decide (j<(s.size:Int))) ((0<=i/\i<((3:Nat):Int))/\((True/\(i=0->InI (j+1)/\InI (i+1)/\(PtS s (j+1) (i+1) Qh o1 o2/\(3 - (i+1)).toNat<(3 - i).toNat)))/\(i=1->InI (j+1)/\InI (i+1)/\(PtS s (j+1) (i+1) o0 Qh o2/\(3 - (i+1)).toNat<(3 - i).toNat)))/\(i=2->InI (j+1)/\InI (i+1)/\(PtS s (j+1) (i+1) o0 o1 Qh/\(3 - (i+1)).toNat<(3 - i).toNat))) (K (0,0,0) false)))) (K (0,0,0) false):=fun hj=>by
   refine⟨by omega,j25 (by rw[ByteArray.size_extract];omega) ?_⟩
   have ev:Hp s a.toNat=pnum (s.extract a.toNat j.toNat):=by unfold Hp;rw[hj]
   rw[←ev]
   refine Cnd.mk (fun h1=>Cnd.mk (fun h2=>no (hp.no hc (.inl (z35 (by omega))))) fun h2=>Cnd.mk (fun h3=>no (hp.no hc (.inl (z35 (by omega))))) fun h3=>Cnd.mk (fun h4=> ?_) fun h4=>no (hp.no hc ?_)) fun h1=>no (hp.no hc (.inl (z35 (by omega))))
   ·have ok:=w2q h1 h2 h3
    have h4:i<2↔j<(s.size:Int):=by simpa using h4
    have ej:j+1=((dot s a.toNat+1:Nat):Int):=by omega
    have hin:InI (j+1):=by unfold InI;omega
    have i0:0<=i:=by cases hp<;>omega
    have hin2:InI (i+1):=by unfold InI;omega
    cases hp with
    |s0=>
     refine⟨by omega,⟨⟨trivial,fun _=>⟨hin,hin2,?_,by omega⟩⟩,fun e=>by omega⟩,fun e=>by omega⟩
     rw[ej];exact .s1 ⟨by simp only[Int.toNat_zero] at hj⊢;omega,ok⟩
    |s1 h0=>
     refine⟨by omega,⟨⟨trivial,fun e=>by omega⟩,fun _=>⟨hin,hin2,?_,by omega⟩⟩,fun e=>by omega⟩
     rw[ej];simp only[Int.toNat_natCast] at hj ok⊢;exact .s2 h0 ⟨by omega,ok⟩
    |s2 h0 h1'=>
     refine⟨by omega,⟨⟨trivial,fun e=>by omega⟩,fun e=>by omega⟩,fun _=>⟨hin,hin2,?_,by omega⟩⟩
     simp only[Int.toNat_natCast] at hj ok⊢;exact .s3 ⟨h0,h1',by omega,ok⟩
    |s3=>omega
   ·have h4: ¬(i<2↔j<(s.size:Int)):=by simpa using h4
    have i0:0<=i:=by cases hp<;>omega
    rw[hj]
    by_cases h5:i<2
    ·exact .inr (.inl ⟨h5,fun h6=>h4 ⟨fun _=>by omega,fun _=>h5⟩⟩)
    ·refine .inr (.inr ⟨by omega,?_⟩)
     by_cases h6:j.toNat<s.size
     ·exact h6
     ·exact absurd ⟨fun h7=>absurd h7 h5,fun h7=>by omega⟩ h4
  refine Cnd.mk (fun hl=>⟨by omega,fun b hb=>Cnd.mk (fun hd=> ?_) fun hd=>⟨by unfold InI;omega,⟨by omega,by omega,fun m h1 h2=> ?_⟩,by omega⟩⟩) fun hl=> ?_
  ·have hb46:b=46:=by rw[←UInt8.toNat_inj];show b.toNat=46;omega
   exact stop (y6i (by omega) (hb46▸hb) fun m h1 h2=>jn m h1 (by omega))
  ·by_cases hm:(m:Int)<j
   ·exact jn m h1 hm
   ·rw[show m=j.toNat by omega,hb];intro e;cases e;exact hd rfl
  ·exact stop ((y33 (by omega) fun m h1 h2=>jn m h1 (by omega)).trans (by omega))
 ·cases hp with
  |s0=>omega
  |s1=>omega
  |s2=>omega
  |s3 hv=>rwa [v6p hv] at h
end Go.En
end
noncomputable section
set_option maxRecDepth 100000
namespace Go.En
open Go Go.Fl Go.Fl.Lk Go.Fx Go.Sg
theorem Cnd.ite{α:Type}{c:Prop}[Decidable c]{A B:α}{K:α->Prop}(h:K (if c then A else B)){X Y:Prop}(hx:c->K A->X)(hy: ¬c->K B->Y):Cnd c X Y:=⟨fun hc=>hx hc (by rwa [if_pos hc] at h),fun hc=>hy hc (by rwa [if_neg hc] at h)⟩
theorem j0x{s:ByteArray}{K:Bool->Prop}(h:K (vld s)):q8v s K:=by
 unfold q8v z4n
 refine Cnd.mk (fun h1=>by rwa [j3w (.inl (by omega))] at h) fun h1=>v6s (by omega) (Cnd.mk (fun h2=> ?_) fun h2=>by rwa [j3w (.inr (.inl (by simpa using h2)))] at h)
 refine Lp1.ind (fun (x:ByteArray×Nat)=>x.1=s/\Clr (fun n=>n<32∨n=127) s x.2) (fun x=>s.size - x.2) ?_ ⟨rfl,Clr.zero⟩
 rintro⟨s',p⟩ ⟨rfl,hc⟩
 dsimp only at hc⊢
 refine Cnd.mk (fun h3=>Cnd.mk (fun h4=> ?_) fun h4=>Cnd.mk (fun h5=> ?_) fun h5=>⟨⟨rfl,hc.step badP (fun e=>by rcases e with e|e<;>omega)⟩,by have:=v6j s' p;omega⟩) fun h3=>by rwa [v6t (by omega) h2 (hc.all (by omega))] at h
 ·rwa [j3w (.inr (.inr ⟨_,j23 h3,j5h badP (.inl (by omega))⟩))] at h
 ·rwa [j3w (.inr (.inr ⟨_,j23 h3,j5h badP (.inr (by omega))⟩))] at h
theorem w2r{s t:ByteArray}:bts s=bts t↔s=t:=⟨fun h=>w9j h,fun h=>by rw[h]⟩
def wth(s t:ByteArray)(i:Int):Bool:=decide (0<=i/\i+t.size<=s.size/\s.extract i.toNat (i+t.size).toNat=t)
theorem w8z{s t:ByteArray}{i:Int}{p:Prop}[Decidable p](h0:0<=i)(h1:i+t.size<=s.size)(hp:p↔s.extract i.toNat (i+t.size).toNat=t):wth s t i=decide p:=by
 unfold wth
 rw[decide_eq_decide,hp]
 exact⟨fun h=>h.2.2,fun h=>⟨h0,h1,h⟩⟩
theorem v0p{s t:ByteArray}{i:Int}(h: ¬(0<=i/\i+t.size<=s.size)):wth s t i=false:=by
 unfold wth
 rw[decide_eq_false_iff_not]
 exact fun k=>h ⟨k.1,k.2.1⟩
theorem j7z{s t:ByteArray}{i:Int}{K:Bool->Prop}(hi:i<=4000000000)(ht:t.size<=4000000000)(h:K (wth s t i)):q4h s t i K:=by
 unfold q4h
 refine Cnd.mk (fun h0=>⟨by unfold InI;omega,Cnd.mk (fun h1=>⟨by unfold InI;omega,⟨by omega,by omega,by omega⟩,?_⟩) fun h1=> ?_⟩) fun h0=> ?_
 ·rwa [w8z h0 h1 Iff.rfl] at h
 ·rwa [v0p (by omega)] at h
 ·rwa [v0p (by omega)] at h
theorem w54{s t:ByteArray}{K:Bool->Prop}(h:K (wth s t 0)):U0 s t K:=by
 unfold U0 q0f Jp
 refine Cnd.mk (fun h0=>⟨by omega,?_⟩) fun h0=> ?_
 ·rwa [w8z (by omega) (by omega) (p:=s.extract (Int.toNat 0) (t.size:Int).toNat=t) (by rw[Int.zero_add])] at h
 ·rwa [v0p (by omega)] at h
theorem w55{s t:ByteArray}{K:Bool->Prop}(hs:s.size<=4000000000)(ht:t.size<=4000000000)(h:K (wth s t ((s.size:Int) - t.size))):U2 s t K:=by
 unfold U2 q0g U1
 refine Cnd.mk (fun h0=>⟨by unfold InI;omega,by omega,?_⟩) fun h0=> ?_
 ·rwa [w8z (by omega) (by omega) (p:=s.extract ((s.size:Int) - t.size).toNat (s.size:Int).toNat=t) (by rw[show (s.size:Int) - t.size+t.size=s.size by omega])] at h
 ·rwa [v0p (by omega)] at h
theorem j0y{s:ByteArray}{i n:Nat}:bts (s.extract i (i+n))=((bts s).drop i).take n:=by
 show (s.extract i (i+n)).data.toList=_
 rw[ByteArray.data_extract,Array.toList_extract,List.extract_eq_take_drop]
 rw[show i+n - i=n by omega]
theorem v6u{s:ByteArray}{K:ByteArray->Bool->Prop}(h:K (digs s) (decide (s[0]? =some 45))):U5 s (ByteArray.mk (Array.mk [45])) K:=by
 unfold U5 q0h U4 U3 Jp
 have e1:(ByteArray.mk (Array.mk [45])).size=1:=rfl
 rw[e1]
 refine Cnd.mk (fun h0=>⟨by omega,Cnd.mk (fun h1=>⟨by omega,?_⟩) fun h1=> ?_⟩) fun h0=>Cnd.mk (fun h1=>by cases h1) fun _=> ?_
 ·have h1:=of_decide_eq_true h1
  have hm:s[0]? =some 45:=by
   have h2:=congrArg bts h1
   rw[show s.extract (Int.toNat 0) ((1:Nat):Int).toNat=s.extract 0 (0+1) from rfl,j0y] at h2
   rw[q2n]
   have h3:((bts s).drop 0).take 1=[45]:=h2
   rw[List.drop_zero] at h3
   cases hb:bts s with
   |nil=>rw[hb] at h3;cases h3
   |cons c l=>rw[hb] at h3;simp at h3;rw[h3];rfl
  rw[decide_eq_true hm] at h
  unfold digs at h;rw[if_pos hm] at h
  exact h
 ·have hm: ¬s[0]? =some 45:=by
   intro hm
   refine h1 (decide_eq_true ?_)
   rw[←w2r,show s.extract (Int.toNat 0) ((1:Nat):Int).toNat=s.extract 0 (0+1) from rfl,j0y,(j24 hm).1]
   rfl
  rw[decide_eq_false hm,q8f hm] at h
  exact h
 ·have hm: ¬s[0]? =some 45:=fun e=>by have:=(List.getElem?_eq_some_iff.1 (q2n.1 e)).1;rw[Gf] at this;omega
  rw[decide_eq_false hm,q8f hm] at h
  exact h
theorem w56{s:ByteArray}(h:(digs s)[0]? =some 48)(hs:s≠ByteArray.mk (Array.mk [48])):pnum s=(0,1):=by
 cases ha:(bts (digs s)).all isD with
 |false=>exact j0v ha
 |true=>exact j0w ha (.inr ⟨h,hs⟩)
theorem q0r{s:ByteArray}{K:Int->Int->Prop}(hs:s.size<=1000000000)(h:K (pnum s).1 (pnum s).2):Hi s K:=by
 unfold Hi q1j
 refine v6u ?_
 have fin: ¬((digs s).size=0∨((digs s)[0]? =some 48/\s≠ByteArray.mk (Array.mk [48])))->Lp1 (fun (Qd:ByteArray×Nat) z7h=>Cnd (Qd.snd<Qd.fst.size) (Cnd (((Go.Utf8.decode Qd.fst Qd.snd).fst:Int)<48) (K 0 1) (Cnd (57<((Go.Utf8.decode Qd.fst Qd.snd).fst:Int)) (K 0 1) (z7h (Qd.fst,Qd.snd+(Go.Utf8.decode Qd.fst Qd.snd).snd)))) (q3p s fun Qg Up=>Cnd ((match (Qg,Up,()).snd.fst with|true=>false|false=>true)=true) (K 0 3) (Cnd (Qg< -1099511627776) (K 0 3) (Cnd (1099511627776<Qg) (K 0 3) (K Qg 0))))) (digs s,0):=fun hg=>by
  refine Lp1.ind (fun (x:ByteArray×Nat)=>x.1=digs s/\Clr (fun n=>n<48∨57<n) (digs s) x.2) (fun x=>(digs s).size - x.2) ?_ ⟨rfl,Clr.zero⟩
  rintro⟨d,p⟩ ⟨hd,hc⟩
  dsimp only at hd hc⊢
  subst hd
  refine Cnd.mk (fun h3=>Cnd.mk (fun h4=> ?_) fun h4=>Cnd.mk (fun h5=> ?_) fun h5=>⟨⟨rfl,hc.step digP (fun e=>by rcases e with e|e<;>omega)⟩,by have:=v6j (digs s) p;omega⟩) fun h3=> ?_
  ·rwa [j0v (z3h (j23 h3) (j5h digP (.inl (by omega))))] at h
  ·rwa [j0v (z3h (j23 h3) (j5h digP (.inr (by omega))))] at h
  have hall:=w8y.2 (hc.all (by omega))
  refine⟨by omega,?_⟩
  unfold v9s
  rw[w8w hall fun e=>hg (.inl e)]
  have hsz:(digs s).size<s.size↔s[0]? =some 45:=by
   by_cases hm:s[0]? =some 45
   ·have:=(j24 hm).2;exact⟨fun _=>hm,fun _=>by omega⟩
   ·rw[q8f hm];exact⟨fun e=>by omega,fun e=>absurd e hm⟩
  by_cases hv:1099511627776<valD 0 (bts (digs s))
  ·rw[j5i hall hg hv] at h
   by_cases hl:valD 0 (bts (digs s))<=(if s[0]? =some 45 then 9223372036854775808 else 9223372036854775807)
   ·rw[if_pos hl]
    dsimp only
    by_cases hm:s[0]? =some 45
    ·rw[if_pos hm]
     exact Cnd.mk (fun e=>by cases e) fun _=>Cnd.mk (fun _=>h) fun e=>by omega
    ·rw[if_neg hm]
     exact Cnd.mk (fun e=>by cases e) fun _=>Cnd.mk (fun _=>h) fun _=>Cnd.mk (fun _=>h) fun e=>by omega
   ·rw[if_neg hl]
    exact Cnd.mk (fun _=>h) fun e=>absurd rfl e
  ·rw[v0o hall hg hv] at h
   rw[if_pos (by split<;>omega)]
   dsimp only
   by_cases hm:s[0]? =some 45
   ·rw[if_pos hm];rw[if_pos (hsz.2 hm)] at h
    exact Cnd.mk (fun e=>by cases e) fun _=>Cnd.mk (fun e=>by omega) fun _=>Cnd.mk (fun e=>by omega) fun _=>h
   ·rw[if_neg hm];rw[if_neg (fun e=>hm (hsz.1 e))] at h
    exact Cnd.mk (fun e=>by cases e) fun _=>Cnd.mk (fun e=>by omega) fun _=>Cnd.mk (fun e=>by omega) fun _=>h
 refine Cnd.mk (fun h0=> ?_) fun h0=>⟨⟨by omega,?_⟩,fun b hb=> ?_⟩
 ·have hz:(digs s).size=0:=v6r.1 h0
  have ha:(bts (digs s)).all isD=true:=by
   have:bts (digs s)=[]:=List.length_eq_zero_iff.1 hz
   rw[this];rfl
  rwa [j0w ha (.inl hz)] at h
 ·refine Int.not_le.1 fun hn=>h0 (v6r.2 (by omega))
 have hb:(digs s)[0]? =some b:=hb
 have hne:(digs s).size≠0:=fun e=>h0 (v6r.2 e)
 refine Cnd.mk (fun h1=> ?_) fun h1=>fin ?_
 ·have hb48:b=48:=by rw[←UInt8.toNat_inj];show b.toNat=48;omega
  subst hb48
  refine Cnd.mk (fun h2=> ?_) fun h2=>Cnd.mk (fun h3=> ?_) fun h3=>fin ?_
  ·rwa [w56 hb (by rintro rfl;revert h2;decide)] at h
  ·have h3:=of_decide_eq_true h3
   rwa [w56 hb (by rintro rfl;revert h3;decide)] at h
  ·have hm: ¬s[0]? =some 45:=fun e=>h3 (decide_eq_true e)
   rw[q8f hm] at hb h2 hne⊢
   rintro (h4|⟨_,h4⟩)
   ·exact hne h4
   ·refine h4 ?_
    rw[←w2r]
    have hl:(bts s).length=1:=by rw[Gf];omega
    rw[q2n] at hb
    cases hbs:bts s with
    |nil=>rw[hbs] at hl;cases hl
    |cons c l=>
     rw[hbs] at hb hl
     have:l=[]:=List.length_eq_zero_iff.1 (by simpa using hl)
     subst this
     simp at hb;rw[hb]
 ·rintro (h4|⟨h4,_⟩)
  ·exact hne h4
  ·rw[hb] at h4;cases h4;exact h1 rfl
end Go.En
end
noncomputable section
set_option maxRecDepth 100000
namespace Go.En
open Go Go.Fl Go.Fl.Lk Go.Fx Go.Sg
def shp(v:Val):Bool:=
 if v.1=1∨v.1=2 then decide (v.3=ByteArray.mk (Array.mk [])) && decide ((v.4.length:Int)=0)
 else if v.1=3∨v.1=4 then decide (v.2=0) && decide ((v.4.length:Int)=0)
 else decide (v.2=0) && decide (v.3=ByteArray.mk (Array.mk []))
theorem w80{v:Val}{K:Bool->Prop}(h0: ¬v.1<1)(h5: ¬5<v.1)(h:K (shp v)):z6h v K:=by
 unfold z6h
 unfold shp at h
 have hk:v.1=1∨v.1=2∨v.1=3∨v.1=4∨v.1=5:=by omega
 rcases hk with e|e|e|e|e<;>rw[e] at h⊢ <;>simp only[show ¬(1:Int)=3 by decide,show ¬(1:Int)=5 by decide,show ¬(1:Int)=4 by decide,show ¬(1:Int)=2 by decide,show ¬(2:Int)=1 by decide,show ¬(2:Int)=3 by decide,show ¬(2:Int)=4 by decide,show ¬(2:Int)=5 by decide,show ¬(3:Int)=1 by decide,show ¬(3:Int)=2 by decide,show ¬(3:Int)=4 by decide,show ¬(3:Int)=5 by decide,show ¬(4:Int)=1 by decide,show ¬(4:Int)=2 by decide,show ¬(4:Int)=3 by decide,show ¬(4:Int)=5 by decide,show ¬(5:Int)=1 by decide,show ¬(5:Int)=2 by decide,show ¬(5:Int)=3 by decide,show ¬(5:Int)=4 by decide,Cnd,true_or,or_true,or_self,if_true,if_false,true_implies,false_implies,and_true,true_and,not_true,not_false_eq_true] at h⊢
 ·refine⟨fun h1 _=> ?_,fun h1=> ?_⟩
  ·rwa [decide_eq_true h1,Bool.true_and] at h
  ·rwa [decide_eq_false h1,Bool.false_and] at h
 ·refine⟨fun h1 _=> ?_,fun h1=> ?_⟩
  ·rwa [decide_eq_true h1,Bool.true_and] at h
  ·rwa [decide_eq_false h1,Bool.false_and] at h
 ·refine⟨fun h1 _=> ?_,fun h1=> ?_⟩
  ·rwa [decide_eq_true h1,Bool.true_and] at h
  ·rwa [decide_eq_false h1,Bool.false_and] at h
 ·refine⟨fun h1 _=> ?_,fun h1=> ?_⟩
  ·rwa [decide_eq_true h1,Bool.true_and] at h
  ·rwa [decide_eq_false h1,Bool.false_and] at h
 ·refine⟨fun h1=>⟨fun h2=> ?_,fun h2=> ?_⟩,fun h1=> ?_⟩
  ·rwa [decide_eq_true h1,decide_eq_true h2] at h
  ·rwa [decide_eq_true h1,decide_eq_false h2] at h
  ·rwa [decide_eq_false h1,Bool.false_and] at h
theorem j9h{v:Val}{K:Bool->Prop}(h:K (shp v)):q5r v K:=by
 unfold q5r
 unfold shp at h
 refine Jn1.mk (fun b=>b=decide (v.1=1∨v.1=2)) ?_ ?_
 ·refine Cnd.mk (fun e=> ?_) fun e=> ?_
  ·exact decide_eq_decide.2 ⟨fun e=> .inl e,fun _=>e⟩
  ·exact decide_eq_decide.2 ⟨fun e=> .inr e,fun k=>k.resolve_left e⟩
 rintro _ rfl
 refine Cnd.mk (fun e=> ?_) fun e=> ?_
 ·have e:=of_decide_eq_true e
  rw[if_pos e] at h
  refine Cnd.mk (fun h1 _=> ?_) fun h1=> ?_
  ·rwa [decide_eq_true h1,Bool.true_and] at h
  ·rwa [decide_eq_false h1,Bool.false_and] at h
 have e: ¬(v.1=1∨v.1=2):=fun k=>e (decide_eq_true k)
 rw[if_neg e] at h
 refine Jn1.mk (fun b=>b=decide (v.1=3∨v.1=4)) ?_ ?_
 ·refine Cnd.mk (fun e=> ?_) fun e=> ?_
  ·exact decide_eq_decide.2 ⟨fun e=> .inl e,fun _=>e⟩
  ·exact decide_eq_decide.2 ⟨fun e=> .inr e,fun k=>k.resolve_left e⟩
 rintro _ rfl
 refine Cnd.mk (fun e=> ?_) fun e=> ?_
 ·have e:=of_decide_eq_true e
  rw[if_pos e] at h
  refine Cnd.mk (fun h1 _=> ?_) fun h1=> ?_
  ·rwa [decide_eq_true h1,Bool.true_and] at h
  ·rwa [decide_eq_false h1,Bool.false_and] at h
 have e: ¬(v.1=3∨v.1=4):=fun k=>e (decide_eq_true k)
 rw[if_neg e] at h
 refine Cnd.mk (fun h1=> ?_) fun h1=> ?_
 ·rwa [decide_eq_true h1,Bool.true_and] at h
 ·rwa [decide_eq_false h1,Bool.false_and] at h
def Chn(l:List ByteArray):Prop:= ∀(i:Nat) x y,l[i]? =some x->l[i+1]? =some y->blt x y
open Classical in
def lchk(l:List ByteArray):Int:=
 if 20<(l.length:Int) then 5 else if ∃x∈l,vld x=false then 2 else if Chn l then 0 else 9
theorem v0q{l:List ByteArray}{x:ByteArray}(h: ¬20<(l.length:Int))(hx:x∈l)(hv: ¬vld x=true):lchk l=2:=by
 unfold lchk;rw[if_neg h,if_pos ⟨x,hx,by simpa using hv⟩]
theorem v0r{l:List ByteArray}(h: ¬20<(l.length:Int))(hx: ∀x∈l,vld x=true)(hn: ¬Chn l):lchk l=9:=by
 unfold lchk;rw[if_neg h,if_neg (fun ⟨x,h1,h2⟩=>by rw[hx x h1] at h2;cases h2),if_neg hn]
theorem v6v{l:List ByteArray}(h: ¬20<(l.length:Int))(hx: ∀x∈l,vld x=true)(hn:Chn l):lchk l=0:=by
 unfold lchk;rw[if_neg h,if_neg (fun ⟨x,h1,h2⟩=>by rw[hx x h1] at h2;cases h2),if_pos hn]
theorem v2v{l:List ByteArray}{K:Int->Prop}(h:K (lchk l)):z91 l K:=by
 unfold z91 j6j
 intro _
 refine Cnd.mk (fun h1=>by unfold lchk at h;rwa [if_pos h1] at h) fun h1=> ?_
 refine Lp1.ind (fun (i:Int)=>0<=i/\i<=l.length/\ ∀x∈l.take i.toNat,vld x=true) (fun (i:Int)=>(l.length - i).toNat) ?_ ⟨by omega,by omega,by simp⟩
 rintro i ⟨i0,i1,hv⟩ _
 refine Cnd.mk (fun hc=>⟨by omega,fun y hy=>j7x (Cnd.mk (fun hy2=>⟨by unfold InI;omega,⟨by omega,by omega,?_⟩,by omega⟩) fun hy2=>by rwa [v0q h1 (getm hy) hy2] at h)⟩) fun hc=> ?_
 ·rw[show (i+1).toNat=i.toNat+1 by omega,List.take_add_one,hy]
  exact B3 hv hy2
 rw[List.take_of_length_le (by omega)] at hv
 refine Lp1.ind (fun (i:Int)=>1<=i/\ ∀(j:Nat) x y,(j:Int)+1<i->l[j]? =some x->l[j+1]? =some y->blt x y) (fun (i:Int)=>(l.length - i).toNat) ?_ ⟨by omega,fun j x y hj=>by omega⟩
 rintro i ⟨i0,hb⟩ _
 refine Cnd.mk (fun hc=>⟨by omega,fun y hy=>⟨by unfold InI;omega,by omega,fun x hx=>Cnd.mk (fun h2=>⟨by unfold InI;omega,⟨by omega,fun j a b hj ha hb'=> ?_⟩,by omega⟩) fun h2=> ?_⟩⟩) fun hc=> ?_
 ·by_cases hji:(j:Int)+1<i
  ·exact hb j a b hji ha hb'
  ·rw[show j=(i - 1).toNat by omega] at ha;rw[show j+1=i.toNat by omega] at hb'
   rw[ha] at hx;rw[hb'] at hy;cases hx;cases hy;exact h2
 ·rwa [v0r h1 hv fun hn=>h2 (hn (i - 1).toNat x y hx (by rw[show (i - 1).toNat+1=i.toNat by omega];exact hy))] at h
 ·rwa [v6v h1 hv fun j x y hx hy=>hb j x y (by have:=(List.getElem?_eq_some_iff.1 hy).1;omega) hx hy] at h
def vchk(v:Val):Int:=
 if v.1<1 then 7 else if 5<v.1 then 7 else if shp v=true then
  (if v.1=1 then (if v.2=0 then 0 else if v.2=1 then 0 else 3)
  else if v.1=2 then (if v.2< -1099511627776 then 3 else if 1099511627776<v.2 then 3 else 0)
  else if v.1=3 then (if vld v.3=true then 0 else 2)
  else if v.1=4 then (if (prt v.3).2=true then 0 else 1)
  else if v.1=5 then lchk v.4 else 0) else 15
theorem j70{v:Val}{K:Int->Prop}(hv:v.3.size<=1000000000)(h:K (vchk v)):z6i v K:=by
 unfold z6i j2d
 unfold vchk at h
 refine Cnd.ite h (fun _ h=>h) fun h0 h=>Cnd.ite h (fun _ h=>h) fun h5 h=>w80 h0 h5 (Cnd.ite h (fun _ h=> ?_) fun _ h=>h)
 refine Cnd.ite h (fun _ h=>Cnd.ite h (fun _ h=>h) fun _ h=>Cnd.ite h (fun _ h=>h) fun _ h=>h) fun _ h=> ?_
 refine Cnd.ite h (fun _ h=>Cnd.ite h (fun _ h=>h) fun _ h=>Cnd.ite h (fun _ h=>h) fun _ h=>h) fun _ h=> ?_
 refine Cnd.ite h (fun _ h=>j7x (Cnd.ite h (fun _ h=>h) fun _ h=>h)) fun _ h=> ?_
 refine Cnd.ite h (fun _ h=>z86 hv (Cnd.ite h (fun _ h=>h) fun _ h=>h)) fun _ h=> ?_
 exact Cnd.ite h (fun _ h=>v2v h) fun _ h=>h
inductive VpS(s:ByteArray):Int->Int->Int->Int->Prop
 |s0 {o0 o1 o2:Int}:VpS s 0 o0 o1 o2
 |s1 {o1 o2:Int} (h0:okp (Hp s 0)=true):VpS s 1 (Hp s 0).1 o1 o2
 |s2 {o2:Int} (h0:okp (Hp s 0)=true) (h1:okp (Hp s (dot s 0+1))=true):VpS s 2 (Hp s 0).1 (Hp s (dot s 0+1)).1 o2
 |s3 (h0:okp (Hp s 0)=true) (h1:okp (Hp s (dot s 0+1))=true) (h2:okp (Hp s (dot s (dot s 0+1)+1))=true):VpS s 3 (Hp s 0).1 (Hp s (dot s 0+1)).1 (Hp s (dot s (dot s 0+1)+1)).1
theorem j26{s:ByteArray}{i j:Nat}:(s.extract i j).size<=s.size:=by rw[ByteArray.size_extract];omega
theorem z0k{s:ByteArray}{K:A3->Bool->Prop}(hs:s.size<=1000000000)(h:K (prt s).1 (prt s).2):q1k s K:=by
 unfold q1k z1s
 have no: ¬j9g s->K (0,0,0) false:=fun hn=>by rwa [y1h hn] at h
 refine⟨rfl,by omega,fun _=>Cnd.mk (fun h3 _=> ?_) fun h3=>no fun hv=>h3 ?_⟩
 ·have hd:=j7w.1 (show (q0s s dotB).length=3 from (by have h3':((q0s s dotB).length:Int)=3:=h3;omega))
  rw[w8x hd]
  refine LpH.ind (fun x=>VpS s x.1 x.2.1 x.2.2.1 x.2.2.2.1) (fun x=>(3 - x.1).toNat) ?_ .s0
  rintro⟨i,o0,o1,o2,x⟩ hp
  simp only[CAt,At,List.length_cons,List.length_nil] at hp⊢
  cases hp with
  |s0=>
   refine Cnd.mk (fun _=>⟨by omega,fun y hy=> ?_⟩) fun hc=>by omega
   cases hy
   refine q0r (Nat.le_trans j26 hs) ?_
   rw[show pnum (s.extract 0 (dot s 0))=Hp s 0 from rfl]
   refine Cnd.mk (fun h1=>Cnd.mk (fun h2=>no fun hv=> ?_) fun h2=>Cnd.mk (fun h3=>no fun hv=> ?_) fun h3=>⟨by omega,⟨⟨trivial,fun _=>⟨by unfold InI;omega,.s1 (w2q h1 h2 h3),by omega⟩⟩,fun e=>by omega⟩,fun e=>by omega⟩) fun h1=>no fun hv=> ?_
   ·have:=hv.1.2;rw[z35 (by omega)] at this;cases this
   ·have:=hv.1.2;rw[z35 (by omega)] at this;cases this
   ·have:=hv.1.2;rw[z35 (by omega)] at this;cases this
  |s1 h0=>
   refine Cnd.mk (fun _=>⟨by omega,fun y hy=> ?_⟩) fun hc=>by omega
   cases hy
   refine q0r (Nat.le_trans j26 hs) ?_
   rw[show pnum (s.extract (dot s 0+1) (dot s (dot s 0+1)))=Hp s (dot s 0+1) from rfl]
   refine Cnd.mk (fun h1=>Cnd.mk (fun h2=>no fun hv=> ?_) fun h2=>Cnd.mk (fun h3=>no fun hv=> ?_) fun h3=>⟨by omega,⟨⟨trivial,fun e=>by omega⟩,fun _=>⟨by unfold InI;omega,.s2 h0 (w2q h1 h2 h3),by omega⟩⟩,fun e=>by omega⟩) fun h1=>no fun hv=> ?_
   ·have:=hv.2.1.2;rw[z35 (by omega)] at this;cases this
   ·have:=hv.2.1.2;rw[z35 (by omega)] at this;cases this
   ·have:=hv.2.1.2;rw[z35 (by omega)] at this;cases this
  |s2 h0 h0'=>
   refine Cnd.mk (fun _=>⟨by omega,fun y hy=> ?_⟩) fun hc=>by omega
   cases hy
   refine q0r (Nat.le_trans j26 hs) ?_
   rw[show pnum (s.extract (dot s (dot s 0+1)+1) (dot s (dot s (dot s 0+1)+1)))=Hp s (dot s (dot s 0+1)+1) from rfl]
   refine Cnd.mk (fun h1=>Cnd.mk (fun h2=>no fun hv=> ?_) fun h2=>Cnd.mk (fun h3=>no fun hv=> ?_) fun h3=>⟨by omega,⟨⟨trivial,fun e=>by omega⟩,fun e=>by omega⟩,fun _=>⟨by unfold InI;omega,.s3 h0 h0' (w2q h1 h2 h3),by omega⟩⟩) fun h1=>no fun hv=> ?_
   ·have:=hv.2.2.2;rw[z35 (by omega)] at this;cases this
   ·have:=hv.2.2.2;rw[z35 (by omega)] at this;cases this
   ·have:=hv.2.2.2;rw[z35 (by omega)] at this;cases this
  |s3 h0 h1 h2=>
   refine Cnd.mk (fun hc=>by omega) fun hc=> ?_
   rwa [v6p (show j9g s from ⟨⟨hd.1,h0⟩,⟨hd.2.1,h1⟩,hd.2.2,h2⟩)] at h
 ·have h3':(q0s s dotB).length=3:=j7w.2 ⟨hv.1.1,hv.2.1.1,hv.2.2.1⟩
  exact congrArg (fun n:Nat=>(n:Int)) h3'
theorem z7s{v:Val}{K:Int->Prop}(hv:v.3.size<=1000000000)(h:K (vchk v)):q5s v K:=by
 unfold q5s z1t
 unfold vchk at h
 refine Cnd.ite h (fun _ h=>h) fun h0 h=>Cnd.ite h (fun _ h=>h) fun h5 h=>j9h (Cnd.ite h (fun _ h=> ?_) fun _ h=>h)
 refine Cnd.ite h (fun _ h=>Cnd.ite h (fun _ h=>h) fun _ h=>Cnd.ite h (fun _ h=>h) fun _ h=>h) fun _ h=> ?_
 refine Cnd.ite h (fun _ h=>Cnd.ite h (fun _ h=>h) fun _ h=>Cnd.ite h (fun _ h=>h) fun _ h=>h) fun _ h=> ?_
 refine Cnd.ite h (fun _ h=>j0x (Cnd.ite h (fun _ h=>h) fun _ h=>h)) fun _ h=> ?_
 refine Cnd.ite h (fun _ h=>z0k hv (Cnd.ite h (fun _ h=>h) fun _ h=>h)) fun _ h=> ?_
 refine Cnd.ite h (fun _ h=> ?_) fun _ h=>h
 generalize v.4=l at h⊢
 intro _
 refine Cnd.mk (fun h1=>by unfold lchk at h;rwa [if_pos h1] at h) fun h1 _=> ?_
 refine Lp1.ind (fun (i:Int)=>0<=i/\i<=l.length/\ ∀x∈l.take i.toNat,vld x=true) (fun (i:Int)=>(l.length - i).toNat) ?_ ⟨by omega,by omega,by simp⟩
 rintro i ⟨i0,i1,hv⟩
 refine Cnd.mk (fun hc=>⟨by omega,fun y hy=>j0x (Cnd.mk (fun hy2=>⟨by unfold InI;omega,⟨by omega,by omega,?_⟩,by omega⟩) fun hy2=>by rwa [v0q h1 (getm hy) hy2] at h)⟩) fun hc _=> ?_
 ·rw[show (i+1).toNat=i.toNat+1 by omega,List.take_add_one,hy]
  exact B3 hv hy2
 rw[List.take_of_length_le (by omega)] at hv
 refine Lp1.ind (fun (i:Int)=>0<=i/\ ∀(j:Nat) x y,(j:Int)+1<i->l[j]? =some x->l[j+1]? =some y->blt x y) (fun (i:Int)=>(l.length - i).toNat) ?_ ⟨by omega,fun j x y hj=>by omega⟩
 rintro i ⟨i0,hb⟩
 refine Cnd.mk (fun hc=>Cnd.mk (fun hp=>⟨by unfold InI;omega,by omega,fun x hx=>⟨by omega,fun y hy=>Cnd.mk (fun h2=>⟨by unfold InI;omega,⟨by omega,fun j a b hj ha hb'=> ?_⟩,by omega⟩) fun h2=> ?_⟩⟩) fun hp=>⟨by unfold InI;omega,⟨by omega,fun j a b hj=>by omega⟩,by omega⟩) fun hc=> ?_
 ·by_cases hji:(j:Int)+1<i
  ·exact hb j a b hji ha hb'
  ·rw[show j=(i - 1).toNat by omega] at ha;rw[show j+1=i.toNat by omega] at hb'
   rw[ha] at hx;rw[hb'] at hy;cases hx;cases hy;exact h2
 ·rwa [v0r h1 hv fun hn=>h2 (hn (i - 1).toNat x y hx (by rw[show (i - 1).toNat+1=i.toNat by omega];exact hy))] at h
 ·rwa [v6v h1 hv fun j x y hx hy=>hb j x y (by have:=(List.getElem?_eq_some_iff.1 hy).1;omega) hx hy] at h
def sg(l g:Prop)[Decidable l][Decidable g]:Int:=if l then -1 else if g then 1 else 0
def cmp3(x y:Int×Int×Int):Int:=
 if x.1=y.1 then (if x.2.1=y.2.1 then (if x.2.2=y.2.2 then 0 else sg (x.2.2<y.2.2) True) else sg (x.2.1<y.2.1) True) else sg (x.1<y.1) True
def vcmp(a b:Val):Int×Int:=
 if vchk a=0 then (if vchk b=0 then (if a.1=b.1 then (if a.1=1 then (0,8) else if a.1=5 then (0,8) else if a.1=2 then (sg (a.2<b.2) (b.2<a.2),0) else if a.1=3 then (sg (blt a.3 b.3) (blt b.3 a.3),0) else (cmp3 (prt a.3).1 (prt b.3).1,0)) else (0,8)) else (0,vchk b)) else (0,vchk a)
theorem w0g{l g:Prop}[Decidable l][Decidable g]{K:Int->Prop}(h:K (sg l g)):z05 (decide l) (decide g) K:=by
 unfold z05
 unfold sg at h
 exact Cnd.ite (c:=l) h (fun _ h=>h) (fun _ h=>Cnd.ite (c:=g) h (fun _ h=>h) fun _ h=>h)|>fun k=>⟨fun e=>k.1 (of_decide_eq_true e),fun e=>⟨fun e2=>(k.2 fun e3=>e (decide_eq_true e3)).1 (of_decide_eq_true e2),fun e2=>(k.2 fun e3=>e (decide_eq_true e3)).2 fun e3=>e2 (decide_eq_true e3)⟩⟩
theorem z5m{l:Prop}[Decidable l]{K:Int->Prop}(h:K (sg l True)):z05 (decide l) true K:=by
 unfold z05
 unfold sg at h
 refine Cnd.mk (fun e=> ?_) fun e=>Cnd.mk (fun _=> ?_) fun e=>absurd rfl e
 ·rwa [if_pos (of_decide_eq_true e)] at h
 ·rwa [if_neg (fun k=>e (decide_eq_true k)),if_pos trivial] at h
inductive CpS(x y:Int×Int×Int):Int->Prop
 |c0:CpS x y 0
 |c1 (h:x.1=y.1):CpS x y 1
 |c2 (h:x.1=y.1) (h':x.2.1=y.2.1):CpS x y 2
 |c3 (h:x.1=y.1) (h':x.2.1=y.2.1) (h'':x.2.2=y.2.2):CpS x y 3
theorem v6w{x y:Int×Int×Int}(h: ¬x.1=y.1):cmp3 x y=sg (x.1<y.1) True:=by unfold cmp3;rw[if_neg h]
theorem v6x{x y:Int×Int×Int}(h:x.1=y.1)(h': ¬x.2.1=y.2.1):cmp3 x y=sg (x.2.1<y.2.1) True:=by unfold cmp3;rw[if_pos h,if_neg h']
theorem v6y{x y:Int×Int×Int}(h:x.1=y.1)(h':x.2.1=y.2.1)(h'': ¬x.2.2=y.2.2):cmp3 x y=sg (x.2.2<y.2.2) True:=by unfold cmp3;rw[if_pos h,if_pos h',if_neg h'']
theorem y1j{x y:Int×Int×Int}(h:x.1=y.1)(h':x.2.1=y.2.1)(h'':x.2.2=y.2.2):cmp3 x y=0:=by unfold cmp3;rw[if_pos h,if_pos h',if_pos h'']
theorem y34{a b:Int}(h:a<b):sg (a<b) True= -1:=if_pos h
theorem y35{a b:Int}(h:b<a):sg (a<b) True=1:=by unfold sg;rw[if_neg (by omega),if_pos trivial]
theorem Cnd.ite2{α β:Type}{c:Prop}[Decidable c]{A B:α×β}{K:α->β->Prop}(h:K (if c then A else B).1 (if c then A else B).2){X Y:Prop}(hx:c->K A.1 A.2->X)(hy: ¬c->K B.1 B.2->Y):Cnd c X Y:=⟨fun hc=>hx hc (by rwa [if_pos hc] at h),fun hc=>hy hc (by rwa [if_neg hc] at h)⟩
theorem w2s{a b:Val}{K:Int->Int->Prop}(ha:a.3.size<=1000000000)(hb:b.3.size<=1000000000)(h:K (vcmp a b).1 (vcmp a b).2):q4j a b K:=by
 unfold q4j z4v
 unfold vcmp at h
 refine j70 ha (Cnd.ite2 h (fun _ h=>j70 hb (Cnd.ite2 h (fun _ h=>Cnd.ite2 h (fun _ h=> ?_) fun _ h=>h) fun _ h=>h)) fun _ h=>h)
 refine Cnd.ite2 h (fun _ h=>h) fun _ h=>Cnd.ite2 h (fun _ h=>h) fun _ h=>Cnd.ite2 h (fun _ h=>w0g (K:=fun r=>K r 0) h) fun _ h=>Cnd.ite2 h (fun _ h=>w0g (K:=fun r=>K r 0) h) fun _ h=> ?_
 refine z86 ha (z86 hb ?_)
 generalize (prt a.3).1=x at h⊢
 generalize (prt b.3).1=y at h⊢
 refine Lp1.ind (fun (i:Int)=>CpS x y i) (fun (i:Int)=>(3 - i).toNat) ?_ .c0
 intro i hp
 cases hp with
 |c0=>
  have hq: ¬x.1=y.1->K (sg (x.1<y.1) True) 0:=fun e=>by rwa [v6w e] at h
  exact Cnd.mk (fun _=>⟨⟨by decide,by decide⟩,⟨⟨⟨trivial,fun _=>⟨⟨by decide,by decide⟩,⟨⟨⟨trivial,fun _=>Cnd.mk (fun e=>⟨by unfold InI;omega,.c1 e,by omega⟩) fun e=>⟨⟨by decide,by decide⟩,⟨⟨⟨trivial,fun _=>⟨⟨by decide,by decide⟩,⟨⟨⟨trivial,fun _=>z5m (K:=fun r=>K r 0) (hq e)⟩,fun e=>absurd e (by decide)⟩,fun e=>absurd e (by decide)⟩⟩⟩,fun e=>absurd e (by decide)⟩,fun e=>absurd e (by decide)⟩⟩⟩,fun e=>absurd e (by decide)⟩,fun e=>absurd e (by decide)⟩⟩⟩,fun e=>absurd e (by decide)⟩,fun e=>absurd e (by decide)⟩⟩) fun e=>absurd (show _<_ by decide) e
 |c1 h1=>
  have hq: ¬x.2.1=y.2.1->K (sg (x.2.1<y.2.1) True) 0:=fun e=>by rwa [v6x h1 e] at h
  exact Cnd.mk (fun _=>⟨⟨by decide,by decide⟩,⟨⟨⟨trivial,fun e=>absurd e (by decide)⟩,fun _=>⟨⟨by decide,by decide⟩,⟨⟨⟨trivial,fun e=>absurd e (by decide)⟩,fun _=>Cnd.mk (fun e=>⟨by unfold InI;omega,.c2 h1 e,by omega⟩) fun e=>⟨⟨by decide,by decide⟩,⟨⟨⟨trivial,fun e=>absurd e (by decide)⟩,fun _=>⟨⟨by decide,by decide⟩,⟨⟨⟨trivial,fun e=>absurd e (by decide)⟩,fun _=>z5m (K:=fun r=>K r 0) (hq e)⟩,fun e=>absurd e (by decide)⟩⟩⟩,fun e=>absurd e (by decide)⟩⟩⟩,fun e=>absurd e (by decide)⟩⟩⟩,fun e=>absurd e (by decide)⟩⟩) fun e=>absurd (show _<_ by decide) e
 |c2 h1 h2=>
  have hq: ¬x.2.2=y.2.2->K (sg (x.2.2<y.2.2) True) 0:=fun e=>by rwa [v6y h1 h2 e] at h
  exact Cnd.mk (fun _=>⟨⟨by decide,by decide⟩,⟨⟨⟨trivial,fun e=>absurd e (by decide)⟩,fun e=>absurd e (by decide)⟩,fun _=>⟨⟨by decide,by decide⟩,⟨⟨⟨trivial,fun e=>absurd e (by decide)⟩,fun e=>absurd e (by decide)⟩,fun _=>Cnd.mk (fun e=>⟨by unfold InI;omega,.c3 h1 h2 e,by omega⟩) fun e=>⟨⟨by decide,by decide⟩,⟨⟨⟨trivial,fun e=>absurd e (by decide)⟩,fun e=>absurd e (by decide)⟩,fun _=>⟨⟨by decide,by decide⟩,⟨⟨⟨trivial,fun e=>absurd e (by decide)⟩,fun e=>absurd e (by decide)⟩,fun _=>z5m (K:=fun r=>K r 0) (hq e)⟩⟩⟩⟩⟩⟩⟩⟩) fun e=>absurd (show _<_ by decide) e
 |c3 h1 h2 h3=>
  rw[y1j h1 h2 h3] at h
  exact Cnd.mk (fun e=>absurd e (by decide)) fun _=>h
theorem j4r{a b:Val}{K:Int->Int->Prop}(ha:a.3.size<=1000000000)(hb:b.3.size<=1000000000)(h:K (vcmp a b).1 (vcmp a b).2):Hy a b K:=by
 unfold Hy q7i
 unfold vcmp at h
 refine z7s ha (Cnd.ite2 h (fun _ h=>z7s hb (Cnd.ite2 h (fun _ h=>Cnd.ite2 h (fun _ h=> ?_) fun _ h=>h) fun _ h=>h)) fun _ h=>h)
 refine Cnd.ite2 h (fun _ h=>h) fun _ h=>Cnd.ite2 h (fun _ h=>h) fun _ h=>Cnd.ite2 h (fun _ h=> ?_) fun _ h=>Cnd.ite2 h (fun _ h=> ?_) fun _ h=> ?_
 ·unfold sg at h
  refine Cnd.yes rfl (Cnd.yes rfl (Cnd.mk (fun e=> ?_) fun e=>Cnd.mk (fun e2=> ?_) fun e2=> ?_))
  ·rwa [if_pos e] at h
  ·rwa [if_neg e,if_pos e2] at h
  ·rwa [if_neg e,if_neg e2] at h
 ·unfold sg at h
  refine Cnd.yes rfl (Cnd.yes rfl (Cnd.mk (fun e=> ?_) fun e=>Cnd.mk (fun e2=> ?_) fun e2=> ?_))
  ·rwa [if_pos e] at h
  ·rwa [if_neg e,if_pos e2] at h
  ·rwa [if_neg e,if_neg e2] at h
 refine z0k ha (z0k hb ?_)
 generalize (prt a.3).1=x at h⊢
 generalize (prt b.3).1=y at h⊢
 obtain⟨x0,x1,x2⟩:=x
 obtain⟨y0,y1,y2⟩:=y
 simp only[List.length_cons,List.length_nil]
 refine (fun (k:_)=>⟨k,k⟩) (fun _=> ?_)
 refine Lp1.ind (fun (i:Int)=>CpS (x0,x1,x2) (y0,y1,y2) i) (fun (i:Int)=>(3 - i).toNat) ?_ .c0
 intro i hp
 cases hp with
 |c0=>
  refine Cnd.mk (fun _=>⟨by omega,fun u hu _=>Cnd.mk (fun e=>by omega) fun _=>⟨by omega,fun v hv=> ?_⟩⟩) fun hc=>by omega
  cases hu;cases hv
  refine Cnd.yes trivial (Cnd.yes trivial (Cnd.mk (fun e=>Cnd.no (by decide) ?_) fun e=>Cnd.mk (fun e2=>Cnd.no (by decide) ?_) fun e2=>Cnd.yes trivial ⟨by unfold InI;omega,.c1 (by simp only;omega),by omega⟩))
  ·rwa [v6w (by simp only;omega),y34 e] at h
  ·rwa [v6w (by simp only;omega),y35 e2] at h
 |c1 h1=>
  refine Cnd.mk (fun _=>⟨by omega,fun u hu _=>Cnd.mk (fun e=>by omega) fun _=>⟨by omega,fun v hv=> ?_⟩⟩) fun hc=>by omega
  cases hu;cases hv
  refine Cnd.yes trivial (Cnd.yes trivial (Cnd.mk (fun e=>Cnd.no (by decide) ?_) fun e=>Cnd.mk (fun e2=>Cnd.no (by decide) ?_) fun e2=>Cnd.yes trivial ⟨by unfold InI;omega,.c2 h1 (by simp only;omega),by omega⟩))
  ·rwa [v6x h1 (by simp only;omega),y34 e] at h
  ·rwa [v6x h1 (by simp only;omega),y35 e2] at h
 |c2 h1 h2=>
  refine Cnd.mk (fun _=>⟨by omega,fun u hu _=>Cnd.mk (fun e=>by omega) fun _=>⟨by omega,fun v hv=> ?_⟩⟩) fun hc=>by omega
  cases hu;cases hv
  refine Cnd.yes trivial (Cnd.yes trivial (Cnd.mk (fun e=>Cnd.no (by decide) ?_) fun e=>Cnd.mk (fun e2=>Cnd.no (by decide) ?_) fun e2=>Cnd.yes trivial ⟨by unfold InI;omega,.c3 h1 h2 (by simp only;omega),by omega⟩))
  ·rwa [v6y h1 h2 (by simp only;omega),y34 e] at h
  ·rwa [v6y h1 h2 (by simp only;omega),y35 e2] at h
 |c3 h1 h2 h3=>
  rw[y1j h1 h2 h3] at h
  exact Cnd.mk (fun e=>by omega) fun _ _ _=>Cnd.mk (fun e=>by omega) fun _=>h
end Go.En
end
noncomputable section
set_option maxRecDepth 100000
namespace Go.En
open Go Go.Fl Go.Fl.Lk Go.Fx Go.Sg
theorem drp{α:Type}{l:List α}{k:Nat}{y:α}(h:l[k]? =some y):l.drop k=y::l.drop (k+1):=by
 obtain⟨hl,rfl⟩:=List.getElem?_eq_some_iff.1 h
 exact List.drop_eq_getElem_cons hl
structure SubB(s:Subj):Prop where
 n:s.ctxs.length<=2000000
 a: ∀c∈s.ctxs,c.attrs.length<=2000000
 l: ∀c∈s.ctxs,∀a∈c.attrs,a.value.list.length<=2000000/\a.value.text.size<=2000000
 k: ∀c∈s.ctxs,c.key.size<=2000000
abbrev noC:Ctxt:=Ctxt.mk (ByteArray.mk (Array.mk [])) (ByteArray.mk (Array.mk [])) []
abbrev noV:Val:=Val.mk 0 0 (ByteArray.mk (Array.mk [])) []
def fnd(s:Subj)(kind:ByteArray):Option Ctxt:=s.ctxs.find? fun c=>decide (c.kind=kind)
theorem q65{s:Subj}{kind:ByteArray}{K:Ctxt->Bool->Prop}(hs:SubB s)(h:K ((fnd s kind).getD noC) (fnd s kind).isSome):q16 s kind K:=by
 unfold q16
 have hn:=hs.n
 refine Lp4.ind (fun (i:Int) _ _ _=>0<=i/\i<=s.ctxs.length/\fnd s kind=(s.ctxs.drop i.toNat).find? fun c=>decide (c.kind=kind)) (fun (i:Int) _ _ _=>(s.ctxs.length - i).toNat) ?_ ⟨by omega,by omega,rfl⟩
 rintro i _ _ _ ⟨i0,i1,hf⟩ _
 refine Cnd.mk (fun hc=>⟨by omega,fun y hy=> ?_⟩) fun hc=> ?_
 ·rw[drp hy,List.find?_cons] at hf
  refine Cnd.mk (fun e=>⟨by omega,fun z hz=> ?_⟩) fun e=>⟨by unfold InI;omega,⟨by omega,by omega,?_⟩,by omega⟩
  ·rw[hy] at hz;cases hz
   rw[decide_eq_true e] at hf
   rw[hf] at h;exact h
  ·rw[decide_eq_false e] at hf
   rw[show (i+1).toNat=i.toNat+1 by omega];exact hf
 ·rw[List.drop_eq_nil_of_le (by omega)] at hf
  rw[hf] at h;exact h
theorem z36{s:Subj}{kind:ByteArray}{K:Int->Prop}(h: ∀r:Int,((r= -1/\fnd s kind=none)∨(0<=r/\r<s.ctxs.length/\ ∃c,s.ctxs[r.toNat]? =some c/\fnd s kind=some c))->K r):Hs s kind K:=by
 unfold Hs
 intro hl
 refine Lp1.ind (fun (i:Int)=>0<=i/\i<=s.ctxs.length/\fnd s kind=(s.ctxs.drop i.toNat).find? fun c=>decide (c.kind=kind)) (fun (i:Int)=>(s.ctxs.length - i).toNat) ?_ ⟨by omega,by omega,rfl⟩
 rintro i ⟨i0,i1,hf⟩
 refine Cnd.mk (fun hc=>⟨by omega,fun y hy=> ?_⟩) fun hc=> ?_
 ·rw[drp hy,List.find?_cons] at hf
  refine Cnd.mk (fun e=> ?_) fun e=>⟨by unfold InI;omega,⟨by omega,by omega,?_⟩,by omega⟩
  ·rw[decide_eq_true e] at hf
   exact h _ (.inr ⟨i0,hc,y,hy,hf⟩)
  ·rw[decide_eq_false e] at hf
   rw[show (i+1).toNat=i.toNat+1 by omega];exact hf
 ·rw[List.drop_eq_nil_of_le (by omega)] at hf
  exact h _ (.inl ⟨rfl,hf⟩)
theorem q3x{v:Val}{K:Val->Prop}(hv:v.list.length<=2000000)(h:K v):Jo v K:=by
 unfold Jo
 refine fun b hb=>Cnd.mk (fun e=> ?_) fun _=>⟨by unfold Sml;simp only[List.nil_append];omega,h⟩
 have:=hb e
 cases v
 simp only at this
 subst this
 exact h
theorem j0z{v:Attr}{K:Attr->Prop}(hv:v.value.list.length<=2000000)(h:K v):Ri v K:=by
 unfold Ri q23
 exact q3x hv h
theorem j4s{c:Ctxt}{K:Ctxt->Prop}(ha:c.attrs.length<=2000000)(hv: ∀a∈c.attrs,a.value.list.length<=2000000)(h:K c):q07 c K:=by
 unfold q07 q7e
 refine fun _=>⟨⟨by omega,by omega,by unfold Sml;omega⟩,fun _=> ?_⟩
 refine Lp2.ind (fun (r:List Attr) (i:Int)=>0<=i/\i<=c.attrs.length/\r=c.attrs.take i.toNat) (fun _ (i:Int)=>(c.attrs.length - i).toNat) ?_ ⟨by omega,by omega,rfl⟩
 rintro r i ⟨i0,i1,rfl⟩
 refine Cnd.mk (fun hc=>⟨by omega,fun y hy=>j0z (hv y (getm hy)) ⟨?_,by unfold InI;omega,⟨by omega,by omega,?_⟩,by omega⟩⟩) fun hc=> ?_
 ·unfold Sml;simp only[List.length_append,List.length_take,List.length_cons,List.length_nil];omega
 ·rw[show (i+1).toNat=i.toNat+1 by omega,List.take_add_one,hy];rfl
 ·rw[List.take_of_length_le (by omega)];exact h
theorem Rc{s:Subj}{kind:ByteArray}{K:Ctxt->Bool->Prop}(hs:SubB s)(h:K ((fnd s kind).getD noC) (fnd s kind).isSome):Wz s kind K:=by
 unfold Wz q9x
 refine z36 fun r hr=> ?_
 rcases hr with ⟨rfl,hf⟩|⟨r0,r1,c,hc,hf⟩
 ·rw[hf] at h
  exact Cnd.yes (by decide) h
 ·rw[hf] at h
  refine Cnd.no (by omega) ⟨⟨r0,r1⟩,fun y hy=> ?_⟩
  have hc:s.ctxs[r.toNat]? =some c:=hc
  have hy:s.ctxs[r.toNat]? =some y:=hy
  rw[hc] at hy;cases hy
  exact j4s (hs.a c (getm hc)) (fun a ha=>(hs.l c (getm hc) a ha).1) h
abbrev keyB:ByteArray:=ByteArray.mk (Array.mk [107,101,121])
def lkp(s:Subj)(kind name:ByteArray):Option Val:=
 (fnd s kind).bind fun c=>if name=keyB then some (Val.mk 3 0 c.key []) else (c.attrs.find? fun a=>decide (a.name=name)).map Attr.value
theorem j27{s:Subj}{kind:ByteArray}{c:Ctxt}(h:fnd s kind=some c):c∈s.ctxs:=List.mem_of_find?_eq_some h
theorem v93{s:Subj}{kind name:ByteArray}{v:Val}(hs:SubB s)(h:lkp s kind name=some v):v.list.length<=2000000/\v.text.size<=2000000:=by
 unfold lkp at h
 cases hf:fnd s kind with
 |none=>rw[hf] at h;cases h
 |some c=>
  rw[hf] at h
  simp only[Option.bind_some] at h
  by_cases hk:name=keyB
  ·rw[if_pos hk] at h;cases h
   exact⟨by simp,hs.k c (j27 hf)⟩
  ·rw[if_neg hk] at h
   obtain⟨a,ha,rfl⟩:=Option.map_eq_some_iff.1 h
   exact hs.l c (j27 hf) a (List.mem_of_find?_eq_some ha)
theorem j3x{s:Subj}{kind name:ByteArray}{K:Val->Bool->Prop}(hs:SubB s)(h:K ((lkp s kind name).getD noV) (lkp s kind name).isSome):q7y s kind name K:=by
 unfold q7y z8d
 refine q65 hs ?_
 unfold lkp at h
 cases hf:fnd s kind with
 |none=>rw[hf] at h;exact Cnd.no (by simp) h
 |some c=>
  rw[hf] at h
  simp only[Option.bind_some] at h
  refine Cnd.yes rfl (Cnd.mk (fun hk=> ?_) fun hk=> ?_)
  ·rw[if_pos hk] at h;exact h
  rw[if_neg hk] at h
  have hn:=hs.a c (j27 hf)
  show Lp5 _ _ _ _ _ _
  refine Lp5.ind (fun (i:Int) _ _ _ _=>0<=i/\i<=c.attrs.length/\(c.attrs.find? fun a=>decide (a.name=name))=(c.attrs.drop i.toNat).find? fun a=>decide (a.name=name)) (fun (i:Int) _ _ _ _=>(c.attrs.length - i).toNat) ?_ ⟨by omega,by omega,rfl⟩
  rintro i _ _ _ _ ⟨i0,i1,hd⟩ _
  refine Cnd.mk (fun hc=>⟨⟨i0,hc⟩,fun y hy=> ?_⟩) fun hc=> ?_
  ·have hy:c.attrs[i.toNat]? =some y:=hy
   rw[drp hy,List.find?_cons] at hd
   refine Cnd.mk (fun e=>⟨⟨i0,hc⟩,fun z hz=> ?_⟩) fun e=>⟨by unfold InI;omega,⟨by omega,?_,?_⟩,?_⟩
   ·have hz:c.attrs[i.toNat]? =some z:=hz
    rw[hy] at hz;cases hz
    rw[decide_eq_true e] at hd
    rw[hd] at h;exact h
   ·have:i<(c.attrs.length:Int):=hc
    omega
   ·rw[decide_eq_false e] at hd
    rw[show (i+1).toNat=i.toNat+1 by omega];exact hd
   ·have:i<(c.attrs.length:Int):=hc
    omega
  ·have hc: ¬i<(c.attrs.length:Int):=hc
   rw[List.drop_eq_nil_of_le (by omega)] at hd
   rw[hd] at h;exact h
theorem z1b{s:Subj}{kind name:ByteArray}{K:Val->Bool->Prop}(hs:SubB s)(h:K ((lkp s kind name).getD noV) (lkp s kind name).isSome):Gu s kind name K:=by
 unfold Gu q4x
 refine z36 fun r hr=> ?_
 unfold lkp at h
 rcases hr with ⟨rfl,hf⟩|⟨r0,r1,c,hcc,hf⟩
 ·rw[hf] at h
  exact Cnd.yes (by decide) h
 rw[hf] at h
 simp only[Option.bind_some] at h
 refine Cnd.no (by omega) ⟨⟨r0,r1⟩,fun y hy=> ?_⟩
 have hcc:s.ctxs[r.toNat]? =some c:=hcc
 have hy:s.ctxs[r.toNat]? =some y:=hy
 rw[hcc] at hy;cases hy
 refine Cnd.mk (fun hk=> ?_) fun hk _=> ?_
 ·rw[if_pos hk] at h;exact h
 rw[if_neg hk] at h
 have hn:=hs.a c (j27 hf)
 have hl:=hs.l c (j27 hf)
 refine Lp5.ind (fun (i:Int) _ _ _ _=>0<=i/\i<=c.attrs.length/\(c.attrs.find? fun a=>decide (a.name=name))=(c.attrs.drop i.toNat).find? fun a=>decide (a.name=name)) (fun (i:Int) _ _ _ _=>(c.attrs.length - i).toNat) ?_ ⟨by omega,by omega,rfl⟩
 rintro i _ _ _ _ ⟨i0,i1,hd⟩
 refine Cnd.mk (fun hc=>⟨⟨i0,hc⟩,fun y hy=> ?_⟩) fun hc=> ?_
 ·have hy:c.attrs[i.toNat]? =some y:=hy
  rw[drp hy,List.find?_cons] at hd
  refine Cnd.mk (fun e=> ?_) fun e=>⟨by unfold InI;omega,⟨by omega,by omega,?_⟩,by omega⟩
  ·rw[decide_eq_true e] at hd
   rw[hd] at h
   exact q3x (hl y (getm hy)).1 h
  ·rw[decide_eq_false e] at hd
   rw[show (i+1).toNat=i.toNat+1 by omega];exact hd
 ·rw[List.drop_eq_nil_of_le (by omega)] at hd
  rw[hd] at h;exact h
end Go.En
end
