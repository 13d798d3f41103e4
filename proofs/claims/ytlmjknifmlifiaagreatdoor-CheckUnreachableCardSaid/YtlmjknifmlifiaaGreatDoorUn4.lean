/- CheckUnreachable: which of any rules can never be applied This is part 4 of 9. Conditions: those in the statements. -/
import Derived.Test.YtlmjknifmlifiaaGreatDoorUn3
import Derived.KernelRfl
import Derived.Conc.MuLone
import Derived.RangeFuncMany
import Derived.Sort.MapsRangeIn
import Derived.WalkKit
import Derived.OwnWalkIn
import Derived.TacticsInMore
import Derived.RegionIn
import Derived.LoopNIn
import Derived.LoopIn
import Derived.RangeFuncLeaves
import Derived.Shelf.SlIter.Collect
import Derived.Sort.OwnSortedInts
import GoSem.Core.Utf8
import Derived.Lib.ValidU
noncomputable section
set_option maxRecDepth 100000
namespace Go.Proofs.YtlmjknifmlifiaaGreatDoor
open Go Go.Proofs Go.RowKit Go.Fl
set_option maxHeartbeats 2000000 in
theorem z1l{σ:Hv}{w:World}(edges_p:(List (ByteArray×ByteArray)))(v1:Value){K:(ByteArray->Option (List ByteArray))->Prop}(hV:View σ w)(hr1:RSl 2 (REnc j5h) σ v1 edges_p)(hP:H9 edges_p K):
    Calls Tryz.prog 113 #[v1] w (fun e w1=> ∃(r1:(ByteArray->Option (List ByteArray))) (v2:Value) (σ1:Hv),e= .returned v2/\Grow [] σ w σ1 w1/\RMp (RSl 1 (REnc Qu)) σ1 v2 r1/\K r1):=by
 unfold H9 at hP
 obtain⟨a1,cap1,rfl⟩:=hr1.shape
 refine enter Tryz.func113 rfl rfl rfl ?_
 have hS:=St.start hV
 refine Q7 (Zo (v:=(.map none)) rfl (wpList_nil (Qy (Q7 (z7o 9 1 Qu hS ?_)))))
 intro b1 w1 hS1
 refine Zo (v:=(.map (some b1))) rfl (wpList_nil (Qy (wp_seq (Q7 (Zr (v:=(.slice a1 edges_p.length cap1)) rfl (q3y rfl Tryz.underlying113 ?_))))))
 have hlen1:=RSl.len63 hr1
 replace hP:=hP hlen1
 refine Zr (v:=(.int .i64 (0:Int))) rfl (wpList_nil (Qy (wp_block ?_)))
 refine z01 (fun k_3 F_2 f z=> ∃(es2:EL ByteArray) (σ1:Hv) (g:Fr),f=(upd (upd (upd (upd g 3 (.map (some b1))) 7 (.slice a1 edges_p.length cap1)) 8 (.int .i64 ((edges_p.length:Nat):Int))) 9 (.int .i64 ((k_3:Nat):Int)))/\St ⟨w,σ,[]⟩ z σ1 (smap b1 (asl es2)::U2 9 1 Qu es2)/\Sub σ σ1/\ELF es2 F_2) hP ⟨[],σ,_,(Q2 rfl (Q2 rfl (Q2 rfl (Q2 rfl rfl)))),hS1,(Sub.refl _),ELF.nil⟩ ?_
 clear hP
 rintro k_3 F_2 Y1 hP f w2 ⟨es2,σ1,g,rfl,hS2,hsub1,hF2⟩
 refine Q7 (j46 (r:=(decide (((k_3:Nat):Int)<((edges_p.length:Nat):Int)))) rfl rfl rfl (wpList_nil (Qy (wp_seq ?_))))
 refine if_d (((k_3:Nat):Int)<((edges_p.length:Nat):Int)) rfl (fun ht1=> ?_) (fun ht1=> ?_)
 ·
  replace hP:=hP.1 ht1
  refine wp_skip (Qy (wp_seq (wp_block (Q7 ?_))))
  obtain⟨x1_,hx1⟩:=getq (l:=edges_p) (k:=k_3) (by have:=ht1;omega)
  replace hP:=hP x1_ hx1
  obtain⟨ad1,cs1,ha1,hl1,hr3,hR1,hlt1⟩:=RSl.at hr1 hx1
  cases hR1
  refine H5 (k:=k_3) (a':=(ad1.add (k_3*2))) (congrArg (fun z=>Value.slice z _ _) ha1) rfl rfl hlt1 Tryz.underlying113 Tryz.sizeOf118 rfl (j47 (cs:=[(.string x1_.1),(.string x1_.2)]) rfl Tryz.isAgg118 Tryz.sizeOf118 rfl (hr3.row (View.of hsub1 hS2.view)) (j49 (cs:=[(.string (⟨#[]⟩:ByteArray)),(.string (⟨#[]⟩:ByteArray))]) hS2 Tryz.zeroValue118 rfl ?_))
  intro b2 w3 hS3
  refine j48 (T:=118) (vs:=[(.string x1_.1),(.string x1_.2)]) (cs':=[(.string x1_.1),(.string x1_.2)]) (ms':=(blk b2 118 [(.string x1_.1),(.string x1_.2)]::smap b1 (asl es2)::U2 9 1 Qu es2)) (i:=0) hS3 rfl rfl rfl Tryz.sizeOf118 rfl (ones rfl) rfl (Nat.le_of_ble_eq_true rfl) rfl rfl ?_
  intro w4 hS4
  refine wpList_nil (Qy (dr (fun z=>St ⟨w,σ,[]⟩ z σ1 [blk b2 118 [(.string x1_.1),(.string x1_.2)]]) (by kernel_rfl) rfl ?_))
  have hS5:=hS4.drew
  refine dt 0 1 (v:=(.map (some b1))) (by kernel_rfl) rfl rfl (fun _ _ _ h=>h) (hS5.sublist (.cons_cons _ (List.nil_sublist _))) (fun _ _ _ hK=>Zr (v:=(.map (some b1))) rfl ⟨rfl,hK⟩) (dt 1 3 (v:=(.pointer (some ⟨b2,0,none⟩))) (by kernel_rfl) rfl rfl (fun _ _ _ h=>h) (hS5.sublist (.cons_cons _ (List.nil_sublist _))) (fun _ _ _ hK=>z4p (a':=⟨b2,0,none⟩) rfl Tryz.underlying118 rfl Tryz.sizeOf9 rfl ⟨rfl,hK⟩) (dt 2 7 (v:=(.string x1_.1)) (by kernel_rfl) rfl rfl (fun _ _ _ h=>h) (hS5.sublist (.cons_cons _ (List.nil_sublist _))) (fun _ hJ _ hK=>q94 (v:=(.string x1_.1)) rfl Tryz.isAgg9 (hJ.cell (i:=0) rfl rfl) ⟨rfl,hK⟩) (dt 3 15 (v:=(.map (some b1))) (by kernel_rfl) rfl rfl (fun _ _ _ h=>h) (hS5.sublist (.cons_cons _ (List.nil_sublist _))) (fun _ _ _ hK=>Zr (v:=(.map (some b1))) rfl ⟨rfl,hK⟩) (dt 4 31 (v:=(.pointer (some ⟨b2,0,none⟩))) (by kernel_rfl) rfl rfl (fun _ _ _ h=>h) (hS5.sublist (.cons_cons _ (List.nil_sublist _))) (fun _ _ _ hK=>z4p (a':=⟨b2,0,none⟩) rfl Tryz.underlying118 rfl Tryz.sizeOf9 rfl ⟨rfl,hK⟩) (dt 5 63 (v:=(.string x1_.1)) (by kernel_rfl) rfl rfl (fun _ _ _ h=>h) (hS5.sublist (.cons_cons _ (List.nil_sublist _))) (fun _ hJ _ hK=>q94 (v:=(.string x1_.1)) rfl Tryz.isAgg9 (hJ.cell (i:=0) rfl rfl) ⟨rfl,hK⟩) (dt 7 191 (v:=(.pointer (some ⟨b2,1,none⟩))) (by kernel_rfl) rfl rfl (fun _ _ _ h=>h) (hS5.sublist (.cons_cons _ (List.nil_sublist _))) (fun _ _ _ hK=>z4p (a':=⟨b2,1,none⟩) rfl Tryz.underlying118 rfl Tryz.sizeOf9 rfl ⟨rfl,hK⟩) (dt 8 447 (v:=(.string x1_.2)) (by kernel_rfl) rfl rfl (fun _ _ _ h=>h) (hS5.sublist (.cons_cons _ (List.nil_sublist _))) (fun _ hJ _ hK=>q94 (v:=(.string x1_.2)) rfl Tryz.isAgg9 (hJ.cell (i:=0) rfl rfl) ⟨rfl,hK⟩) ?_)))))))
  refine d2 6 9 511 959 (by kernel_rfl) rfl rfl rfl rfl ?_ ?_
  ·
   obtain⟨v3,hv1⟩: ∃v,(asl es2 x1_.1).getD (.slice none 0 0)=v:=⟨_,rfl⟩
   refine z8x (i:=1) (v:=v3) hS5 rfl rfl rfl Tryz.underlying176 Tryz.underlying9 Tryz.zeroValue72 hv1 (wpList_nil ?_)
   refine⟨rfl,(hS5.sublist (.cons_cons _ (List.nil_sublist _))),?_⟩
   refine d1 9 1023 (by kernel_rfl) rfl (q4i (cs:=[(.string x1_.2)]) (e:=9) hS5 (fun _=>by kernel_rfl) ?_)
   intro b3 w5 hS6
   refine wpList_nil ?_
   refine⟨rfl,(hS6.sublist (.cons _ (.cons_cons _ (List.nil_sublist _)))),?_⟩
   refine d1 10 2047 (by kernel_rfl) rfl ?_
   obtain⟨es3,hS7,hL1,hl2⟩:=St.borrow (ms:=[blk b3 9 [(.string x1_.2)],blk b2 118 [(.string x1_.1),(.string x1_.2)],smap b1 (asl es2)]) hS6 hF2 x1_.1 hv1
   obtain⟨hsm1,hP⟩:=hP
   refine j2f (Ms:=fun v4=>(vec v4 9 1 ((((F_2 x1_.1).getD [])++[x1_.2]).length) ((((F_2 x1_.1).getD [])++[x1_.2]).flatMap Qu)::blk b3 9 [(.string x1_.2)]::blk b2 118 [(.string x1_.1),(.string x1_.2)]::smap b1 (asl es2)::U2 9 1 Qu es3)) (k':=(((F_2 x1_.1).getD [])++[x1_.2]).length) (xs':=(((F_2 x1_.1).getD [])++[x1_.2]).flatMap Qu) Tryz.underlying72 Tryz.type9 rfl rfl (bytes:=16) rfl rfl (Nat.succ_pos _) hS7 rfl (q:=0) rfl rfl rfl (Rv (hS7.get (i:=1) rfl)) (ones rfl) hsm1 (by omega) (by first|rfl|exact List.length_append.symm|simp) (by simp[Qu]) (fun _=>rfl) ?_
   intro v4 w6 ho1 hS8
   have hS9:=hS8.drop 1 (ms':=(vec v4 9 1 ((((F_2 x1_.1).getD [])++[x1_.2]).length) ((((F_2 x1_.1).getD [])++[x1_.2]).flatMap Qu)::blk b2 118 [(.string x1_.1),(.string x1_.2)]::smap b1 (asl es2)::U2 9 1 Qu es3)) rfl
   refine wpList_nil ?_
   refine⟨rfl,(hS9.sublist (.cons _ (.cons_cons _ (List.nil_sublist _)))),?_⟩
   refine d1 11 4095 (by kernel_rfl) rfl (j5f (v:=v4) (i:=2) (ms':=(vec v4 9 1 ((((F_2 x1_.1).getD [])++[x1_.2]).length) ((((F_2 x1_.1).getD [])++[x1_.2]).flatMap Qu)::blk b2 118 [(.string x1_.1),(.string x1_.2)]::smap b1 (fun k'=>if k'=x1_.1 then some v4 else asl es2 k')::U2 9 1 Qu es3)) hS9 rfl rfl rfl rfl Tryz.underlying176 Tryz.underlying9 rfl ?_)
   intro w7 hS10
   have hS12:=St.giveback (ms:=[blk b2 118 [(.string x1_.1),(.string x1_.2)],smap b1 (fun k'=>if k'=x1_.1 then some v4 else asl es2 k')]) (ms':=[blk b2 118 [(.string x1_.1),(.string x1_.2)],smap b1 (asl ((x1_.1,v4,((F_2 x1_.1).getD [])++[x1_.2])::es3))]) (i:=1) hS10 hL1 rfl rfl
   have hF3:=ELF.put (v:=v4) hF2 hL1 hsm1
   refine wpList_nil ?_
   refine⟨rfl,(hS12.sublist (.cons_cons _ (List.nil_sublist _))),z0z (J':=fun z=>St ⟨w,σ,[]⟩ z σ1 (blk b2 118 [(.string x1_.1),(.string x1_.2)]::smap b1 (asl ((x1_.1,v4,((F_2 x1_.1).getD [])++[x1_.2])::es3))::U2 9 1 Qu ((x1_.1,v4,((F_2 x1_.1).getD [])++[x1_.2])::es3))) (fun w h=>h.sublist (.cons_cons _ (List.nil_sublist _))) _ _ _ _ ?_⟩
   refine dz (by kernel_rfl) (z4r (Qy (q12 (z7k (r:=((k_3+1:Nat):Int)) rfl rfl (nw (by omega) (by omega) (by have:=hlen1;omega)) (Zr (v:=(.int .i64 ((k_3+1:Nat):Int))) rfl (wpList_nil (Qy ?_)))))))
   exact⟨k_3+1,(put F_2 x1_.1 (((F_2 x1_.1).getD [])++[x1_.2])),_,rfl,hP,((x1_.1,v4,((F_2 x1_.1).getD [])++[x1_.2])::es3),σ1,_,(Q2 rfl (Q2 rfl (Q2 rfl (Q2 rfl rfl)))),(hS12.sublist (ms':=(smap b1 (asl ((x1_.1,v4,((F_2 x1_.1).getD [])++[x1_.2])::es3))::U2 9 1 Qu ((x1_.1,v4,((F_2 x1_.1).getD [])++[x1_.2])::es3))) (.cons _ (List.Sublist.refl _))),hsub1,hF3⟩
  ·
   refine q4i (cs:=[(.string x1_.2)]) (e:=9) hS5 (fun _=>by kernel_rfl) ?_
   intro b3 w5 hS6
   refine wpList_nil ?_
   refine⟨rfl,(hS6.sublist (.cons _ (.cons_cons _ (List.nil_sublist _)))),?_⟩
   refine d1 6 1023 (by kernel_rfl) rfl ?_
   obtain⟨v3,hv1⟩: ∃v,(asl es2 x1_.1).getD (.slice none 0 0)=v:=⟨_,rfl⟩
   refine z8x (i:=2) (v:=v3) hS6 rfl rfl rfl Tryz.underlying176 Tryz.underlying9 Tryz.zeroValue72 hv1 (wpList_nil ?_)
   refine⟨rfl,(hS6.sublist (.cons _ (.cons_cons _ (List.nil_sublist _)))),?_⟩
   refine d1 10 2047 (by kernel_rfl) rfl ?_
   obtain⟨es3,hS7,hL1,hl2⟩:=St.borrow (ms:=[blk b3 9 [(.string x1_.2)],blk b2 118 [(.string x1_.1),(.string x1_.2)],smap b1 (asl es2)]) hS6 hF2 x1_.1 hv1
   obtain⟨hsm1,hP⟩:=hP
   refine j2f (Ms:=fun v4=>(vec v4 9 1 ((((F_2 x1_.1).getD [])++[x1_.2]).length) ((((F_2 x1_.1).getD [])++[x1_.2]).flatMap Qu)::blk b3 9 [(.string x1_.2)]::blk b2 118 [(.string x1_.1),(.string x1_.2)]::smap b1 (asl es2)::U2 9 1 Qu es3)) (k':=(((F_2 x1_.1).getD [])++[x1_.2]).length) (xs':=(((F_2 x1_.1).getD [])++[x1_.2]).flatMap Qu) Tryz.underlying72 Tryz.type9 rfl rfl (bytes:=16) rfl rfl (Nat.succ_pos _) hS7 rfl (q:=0) rfl rfl rfl (Rv (hS7.get (i:=1) rfl)) (ones rfl) hsm1 (by omega) (by first|rfl|exact List.length_append.symm|simp) (by simp[Qu]) (fun _=>rfl) ?_
   intro v4 w6 ho1 hS8
   have hS9:=hS8.drop 1 (ms':=(vec v4 9 1 ((((F_2 x1_.1).getD [])++[x1_.2]).length) ((((F_2 x1_.1).getD [])++[x1_.2]).flatMap Qu)::blk b2 118 [(.string x1_.1),(.string x1_.2)]::smap b1 (asl es2)::U2 9 1 Qu es3)) rfl
   refine wpList_nil ?_
   refine⟨rfl,(hS9.sublist (.cons _ (.cons_cons _ (List.nil_sublist _)))),?_⟩
   refine d1 11 4095 (by kernel_rfl) rfl (j5f (v:=v4) (i:=2) (ms':=(vec v4 9 1 ((((F_2 x1_.1).getD [])++[x1_.2]).length) ((((F_2 x1_.1).getD [])++[x1_.2]).flatMap Qu)::blk b2 118 [(.string x1_.1),(.string x1_.2)]::smap b1 (fun k'=>if k'=x1_.1 then some v4 else asl es2 k')::U2 9 1 Qu es3)) hS9 rfl rfl rfl rfl Tryz.underlying176 Tryz.underlying9 rfl ?_)
   intro w7 hS10
   have hS12:=St.giveback (ms:=[blk b2 118 [(.string x1_.1),(.string x1_.2)],smap b1 (fun k'=>if k'=x1_.1 then some v4 else asl es2 k')]) (ms':=[blk b2 118 [(.string x1_.1),(.string x1_.2)],smap b1 (asl ((x1_.1,v4,((F_2 x1_.1).getD [])++[x1_.2])::es3))]) (i:=1) hS10 hL1 rfl rfl
   have hF3:=ELF.put (v:=v4) hF2 hL1 hsm1
   refine wpList_nil ?_
   refine⟨rfl,(hS12.sublist (.cons_cons _ (List.nil_sublist _))),z0z (J':=fun z=>St ⟨w,σ,[]⟩ z σ1 (blk b2 118 [(.string x1_.1),(.string x1_.2)]::smap b1 (asl ((x1_.1,v4,((F_2 x1_.1).getD [])++[x1_.2])::es3))::U2 9 1 Qu ((x1_.1,v4,((F_2 x1_.1).getD [])++[x1_.2])::es3))) (fun w h=>h.sublist (.cons_cons _ (List.nil_sublist _))) _ _ _ _ ?_⟩
   refine dz (by kernel_rfl) (z4r (Qy (q12 (z7k (r:=((k_3+1:Nat):Int)) rfl rfl (nw (by omega) (by omega) (by have:=hlen1;omega)) (Zr (v:=(.int .i64 ((k_3+1:Nat):Int))) rfl (wpList_nil (Qy ?_)))))))
   exact⟨k_3+1,(put F_2 x1_.1 (((F_2 x1_.1).getD [])++[x1_.2])),_,rfl,hP,((x1_.1,v4,((F_2 x1_.1).getD [])++[x1_.2])::es3),σ1,_,(Q2 rfl (Q2 rfl (Q2 rfl (Q2 rfl rfl)))),(hS12.sublist (ms':=(smap b1 (asl ((x1_.1,v4,((F_2 x1_.1).getD [])++[x1_.2])::es3))::U2 9 1 Qu ((x1_.1,v4,((F_2 x1_.1).getD [])++[x1_.2])::es3))) (.cons _ (List.Sublist.refl _))),hsub1,hF3⟩
 ·
  replace hP:=hP.2 ht1
  refine wp_exit (q6u (q6u (z0y (Qy (Q7 (Zr (v:=(.map (some b1))) rfl (Zo (v:=(.map (some b1))) rfl (wpList_nil (Qy (wp_ret (ret1 rfl (show ev _ _ _=(.map (some b1)) from rfl) ?_)))))))))))
  obtain⟨σ2,hS13,hsub2,hr4⟩:=St.freezeL (ms:=[smap b1 (asl es2)]) (ms':=[]) (i:=0) hS2 hF2 q4l rfl rfl
  exact⟨F_2,(.map (some b1)),σ2,rfl,hS13.done,hr4,hP⟩
set_option maxHeartbeats 2000000 in
theorem z1m{σ:Hv}{w:World}(needs_p:(ByteArray->Option (List ByteArray)))(node_p:ByteArray)(v1:Value){K:(ByteArray->Option Bool)->Prop}(hV:View σ w)(hr1:RMp (RSl 1 (REnc Qu)) σ v1 needs_p)(hP:q1f needs_p node_p K):
    Calls Tryz.prog 116 #[v1,(.string node_p)] w (fun e w1=> ∃(r1:(ByteArray->Option Bool)) (b1:Nat),e= .returned (.map (some b1))/\St ⟨w,σ,[]⟩ w1 σ [emap b1 (fun y:Bool=>(Value.bool (y))) r1]/\K r1):=by
 unfold q1f at hP
 obtain⟨b2,rfl⟩:=hr1.shape
 refine enter Tryz.func116 rfl rfl rfl ?_
 have hS:=St.start hV
 refine Q7 (Zo (v:=(.map none)) rfl (wpList_nil (Qy (Q7 (j5g (fun y:Bool=>(Value.bool (y))) hS ?_)))))
 intro b3 w1 hS1
 refine Zo (v:=(.map (some b3))) rfl (wpList_nil (Qy (Q7 (Zr (v:=(.string node_p)) rfl (q4i (cs:=[(.string node_p)]) (e:=9) hS1 (fun _=>by kernel_rfl) ?_)))))
 intro b4 w2 hS2
 refine Zo (v:=(.slice (some ⟨b4,0,none⟩) 1 1)) rfl (wpList_nil (Qy (wp_seq (wp_block ?_))))
 have hS3:=hS2.asVec (i:=0) (ms':=[vec (.slice (some ⟨b4,0,none⟩) 1 1) 9 1 1 (([node_p]).flatMap Qu),emap b3 (fun y:Bool=>(Value.bool (y))) (fun _=>none)]) (size:=1) rfl rfl (by unfold maxLen;omega) rfl
 refine z01 (fun open_3 F_2 f z=> ∃(v4:Value) (σ1:Hv) (g:Fr),f=(upd (upd (upd g 0 (.map (some b2))) 5 (.map (some b3))) 6 v4)/\St ⟨w,σ,[]⟩ z σ1 [vec v4 9 1 open_3.length ((open_3).flatMap Qu),emap b3 (fun y:Bool=>(Value.bool (y))) F_2]/\Sub σ σ1/\v4.oneCell'=true/\Sml open_3.length) hP ⟨(.slice (some ⟨b4,0,none⟩) 1 1),σ,_,(Q2 rfl (Q2 rfl (Q2 rfl rfl))),hS3,(Sub.refl _),rfl,(by simp[Sml])⟩ ?_
 clear hP
 rintro open_3 F_2 Y1 hP f w3 ⟨v4,σ1,g,rfl,hS4,hsub1,ho3,hl3⟩
 refine wp_seq (Q7 (Zr (v:=v4) rfl (q4j hS4 rfl (i:=0) rfl Tryz.underlying72 ?_)))
 have hlen1:open_3.length<=9223372036854775807:=by have:=hl3;unfold Sml at this;omega
 replace hP:=hP hlen1
 refine j9y (r:=(decide ((0:Int)<((open_3.length:Nat):Int)))) rfl rfl rfl (wpList_nil (Qy ?_))
 refine if_d ((0:Int)<((open_3.length:Nat):Int)) rfl (fun ht1=> ?_) (fun ht1=> ?_)
 ·
  replace hP:=hP.1 ht1
  refine wp_skip (Qy (wp_block (Q7 (Zr (v:=v4) rfl (Zr (v:=v4) rfl (q4j hS4 rfl (i:=0) rfl Tryz.underlying72 ?_))))))
  obtain⟨hi1,hP⟩:=hP
  refine j7y (r:=(((open_3.length:Nat):Int) - (1:Int))) rfl rfl (nwi rfl hi1) ?_
  obtain⟨j1_,hj1,hP⟩:=hP
  obtain⟨x1_,hx1,hP⟩:=hP
  obtain⟨g1,cp1,hv1⟩:=z57 (hS4.get (i:=0) rfl) (Qe hx1)
  refine H5 (k:=j1_) (a':=⟨g1,j1_*1,none⟩) hv1 rfl hj1 (Qe hx1) Tryz.underlying72 Tryz.sizeOf9 (by simp[Wo]) (q94 (v:=(.string x1_)) rfl Tryz.isAgg9 (z2s q4l (j:=0) hv1 (hS4.get (i:=0) rfl) hx1 rfl) (Zo (v:=(.string x1_)) rfl (wpList_nil (Qy (Q7 (Zr (v:=v4) rfl (Zr (v:=v4) rfl (q4j hS4 rfl (i:=0) rfl Tryz.underlying72 ?_))))))))
  obtain⟨hi2,hP⟩:=hP
  refine j7y (r:=(((open_3.length:Nat):Int) - (1:Int))) rfl rfl (nwi rfl hi2) ?_
  obtain⟨j2_,hj2,hP⟩:=hP
  obtain⟨hle1,hP⟩:=hP
  obtain⟨a1,cap1,hv2,hv2c⟩:=q7l (hS4.get (i:=0) rfl)
  subst hv2
  refine j17 (r:=j2_) rfl Tryz.underlying72 Tryz.sizeOf9 (congrArg (Value.int .i64) hj2) (by omega) ?_
  have hS5:=St.cut (ms':=[vec (.slice a1 j2_ cap1) 9 1 ((open_3.take j2_).length) (((open_3.take j2_)).flatMap Qu),emap b3 (fun y:Bool=>(Value.bool (y))) F_2]) (i:=0) hS4 rfl q4l hle1 rfl
  refine Zo (v:=(.slice a1 j2_ cap1)) rfl (wpList_nil (Qy (Q7 (Zr (v:=(.map (some b2))) rfl (Zr (v:=(.string x1_)) rfl ?_)))))
  obtain⟨v5,hl4,hz1⟩:=RMp.at (z:= .slice none 0 0) (z0:=[]) RSl.nil hr1 x1_
  obtain⟨a2,cap2,rfl⟩:=hz1.shape
  refine j5i (v:=(.slice a2 ((needs_p x1_).getD []).length cap2)) hl4 (View.of hsub1 hS5.view) rfl rfl Tryz.underlying176 Tryz.underlying9 Tryz.zeroValue72 (q3y rfl Tryz.underlying72 ?_)
  have hlen4:=RSl.len63 hz1
  replace hP:=hP hlen4
  refine Zr (v:=(.int .i64 (0:Int))) rfl (wpList_nil (Qy (wp_block ?_)))
  refine j2e (fun open_6 k_3 F_4 f z=> ∃(v8:Value) (σ2:Hv) (g:Fr),f=(upd (upd (upd (upd (upd (upd g 0 (.map (some b2))) 5 (.map (some b3))) 6 v8) 29 (.slice a2 ((needs_p x1_).getD []).length cap2)) 30 (.int .i64 ((((needs_p x1_).getD []).length:Nat):Int))) 31 (.int .i64 ((k_3:Nat):Int)))/\St ⟨w,σ,[]⟩ z σ2 [vec v8 9 1 open_6.length ((open_6).flatMap Qu),emap b3 (fun y:Bool=>(Value.bool (y))) F_4]/\Sub σ1 σ2/\v8.oneCell'=true/\Sml open_6.length) hP ⟨(.slice a1 j2_ cap1),σ1,_,(Q2 rfl (Q2 rfl (Q2 rfl (Q2 rfl (Q2 rfl (Q2 rfl rfl)))))),hS5,(Sub.refl _),rfl,(j2g hl3)⟩ ?_
  clear hP
  rintro open_6 k_3 F_4 Y2 hP f w4 ⟨v8,σ2,g,rfl,hS6,hsub2,ho6,hl7⟩
  refine Q7 (j46 (r:=(decide (((k_3:Nat):Int)<((((needs_p x1_).getD []).length:Nat):Int)))) rfl rfl rfl (wpList_nil (Qy (wp_seq ?_))))
  refine if_d (((k_3:Nat):Int)<((((needs_p x1_).getD []).length:Nat):Int)) rfl (fun ht2=> ?_) (fun ht2=> ?_)
  ·
   replace hP:=hP.1 ht2
   refine wp_skip (Qy (wp_seq (wp_block (Q7 ?_))))
   obtain⟨x2_,hx2⟩:=getq (l:=((needs_p x1_).getD [])) (k:=k_3) (by have:=ht2;omega)
   replace hP:=hP x2_ hx2
   obtain⟨ad1,cs1,ha1,hl8,hr2,hR1,hlt1⟩:=RSl.at hz1 hx2
   cases hR1
   refine H5 (k:=k_3) (a':=(ad1.add (k_3*1))) (congrArg (fun z=>Value.slice z _ _) ha1) rfl rfl hlt1 Tryz.underlying72 Tryz.sizeOf9 rfl (q94 (v:=(.string x2_)) rfl Tryz.isAgg9 (hr2.cell (View.of (Sub.trans hsub1 hsub2) hS6.view) 0 rfl rfl) (Zo (v:=(.string x2_)) rfl (wpList_nil (Qy (Q7 (Zr (v:=(.map (some b3))) rfl (Zr (v:=(.string x2_)) rfl (z8y (v:=(.bool (((F_4 x2_).getD false)))) (i:=1) hS6 rfl rfl rfl Tryz.underlying182 Tryz.underlying9 Tryz.zeroValue4 (z56 (fun y:Bool=>(Value.bool (y))) _ rfl) (j9z (r:=(!((F_4 x2_).getD false))) rfl rfl (wpList_nil (Qy ?_)))))))))))
   refine j92 rfl (fun ht3=> ?_) (fun ht3=> ?_)
   ·
    replace hP:=hP.2 (by first|(rw[ht3];exact Bool.false_ne_true)|simp[ht3])
    refine Q7 (Zr (v:=(.map (some b3))) rfl (Zr (v:=(.string x2_)) rfl (j73 (y0:=true) (i:=1) (ms':=[vec v8 9 1 open_6.length ((open_6).flatMap Qu),emap b3 (fun y:Bool=>(Value.bool (y))) (put F_4 x2_ true)]) hS6 rfl rfl rfl rfl Tryz.underlying182 Tryz.underlying9 rfl ?_)))
    intro w5 hS7
    refine wpList_nil (Qy (q12 (Zr (v:=v8) rfl (Zr (v:=(.string x2_)) rfl (q4i (cs:=[(.string x2_)]) (e:=9) hS7 (fun _=>by kernel_rfl) ?_)))))
    intro b5 w6 hS8
    obtain⟨hsm1,hP⟩:=hP
    refine j2f (Ms:=fun v9=>[blk b5 9 [(.string x2_)],vec v9 9 1 ((open_6++[x2_]).length) ((open_6++[x2_]).flatMap Qu),emap b3 (fun y:Bool=>(Value.bool (y))) (put F_4 x2_ true)]) (k':=(open_6++[x2_]).length) (xs':=(open_6++[x2_]).flatMap Qu) Tryz.underlying72 Tryz.type9 rfl rfl (bytes:=16) rfl rfl (Nat.succ_pos _) hS8 rfl (q:=1) rfl rfl rfl (Rv (hS8.get (i:=0) rfl)) (ones rfl) hsm1 (by omega) (by first|rfl|exact List.length_append.symm|simp) (by simp[Qu]) (fun _=>rfl) ?_
    intro v9 w7 ho7 hS9
    have hS10:=hS9.drop 0 (ms':=[vec v9 9 1 ((open_6++[x2_]).length) ((open_6++[x2_]).flatMap Qu),emap b3 (fun y:Bool=>(Value.bool (y))) (put F_4 x2_ true)]) rfl
    refine Zo (v:=v9) rfl (wpList_nil (z4r (Qy (q12 (z7k (r:=((k_3+1:Nat):Int)) rfl rfl (nw (by omega) (by omega) (by have:=hlen4;omega)) (Zr (v:=(.int .i64 ((k_3+1:Nat):Int))) rfl (wpList_nil (Qy ?_))))))))
    exact⟨open_6++[x2_],k_3+1,put F_4 x2_ true,_,rfl,hP,v9,σ2,_,(Q2 rfl (Q2 rfl (Q2 rfl (Q2 rfl (Q2 rfl (Q2 rfl rfl)))))),hS10,hsub2,ho7,hsm1⟩
   ·
    replace hP:=hP.1 ht3
    refine wp_skip (z4r (Qy (q12 (z7k (r:=((k_3+1:Nat):Int)) rfl rfl (nw (by omega) (by omega) (by have:=hlen4;omega)) (Zr (v:=(.int .i64 ((k_3+1:Nat):Int))) rfl (wpList_nil (Qy ?_)))))))
    exact⟨open_6,k_3+1,F_4,_,rfl,hP,v8,σ2,_,(Q2 rfl (Q2 rfl (Q2 rfl (Q2 rfl (Q2 rfl (Q2 rfl rfl)))))),hS6,hsub2,ho6,hl7⟩
  ·
   replace hP:=hP.2 ht2
   refine wp_exit (q6u (q6u (z0y (z4r (Qy ?_)))))
   exact⟨open_6,F_4,_,rfl,hP,v8,σ2,_,(Q2 rfl (Q2 rfl (Q2 rfl rfl))),hS6,(Sub.trans hsub1 hsub2),ho6,hl7⟩
 ·
  replace hP:=hP.2 ht1
  refine wp_exit (q6u (q6u (z0y (Qy (Q7 (Zr (v:=(.map (some b3))) rfl (Zo (v:=(.map (some b3))) rfl (wpList_nil (Qy (wp_ret (ret1 rfl (show ev _ _ _=(.map (some b3)) from rfl) ?_)))))))))))
  have hS11:=hS4.front 1 rfl (ms':=[emap b3 (fun y:Bool=>(Value.bool (y))) F_2,vec v4 9 1 open_3.length ((open_3).flatMap Qu)]) rfl
  exact⟨F_2,b3,rfl,(St.back (hS11.keep 1 (ms':=[emap b3 (fun y:Bool=>(Value.bool (y))) F_2]) rfl) (Sub.refl _)),hP⟩
set_option maxHeartbeats 2000000 in
theorem w_graph_Cyclic{σ:Hv}{w:World}(nodes_p:(List ByteArray))(edges_p:(List (ByteArray×ByteArray)))(v1:Value)(v2:Value){K:(List ByteArray)->Prop}(hV:View σ w)(hr1:RSl 1 (REnc Qu) σ v1 nodes_p)(hr2:RSl 2 (REnc j5h) σ v2 edges_p)(hP:P_graph_Cyclic nodes_p edges_p K):
    Calls Tryz.prog 55 #[v1,v2] w (fun e w1=> ∃(r1:(List ByteArray)) (v3:Value),e= .returned v3/\St ⟨w,σ,[]⟩ w1 σ [vec v3 9 1 r1.length ((r1).flatMap Qu)]/\Sml r1.length/\K r1):=by
 unfold P_graph_Cyclic at hP
 obtain⟨a1,cap1,rfl⟩:=hr1.shape
 obtain⟨a2,cap2,rfl⟩:=hr2.shape
 refine enter Tryz.func55 rfl rfl rfl ?_
 have hS:=St.start hV
 refine Q7 (Zo (v:=(.slice none 0 0)) rfl (wpList_nil (Qy (Q7 (Zo (v:=(.slice none 0 0)) rfl (wpList_nil (Qy (Q7 (Zr (v:=(.slice a2 edges_p.length cap2)) rfl ?_)))))))))
 obtain⟨Y1,hK1,hc1⟩:=hP
 refine q6t (args:=[(.slice a2 edges_p.length cap2)]) rfl Tryz.call113 (Calls.mono (z1l edges_p (.slice a2 edges_p.length cap2) hS.view hr2 hc1) ?_)
 rintro _ w1 ⟨r1_,v4,σ1,rfl,hg1,hr4,hY1⟩
 refine⟨_,rfl,?_⟩
 have hS1:=hS.grow hg1
 replace hP:=hK1 r1_ hY1
 obtain⟨b1,rfl⟩:=hr4.shape
 refine Zo (v:=(.map (some b1))) rfl (wpList_nil (Qy (wp_seq (Q7 (Zr (v:=(.slice a1 nodes_p.length cap1)) rfl (q6t (args:=[(.slice a1 nodes_p.length cap1)]) rfl Tryz.call115 ?_))))))
 refine enter Tryz.func115 rfl rfl rfl ?_
 refine Q7 (j90 (cs:=[(.slice a1 nodes_p.length cap1)]) hS1 rfl rfl ?_)
 intro b2 w2 hS2
 refine Zo (v:= .nilFunc) rfl (wpList_nil (Qy (Q7 (z7l (la:=[]) (lb:=[(.pointer (some ⟨b2,0,none⟩))]) rfl rfl (Zo (v:=(.func (.func 174) #[] #[(.pointer (some ⟨b2,0,none⟩))])) rfl (wpList_nil (Qy (wp_ret (ret1 rfl (show ev _ _ _=(.func (.func 174) #[] #[(.pointer (some ⟨b2,0,none⟩))]) from rfl) ?_)))))))))
 refine⟨_,rfl,?_⟩
 refine q6t (args:=[(.func (.func 174) #[] #[(.pointer (some ⟨b2,0,none⟩))])]) rfl Tryz.call114 ?_
 refine enter Tryz.func114 rfl rfl rfl ?_
 refine Q7 (Zo (v:=(.slice none 0 0)) rfl (wpList_nil (Qy (Q7 (Zr (v:=(.func (.func 174) #[] #[(.pointer (some ⟨b2,0,none⟩))])) rfl (q6t (args:=[(.func (.func 174) #[] #[(.pointer (some ⟨b2,0,none⟩))])]) rfl Tryz.call173 ?_))))))
 refine enter Tryz.func173 rfl rfl rfl ?_
 refine Q7 (Zo (v:=(.slice none 0 0)) rfl (wpList_nil (Qy (Q7 (Zr (v:=(.func (.func 174) #[] #[(.pointer (some ⟨b2,0,none⟩))])) rfl ?_)))))
 obtain⟨σ2,hS3,hsub1,hfr1⟩:=hS2.freeze' (i:=0) rfl rfl
 have hB1:σ2 b2=some (.cells #[(.slice a1 nodes_p.length cap1)] 72 (0,0)):=(hfr1 _ rfl).trans (hS2.get (i:=0) rfl)
 obtain⟨hsm1,hP⟩:=hP
 refine q6t (args:=[(.slice none 0 0),(.func (.func 174) #[] #[(.pointer (some ⟨b2,0,none⟩))])]) rfl Tryz.call227 (Calls.mono (w0u b2 (.slice a1 nodes_p.length cap1) nodes_p hS3.view hB1 (RSl.menc (Sub.trans hg1.sub hsub1) hr1) hsm1) ?_)
 rintro _ w3 ⟨v5,rfl,hg2,ho1⟩
 refine⟨_,rfl,?_⟩
 have hS4:=hS3.growAdd hg2 (o:=vec v5 9 1 nodes_p.length ((nodes_p).flatMap Qu)) ho1
 refine Zo (v:=v5) rfl (wpList_nil (Qy (wp_ret (ret1 rfl (show ev _ _ _=v5 from rfl) ?_))))
 refine⟨_,rfl,?_⟩
 refine Zo (v:=v5) rfl (wpList_nil (Qy (Q7 (Zr (v:=v5) rfl ?_))))
 refine q6t (args:=[v5]) rfl Tryz.call111 (Calls.mono (j2d Tryz.slices_Sort_string Tryz.slices_Sort_string_none hS4.view (hS4.get (i:=0) rfl) rfl (fun b hb=>hS4.off _ (List.mem_of_getElem? (i:=0) rfl) b hb) (by have:=hsm1;unfold Sml at this;omega)) ?_)
 rintro _ w4 ⟨rfl,hg3,ho2⟩
 refine⟨_,rfl,?_⟩
 have hS5:=hS4.growV (i:=0) (o':=vec v5 9 1 nodes_p.length ((srt nodes_p).flatMap Qu)) rfl hg3 rfl ho2 (ms':=[vec v5 9 1 nodes_p.length ((srt nodes_p).flatMap Qu)]) rfl
 have hS6:=hS5.re (ms':=[vec v5 9 1 ((srt nodes_p).length) ((srt nodes_p).flatMap Qu)]) (by simp only[q5v])
 refine wpList_nil (Qy (Q7 (Zr (v:=v5) rfl (Zo (v:=v5) rfl (wpList_nil (Qy (wp_ret (ret1 rfl (show ev _ _ _=v5 from rfl) ?_))))))))
 refine⟨_,rfl,?_⟩
 obtain⟨hsm2,hP⟩:=hP
 refine q6t (args:=[v5]) rfl Tryz.call112 (Calls.mono (z4v Tryz.slices_Compact_string Tryz.slices_Compact_string_empty hS6.view (hS6.get (i:=0) rfl) rfl (fun b hb=>hS6.off _ (List.mem_of_getElem? (i:=0) rfl) b hb) (by have:=(show Sml (srt nodes_p).length by rw[q5v];exact hsm1);unfold Sml at this;omega)) ?_)
 rintro _ w5 ⟨v6,rfl,hf1,hg4,ho3⟩
 refine⟨_,rfl,?_⟩
 have ho4:=Ho ho3
 have hS7:=hS6.growV (i:=0) (o':=vec v6 9 1 ((cpt (srt nodes_p)).length) ((cpt (srt nodes_p)).flatMap Qu)) rfl hg4 hf1 ho3 (ms':=[vec v6 9 1 ((cpt (srt nodes_p)).length) ((cpt (srt nodes_p)).flatMap Qu)]) rfl
 refine q4j hS7 rfl (i:=0) rfl Tryz.underlying72 ?_
 have hlen1:(cpt (srt nodes_p)).length<=9223372036854775807:=by have:=hsm2;unfold Sml at this;omega
 replace hP:=hP hlen1
 refine Zr (v:=(.int .i64 (0:Int))) rfl (wpList_nil (Qy (wp_block ?_)))
 have hS8:=hS7.addNil 9 1
 refine z01 (fun out_2 k_2 f z=> ∃(v8:Value) (σ3:Hv) (g:Fr),f=(upd (upd (upd (upd (upd g 5 v8) 6 (.map (some b1))) 14 v6) 15 (.int .i64 (((cpt (srt nodes_p)).length:Nat):Int))) 16 (.int .i64 ((k_2:Nat):Int)))/\St ⟨w,σ,[]⟩ z σ3 [vec v8 9 1 out_2.length ((out_2).flatMap Qu),vec v6 9 1 ((cpt (srt nodes_p)).length) ((cpt (srt nodes_p)).flatMap Qu)]/\Sub σ2 σ3/\v8.oneCell'=true/\Sml out_2.length) hP ⟨(.slice none 0 0),σ2,_,(Q2 rfl (Q2 rfl (Q2 rfl (Q2 rfl (Q2 rfl rfl))))),hS8,(Sub.refl _),rfl,(by simp[Sml])⟩ ?_
 clear hP
 rintro out_2 k_2 Y2 hP f w6 ⟨v8,σ3,g,rfl,hS9,hsub2,ho6,hl2⟩
 refine Q7 (j46 (r:=(decide (((k_2:Nat):Int)<(((cpt (srt nodes_p)).length:Nat):Int)))) rfl rfl rfl (wpList_nil (Qy (wp_seq ?_))))
 refine if_d (((k_2:Nat):Int)<(((cpt (srt nodes_p)).length:Nat):Int)) rfl (fun ht1=> ?_) (fun ht1=> ?_)
 ·
  replace hP:=hP.1 ht1
  refine wp_skip (Qy (wp_seq (wp_block (Q7 ?_))))
  obtain⟨x1_,hx1⟩:=getq (l:=cpt (srt nodes_p)) (k:=k_2) (by have:=ht1;omega)
  replace hP:=hP x1_ hx1
  obtain⟨g1,cp1,hv1⟩:=z57 (hS9.get (i:=1) rfl) (Qe hx1)
  refine H5 (k:=k_2) (a':=⟨g1,k_2*1,none⟩) hv1 rfl rfl (Qe hx1) Tryz.underlying72 Tryz.sizeOf9 (by simp[Wo]) (q94 (v:=(.string x1_)) rfl Tryz.isAgg9 (z2s q4l (j:=0) hv1 (hS9.get (i:=1) rfl) hx1 rfl) (Zo (v:=(.string x1_)) rfl (wpList_nil (Qy (Q7 (Zr (v:=(.map (some b1))) rfl (Zr (v:=(.string x1_)) rfl ?_)))))))
  obtain⟨Y3,hK2,hc2⟩:=hP
  refine q6t (args:=[(.map (some b1)),(.string x1_)]) rfl Tryz.call116 (Calls.mono (z1m r1_ x1_ (.map (some b1)) hS9.view (RMp.mono (RSl.mz (Sub.trans hsub1 hsub2)) (Sub.trans hsub1 hsub2) hr4) hc2) ?_)
  rintro _ w7 ⟨r2_,b3,rfl,hg5,hY2⟩
  refine⟨_,rfl,?_⟩
  have hS10:=St.callM (ins:=[]) (rest:=[vec v8 9 1 out_2.length ((out_2).flatMap Qu),vec v6 9 1 ((cpt (srt nodes_p)).length) ((cpt (srt nodes_p)).flatMap Qu)]) (ms':=[emap b3 (fun y:Bool=>(Value.bool (y))) r2_,vec v8 9 1 out_2.length ((out_2).flatMap Qu),vec v6 9 1 ((cpt (srt nodes_p)).length) ((cpt (srt nodes_p)).flatMap Qu)]) hS9 hg5 rfl
  replace hP:=hK2 r2_ hY2
  refine Zr (v:=(.string x1_)) rfl (z8y (v:=(.bool (((r2_ x1_).getD false)))) (i:=0) hS10 rfl rfl rfl Tryz.underlying182 Tryz.underlying9 Tryz.zeroValue4 (z56 (fun y:Bool=>(Value.bool (y))) _ rfl) (wpList_nil (Qy ?_)))
  refine if_b rfl (fun ht2=> ?_) (fun ht2=> ?_)
  ·
   replace hP:=hP.1 ht2
   refine q12 (Zr (v:=v8) rfl (Zr (v:=(.string x1_)) rfl (q4i (cs:=[(.string x1_)]) (e:=9) hS10 (fun _=>by kernel_rfl) ?_)))
   intro b4 w8 hS11
   obtain⟨hsm3,hP⟩:=hP
   refine j2f (Ms:=fun v9=>[blk b4 9 [(.string x1_)],emap b3 (fun y:Bool=>(Value.bool (y))) r2_,vec v9 9 1 ((out_2++[x1_]).length) ((out_2++[x1_]).flatMap Qu),vec v6 9 1 ((cpt (srt nodes_p)).length) ((cpt (srt nodes_p)).flatMap Qu)]) (k':=(out_2++[x1_]).length) (xs':=(out_2++[x1_]).flatMap Qu) Tryz.underlying72 Tryz.type9 rfl rfl (bytes:=16) rfl rfl (Nat.succ_pos _) hS11 rfl (q:=2) rfl rfl rfl (Rv (hS11.get (i:=0) rfl)) (ones rfl) hsm3 (by omega) (by first|rfl|exact List.length_append.symm|simp) (by simp[Qu]) (fun _=>rfl) ?_
   intro v9 w9 ho7 hS12
   have hS13:=hS12.drop 0 (ms':=[emap b3 (fun y:Bool=>(Value.bool (y))) r2_,vec v9 9 1 ((out_2++[x1_]).length) ((out_2++[x1_]).flatMap Qu),vec v6 9 1 ((cpt (srt nodes_p)).length) ((cpt (srt nodes_p)).flatMap Qu)]) rfl
   refine Zo (v:=v9) rfl (wpList_nil (z4r (Qy (q12 (z7k (r:=((k_2+1:Nat):Int)) rfl rfl (nw (by omega) (by omega) (by have:=hlen1;omega)) (Zr (v:=(.int .i64 ((k_2+1:Nat):Int))) rfl (wpList_nil (Qy ?_))))))))
   have hS14:=hS13.front 2 rfl (ms':=[vec v6 9 1 ((cpt (srt nodes_p)).length) ((cpt (srt nodes_p)).flatMap Qu),emap b3 (fun y:Bool=>(Value.bool (y))) r2_,vec v9 9 1 ((out_2++[x1_]).length) ((out_2++[x1_]).flatMap Qu)]) rfl
   have hS15:=hS14.front 2 rfl (ms':=[vec v9 9 1 ((out_2++[x1_]).length) ((out_2++[x1_]).flatMap Qu),vec v6 9 1 ((cpt (srt nodes_p)).length) ((cpt (srt nodes_p)).flatMap Qu),emap b3 (fun y:Bool=>(Value.bool (y))) r2_]) rfl
   exact⟨out_2++[x1_],k_2+1,_,rfl,hP,v9,σ3,_,(Q2 rfl (Q2 rfl (Q2 rfl (Q2 rfl (Q2 rfl rfl))))),(hS15.keep 2 (ms':=[vec v9 9 1 ((out_2++[x1_]).length) ((out_2++[x1_]).flatMap Qu),vec v6 9 1 ((cpt (srt nodes_p)).length) ((cpt (srt nodes_p)).flatMap Qu)]) rfl),hsub2,ho7,hsm3⟩
  ·
   replace hP:=hP.2 (by first|(rw[ht2];exact Bool.false_ne_true)|simp[ht2])
   refine wp_skip (z4r (Qy (q12 (z7k (r:=((k_2+1:Nat):Int)) rfl rfl (nw (by omega) (by omega) (by have:=hlen1;omega)) (Zr (v:=(.int .i64 ((k_2+1:Nat):Int))) rfl (wpList_nil (Qy ?_)))))))
   have hS16:=hS10.front 2 rfl (ms':=[vec v6 9 1 ((cpt (srt nodes_p)).length) ((cpt (srt nodes_p)).flatMap Qu),emap b3 (fun y:Bool=>(Value.bool (y))) r2_,vec v8 9 1 out_2.length ((out_2).flatMap Qu)]) rfl
   have hS17:=hS16.front 2 rfl (ms':=[vec v8 9 1 out_2.length ((out_2).flatMap Qu),vec v6 9 1 ((cpt (srt nodes_p)).length) ((cpt (srt nodes_p)).flatMap Qu),emap b3 (fun y:Bool=>(Value.bool (y))) r2_]) rfl
   exact⟨out_2,k_2+1,_,rfl,hP,v8,σ3,_,(Q2 rfl (Q2 rfl (Q2 rfl (Q2 rfl (Q2 rfl rfl))))),(hS17.keep 2 (ms':=[vec v8 9 1 out_2.length ((out_2).flatMap Qu),vec v6 9 1 ((cpt (srt nodes_p)).length) ((cpt (srt nodes_p)).flatMap Qu)]) rfl),hsub2,ho6,hl2⟩
 ·
  replace hP:=hP.2 ht1
  refine wp_exit (q6u (q6u (z0y (Qy (Q7 (Zr (v:=v8) rfl (Zo (v:=v8) rfl (wpList_nil (Qy (wp_ret (ret1 rfl (show ev _ _ _=v8 from rfl) ?_)))))))))))
  exact⟨out_2,v8,rfl,(St.back (hS9.keep 1 (ms':=[vec v8 9 1 out_2.length ((out_2).flatMap Qu)]) rfl) (Sub.refl _)),hl2,hP⟩
end Go.Proofs.YtlmjknifmlifiaaGreatDoor
end
noncomputable section
set_option maxRecDepth 100000
open Go Go.RowKit Go.Fl Go.Fl.Lk Go.Fx
namespace Go.En
theorem q7x{σ:Hv}{w:World}{g:Nat}{T:C}{n:Nat}{l:List (car T)}(hV:View σ w)(hs:SRep D (fun _=>none) σ (.pointer (some ⟨g,0,none⟩)) (.fap T n l)){i j:Nat}{x:car T}{s:FV Sg}(hx:l[i]? =some x)(hj:(D.shape T x)[j]? =some s)(hz:j<D.size T):
  ∃v,w.cell? ⟨g,i*D.size T+j,none⟩=some v/\RepF D σ v s:=by
 generalize hq:Value.pointer (some (⟨g,0,none⟩:Addr))=q at hs
 cases hs with
 |fap ad cs T' N l' hN h hl hr=>
  cases hq
  have hrow:=hr i x hx
  have hlen:=okP.ok.len T x
  have hjl:j<((cs.drop (i*D.size T)).take (D.size T)).length:=by rw[hrow.1,hlen];exact hz
  obtain⟨v,hv⟩: ∃v,((cs.drop (i*D.size T)).take (D.size T))[j]? =some v:=⟨_,List.getElem?_eq_getElem hjl⟩
  refine⟨v,?_,hrow.2 j v s hv hj⟩
  rw[List.getElem?_take,if_pos hz,List.getElem?_drop] at hv
  have:=hV.cell (h _ v hv)
  rw[Wo,Nat.zero_add] at this
  exact this
theorem j3j: ∀c,c<256->z6w[c]? =some ((Go.Lib.firstT c:Nat):Int):=by decide
theorem j8w: ∀i,i<16->(q8o[i]?).map (fun a=>(a.lo,a.hi))=some (((Go.Lib.accLo i:Nat):Int),((Go.Lib.accHi i:Nat):Int)):=by decide
theorem tabs{σ:Hv}{w:World}(hV:View σ w)(hG:Glb D σ):Go.Lib.Utf8Tabs (Proofs.Tryz.lays196_ren.g 3) (Proofs.Tryz.lays196_ren.g 4) w:=by
 refine⟨fun c hc=> ?_,fun i hi=> ?_⟩
 ·have h:=hG.known (Proofs.Tryz.lays196_ren.g 3)
  obtain⟨v,h1,h2⟩:=q7x (T:= .u8) (n:=256) (l:=z6w) hV h (i:=c) (j:=0) (s:= .int .u8 ((Go.Lib.firstT c:Nat):Int)) (j3j c hc) rfl (by decide)
  cases h2
  simpa [show D.size C.u8=1 from rfl] using h1
 ·have h:=hG.known (Proofs.Tryz.lays196_ren.g 4)
  have ha:=j8w i hi
  obtain⟨a,e1,e2⟩:=Option.map_eq_some_iff.1 ha
  obtain⟨v,h1,h2⟩:=q7x (T:= .acc) (n:=16) (l:=q8o) hV h (i:=i) (j:=0) (s:= .int .u8 a.lo) e1 rfl (by decide)
  obtain⟨v',h1',h2'⟩:=q7x (T:= .acc) (n:=16) (l:=q8o) hV h (i:=i) (j:=1) (s:= .int .u8 a.hi) e1 rfl (by decide)
  cases h2;cases h2'
  simp only[Prod.mk.injEq] at e2
  rw[e2.1] at h1;rw[e2.2] at h1'
  refine⟨by rw[Nat.mul_comm];simpa [show D.size C.acc=2 from rfl] using h1,by rw[Nat.mul_comm];simpa [show D.size C.acc=2 from rfl] using h1'⟩
theorem z5p{w w':World}(h:Below w.heap.size w w'):Keeps [] w w':=⟨h.os,h.tape,h.output,h.size,fun k hk _=>h.block k hk⟩
theorem z75{σ:Hv}{w w1:World}{args:List (Tr Sg)}{vals:List Value}{K:List (Tr Sg)->List (Tr Sg)->Prop}{rets outs:List (Tr Sg)}{rv:List Value}(hS:St ⟨w,σ,feet []⟩ w σ [])(hK:K rets outs)(hb:Below w.heap.size w w1)(hL:LayL D σ rets rv [])(hT:LayT D σ args outs vals [] []):
  Back D σ w args vals [] K (.returned (retV rv)) w1:=by
 have hk:=z5p hb
 refine⟨rets,outs,rv,σ,[],[],rfl,hK,hL,hT,?_⟩
 refine⟨hk,fun b o hbo=> ?_,Sub.refl _,fun _ _ _=>rfl,by simp,by simp,by simp,by simp⟩
 have h1:=hS.view b o hbo
 have hlt:b<w.heap.size:=by
  rcases Nat.lt_or_ge b w.heap.size with h|h
  ·exact h
  ·rw[Array.getElem?_eq_none h] at h1;cases h1
 rw[hk.block b hlt (by simp)];exact h1
theorem q43:Rz Proofs.Tryz.prog D 154 (conV ([.v]:LP) ([.str]:LV) ([.bool]:LV) ([.same]:LV) (fun a K=>Vg a.1 (fun q0=>K (q0,()) ((),())))):=by
 intro args K hm w σ vals ins hG hL hS
 obtain⟨a,ha,hm⟩:=Qb hm
 have hargs:=Vb ha
 subst hargs
 obtain⟨s,_⟩:=a
 cases hL with
 |cons hp hr=>
 cases hr
 cases hp with
 |f hf=>
 cases hf
 have hm:s.size<=9223372036854775807/\K [.f (.bool (Go.Lib.validD s.data.toList))] [.same]:=hm
 refine Calls.mono (Go.Proofs.Any.utf8_ValidString Proofs.Tryz.lays196 s w hm.1 (tabs hS.view hG)) ?_
 rintro e w' ⟨rfl,hb⟩
 exact z75 (rv:=[.bool (Go.Lib.validD s.data.toList)]) hS hm.2 hb (.cons (ms:=[]) (.f (.bool _)) .nil) (.skip (a0:=[]) .nil)
theorem z1n(l:List ByteArray):l.flatMap Qu=l.map Value.string:=by
 induction l with
 |nil=>rfl
 |cons a l ih=>rw[List.flatMap_cons,List.map_cons,ih];rfl
theorem j0r(σ:Hv)(l:List ByteArray):Els D σ C.str (l.flatMap Qu) l:=by
 rw[z1n]
 refine⟨by rw[List.length_map];exact (Nat.mul_one _).symm,fun i x hx=> ?_⟩
 rw[show D.size C.str=1 from rfl,Nat.mul_one]
 have hx:l[i]? =some x:=hx
 have e:((l.map Value.string).drop i).take 1=[.string x]:=by
  rw[←List.map_drop,List.drop_eq_getElem_cons (List.getElem?_eq_some_iff.1 hx).1,(List.getElem?_eq_some_iff.1 hx).2];rfl
 rw[e]
 refine⟨rfl,fun j v s hj hs=> ?_⟩
 cases j with
 |zero=>cases hj;cases hs;exact .str x
 |succ j=>cases hj
theorem j3k{σ:Hv}{v:Value}{l:List ByteArray}(h:RepF D σ v (.sl C.str l)):RSl 1 (REnc Qu) σ v l:=by
 obtain⟨a,cap,e1,e2,e3,e4⟩:=h.toRSl okP.ok
 refine⟨a,cap,e1,e2,e3,fun i x hx=> ?_⟩
 obtain⟨ad,cs,f1,f2,f3,f4⟩:=e4 i x hx
 refine⟨ad,cs,f1,f2,f3,?_⟩
 obtain⟨u,rfl⟩: ∃u,cs=[u]:=List.length_eq_one_iff.1 f2
 have g1:=f4.2 0 u (.str x) rfl rfl
 cases g1
 rfl
theorem j0s{σ:Hv}{v:Value}{l:List Edg}(h:RepF D σ v (.sl C.edge l)):RSl 2 (REnc j5h) σ v (l.map fun e=>(e.1,e.2)):=by
 obtain⟨a,cap,e1,e2,e3,e4⟩:=h.toRSl okP.ok
 have hl:(l.map fun e=>(e.1,e.2)).length=l.length:=List.length_map ..
 refine⟨a,cap,by rw[hl];exact e1,by rw[hl];exact e2,by rw[hl];exact e3,fun i x hx=> ?_⟩
 rw[List.getElem?_map] at hx
 obtain⟨y,hy,rfl⟩:=Option.map_eq_some_iff.1 hx
 obtain⟨ad,cs,f1,f2,f3,f4⟩:=e4 i y hy
 refine⟨ad,cs,f1,f2,f3,?_⟩
 obtain⟨u,v,rfl⟩: ∃u v,cs=[u,v]:=by
  match cs,f2 with
  |[u,v],_=>exact⟨u,v,rfl⟩
 have g1:=f4.2 0 u (.str y.src) rfl rfl
 have g2:=f4.2 1 v (.str y.dst) rfl rfl
 cases g1;cases g2
 rfl
theorem q9m:Rz Proofs.Tryz.prog D 55 (conV ([.sl C.str,.sl C.edge]:LP) ([.sl C.str,.sl C.edge]:LV) ([.vec 9 C.str]:LV) ([.same,.same]:LV) (fun a K=>P_graph_Cyclic a.1 a.2.1 (fun q0=>K (q0,()) ((),(),())))):=by
 intro args K hm w σ vals ins hG hL hS
 obtain⟨a,ha,hm⟩:=Qb hm
 have hargs:=Vb ha
 subst hargs
 obtain⟨s,t,_⟩:=a
 cases hL with
 | @cons _ _ v1 _ _ _ hp hr=>
 cases hr with
 | @cons _ _ v2 _ _ _ hq hr=>
 cases hr
 cases hp with
 |f hf1=>
 cases hq with
 |f hf2=>
 have hm:Go.Fl.P_graph_Cyclic s (t.map fun e=>(e.1,e.2)) (fun l=>K [.vec 9 C.str l] [.same,.same]):=hm
 refine Calls.mono (Go.Proofs.YtlmjknifmlifiaaGreatDoor.w_graph_Cyclic s (t.map fun e=>(e.1,e.2)) v1 v2 hS.view (j3k hf1) (j0s hf2) hm) ?_
 rintro e w1 ⟨l,v,rfl,hS1,hsm,hK⟩
 have hl:l.length<=140737488355328:=by unfold Sml at hsm;omega
 exact⟨[.vec 9 C.str l],[.same,.same],[v],σ,[vec v 9 1 l.length (l.flatMap Qu)],[],rfl,hK,.cons (.vec (j0r σ _) hl (Ho (hS1.get (i:=0) rfl))) .nil,.skip (a0:=[]) (.skip (a0:=[]) .nil),hS1⟩
theorem w0v: ∀c,c<256->z6x[c]? =some (if Go.Lib.isSp (UInt8.ofNat c) then (1:Int) else 0):=by decide
theorem j0t: ∀(ws:Bool) (l:List UInt8),Go.Lib.cntF ws l<=l.length
 |_,[]=>by simp[Go.Lib.cntF]
 |ws,b::l=>by
  have:=j0t (Go.Lib.isSp b) l
  simp only[Go.Lib.cntF,List.length_cons]
  split<;>omega
theorem q69:Rz Proofs.Tryz.prog D 155 (conV ([.v]:LP) ([.str]:LV) ([.vec 9 C.str]:LV) ([.same]:LV) (fun a K=>Hu a.1 (fun q0=>K (q0,()) ((),())))):=by
 intro args K hm w σ vals ins hG hL hS
 obtain⟨a,ha,hm⟩:=Qb hm
 have hargs:=Vb ha
 subst hargs
 obtain⟨s,_⟩:=a
 cases hL with
 |cons hp hr=>
 cases hr
 cases hp with
 |f hf=>
 cases hf
 have hm:s.size<4294967281/\j4u s/\K [.vec 9 C.str (Um s)] [.same]:=hm
 obtain⟨hsz,hasc,hm⟩:=hm
 have hT: ∀c:Nat,c<256->w.cell? ⟨Proofs.Tryz.lays157_ren.g 0,c,none⟩=some (.int .u8 (if Go.Lib.isSp (UInt8.ofNat c) then 1 else 0)):=fun c hc=>by
  have h:=hG.known (Proofs.Tryz.lays157_ren.g 0)
  obtain⟨v,h1,h2⟩:=q7x (T:= .u8) (n:=256) (l:=z6x) hS.view h (i:=c) (j:=0) (s:= .int .u8 (if Go.Lib.isSp (UInt8.ofNat c) then 1 else 0)) (w0v c hc) rfl (by decide)
  cases h2
  simpa [show D.size C.u8=1 from rfl] using h1
 have hlen:(Um s).length=(Go.Lib.fields s.data.toList).length:=by unfold Um;rw[List.length_map]
 have hcnt:(Go.Lib.fields s.data.toList).length<=s.size:=by rw[Go.Lib.fields_length];exact Nat.le_trans (j0t _ _) (Nat.le_of_eq rfl)
 refine Calls.mono (Go.Proofs.Any.strings_Fields_core Proofs.Tryz.lays157 (by kernel_rfl) s w hsz hasc hT) ?_
 rintro e w' ⟨rfl,rfl⟩
 rw[show (Go.Lib.fields s.data.toList).map (fun l=>Value.string ⟨l.toArray⟩)=(Um s).map Value.string by unfold Um;rw[List.map_map];rfl,←hlen]
 rw[←hlen] at hcnt
 have ho:(vec (.slice (some ⟨w.heap.size,0,none⟩) (Um s).length (Um s).length) 9 1 (Um s).length ((Um s).flatMap Qu)).ok (w.alloc (.cells ((Um s).map Value.string).toArray 9)):=by
  refine⟨by rw[z1n];simp,.inr ⟨w.heap.size,_,_,rfl,Nat.zero_le _,heap_alloc_new _ _,Nat.le_refl _,by unfold maxLen;omega,by simp,?_⟩⟩
  rw[z1n,Nat.mul_one]
  exact List.take_of_length_le (by rw[List.length_map];exact Nat.le_refl _)
 have hS1:=hS.add (Zs w _) ho (by rintro k ⟨⟩;exact Nat.le_refl _)
 exact (⟨[.vec 9 C.str (Um s)],[.same],[_],σ,[_],[],rfl,hm,.cons (.vec (j0r σ _) (by omega) (Ho ho)) .nil,.skip (a0:=[]) .nil,hS1⟩:Back D σ w [.f (.str s)] [.string s] [] K (.returned (retV [.slice (some ⟨w.heap.size,0,none⟩) (Um s).length (Um s).length])) (w.alloc (.cells ((Um s).map Value.string).toArray 9)))
theorem q6d:Rz Proofs.Tryz.prog D 157 (conV ([.v,.v]:LP) ([.str,.str]:LV) ([.int .i64]:LV) ([.same,.same]:LV) (fun a K=>Gz a.1 a.2.1 (fun q0=>K (q0,()) ((),(),())))):=by
 intro args K hm
 obtain⟨a,_,hm⟩:=Qb hm
 exact False.elim hm
theorem q8t:Rz Proofs.Tryz.prog D 97 (conV ([.el C.seg]:LP) ([.el C.seg]:LV) ([.int .i64]:LV) ([.same]:LV) (fun a K=>R4 a.1 (fun q0=>K (q0,()) ((),())))):=by
 intro args K hm
 obtain⟨a,_,hm⟩:=Qb hm
 exact False.elim hm
theorem z3z:Rz Proofs.Tryz.prog D 100 (conV ([.el C.flag]:LP) ([.el C.flag]:LV) ([.int .i64]:LV) ([.same]:LV) (fun a K=>q2g a.1 (fun q0=>K (q0,()) ((),())))):=by
 intro args K hm
 obtain⟨a,_,hm⟩:=Qb hm
 exact False.elim hm
theorem z1o:Rz Proofs.Tryz.prog D 103 (conV ([.el C.layer]:LP) ([.el C.layer]:LV) ([.int .i64]:LV) ([.same]:LV) (fun a K=>q1j a.1 (fun q0=>K (q0,()) ((),())))):=by
 intro args K hm
 obtain⟨a,_,hm⟩:=Qb hm
 exact False.elim hm
theorem q44:Rz Proofs.Tryz.prog D 106 (conV ([.el C.exper]:LP) ([.el C.exper]:LV) ([.int .i64]:LV) ([.same]:LV) (fun a K=>Ga a.1 (fun q0=>K (q0,()) ((),())))):=by
 intro args K hm
 obtain⟨a,_,hm⟩:=Qb hm
 exact False.elim hm
theorem z30:Rz Proofs.Tryz.prog D 52 (conV ([.el C.ex]:LP) ([.el C.ex]:LV) ([.bool]:LV) ([.same]:LV) (fun a K=>q2i a.1 (fun q0=>K (q0,()) ((),())))):=by
 intro args K hm
 obtain⟨a,_,hm⟩:=Qb hm
 exact False.elim hm
theorem q7a:Rz Proofs.Tryz.prog D 54 (conV ([.el C.ex]:LP) ([.el C.ex]:LV) ([.vec 9 C.str]:LV) ([.same]:LV) (fun a K=>Hx a.1 (fun q0=>K (q0,()) ((),())))):=by
 intro args K hm
 obtain⟨a,_,hm⟩:=Qb hm
 exact False.elim hm
end Go.En
end
noncomputable section
set_option maxRecDepth 100000
open Go Go.RowKit Go.Fl Go.Fl.Lk Go.Fx
namespace Go.En
def q45(X:q1g):Con Sg:=conS [.int .i64] [.bool] fun a K=>X a.1 (fun q0=>K (q0,()))
theorem z1p:MT 128 (q45 Vt):=mS (l:=[]) trivial []
def Vc(X:Zf):Con Sg:=conS [.sl C.str,.sl C.str] [.bool] fun a K=>X a.1 a.2.1 (fun q0=>K (q0,()))
theorem Hy:MT 180 (Vc Zg):=mS (l:=[]) trivial [(9,⟨bl 8131,[],[],[sI 13]⟩)]
def q2l(X:Bj):Con Sg:=conS [.el C.val,.el C.val] [.bool] fun a K=>X a.1 a.2.1 (fun q0=>K (q0,()))
theorem z32{Zh:Zf}(h:AL [(180,Vc Zh)]):MT 124 (q2l (q2b Zh)):=mS h []
theorem z33:MT 124 (q2l Uv):=z32 ⟨Hy,trivial⟩
def q36(X:Un):Con Sg:=conV [.el C.ex,.el C.ex] [.el C.ex,.el C.ex] [.bool] [.same,.same] fun a K=>X a.1 a.2.1 (fun q0=>K (q0,()) ((),(),()))
theorem q8u:MT 67 (q36 Jk):=by
 show MT _ (conV ([.el C.ex,.el C.ex]:LP) ([.el C.ex,.el C.ex]:LV) ([.bool]:LV) ([.same,.same]:LV) fun a K=>Jk a.1 a.2.1 (fun q0=>K (q0,()) ((),(),())))
 exact mQ (l:=[(124,q2l Uv)]) (u:=4) (rk:=[.v]) ⟨z33,trivial⟩ (by kernel_rfl) [(124000009,⟨bl 130055,[],[],[sI 17]⟩),(126000009,⟨bl 130055,[],[],[sI 17]⟩)] (fun X a K=>q33 Uv (fun a b K=>X (a,b,()) fun r _=>K r.1) a.1 a.2.1 (fun q0=>K (q0,()) ((),(),()))) (fun _ _ _=>by kernel_rfl) fun a K h X hX=>h (fun a b K=>X (a,b,()) fun r _=>K r.1) fun a b K hs=>hX (a,b,()) (fun r _=>K r.1) hs
def q3r(X:J0):Con Sg:=conV [.own 40 C.ex,.el C.ex] [.vec 40 C.ex,.el C.ex] [.vec 40 C.ex] [.same,.same] fun a K=>X a.1 a.2.1 (fun q0=>K (q0,()) ((),(),()))
theorem q9n:MT 76 (q3r G9):=by
 show MT _ (conV ([.own 40 C.ex,.el C.ex]:LP) ([.vec 40 C.ex,.el C.ex]:LV) ([.vec 40 C.ex]:LV) ([.same,.same]:LV) fun a K=>G9 a.1 a.2.1 (fun q0=>K (q0,()) ((),(),())))
 exact mQ (l:=[(128,q45 Vt),(67,q36 Jk)]) (u:=4) (rk:=[.own 40 C.ex]) ⟨z1p,q8u,trivial⟩ (by kernel_rfl) [(6,⟨[1,3,4],[1],[],[(.slot 0,.own 40 C.ex)]⟩),(9,⟨bl 234881050,[1],[],[(.slot 0,.own 40 C.ex),sI 28]⟩),(66000005,⟨bl 195,[0],[],[sI 8]⟩)] (fun X a K=>B5 Vt Jk (fun l e K=>X (l,e,()) fun r _=>K r.1) a.1 a.2.1 (fun q0=>K (q0,()) ((),(),()))) (fun _ _ _=>by kernel_rfl) fun a K h X hX=>h (fun l e K=>X (l,e,()) fun r _=>K r.1) fun l e K hs=>hX (l,e,()) (fun r _=>K r.1) hs
def q46(X:q1h):Con Sg:=conS [.el C.val] [.el C.val] fun a K=>X a.1 (fun q0=>K (q0,()))
theorem z1q:MT 132 (q46 Vu):=mS (l:=[]) trivial []
def q6x(X:Vl):Con Sg:=conV [.el C.ex] [.el C.ex] [.el C.ex] [.same] fun a K=>X a.1 (fun q0=>K (q0,()) ((),()))
theorem z34:MT 77 (q6x Bk):=by
 show MT _ (conV ([.el C.ex]:LP) ([.el C.ex]:LV) ([.el C.ex]:LV) ([.same]:LV) fun a K=>Bk a.1 (fun q0=>K (q0,()) ((),())))
 exact mQ (l:=[(132,q46 Vu)]) (u:=4) (rk:=[.el C.ex]) ⟨z1q,trivial⟩ (by kernel_rfl) [(132000007,⟨bl 7955,[],[],[(.slot 5,.own 144 C.val),sI 13]⟩),(76000007,⟨bl 7955,[],[],[(.slot 5,.own 40 C.ex),sI 13]⟩)] (fun X a K=>q2c Vu (fun e K=>X (e,()) fun r _=>K r.1) a.1 (fun q0=>K (q0,()) ((),()))) (fun _ _ _=>by kernel_rfl) fun a K h X hX=>h (fun e K=>X (e,()) fun r _=>K r.1) fun e K hs=>hX (e,()) (fun r _=>K r.1) hs
def q0b(X:Ua):Con Sg:=conS [.el C.ex] [.sl C.ex] fun a K=>X a.1 (fun q0=>K (q0,()))
theorem q9o{Hf:J0}{By:Vl}(h:AL [(76,q3r Hf),(77,q6x By)]):MT 29 (q0b (B6 Hf By)):=mS h [(76000007,⟨bl 7955,[1],[],[(.slot 5,.own 40 C.ex),sI 13]⟩)]
theorem q9p:MT 29 (q0b Ha):=q9o ⟨q9n,z34,trivial⟩
def q47(X:Ra):Con Sg:=conV [] [] [.ptr 129 [.vec 136 C.node,.map C.node C.i64,.bool]] [] fun _ K=>X (fun q0 q1 q2=>K ((q0,q1,q2,()),()) ())
theorem z1r:MT 22 (q47 U6):=mP (rk:=[.ptr 129 [.own 136 C.node,.map C.node C.i64,.v]]) (l:=[]) trivial []
def Z2(X:Qo):Con Sg:=conV [.ptr 129 [.own 136 C.node,.map C.node C.i64,.v],.v] [.ptr 129 [.vec 136 C.node,.map C.node C.i64,.bool],.int .i64] [.int .i64] [.ptr 129 [.vec 136 C.node,.map C.node C.i64,.bool],.same] fun a K=>X a.1.1 a.1.2.1 a.1.2.2.1 a.2.1 (fun q0 q1 q2 q3=>K (q0,()) ((q1,q2,q3,()),(),()))
theorem Jp:MT 30 (Z2 Qp):=mP (rk:=[.v]) (l:=[]) trivial []
def Jc(X:Qr):Con Sg:=conV [.ptr 129 [.own 136 C.node,.map C.node C.i64,.v],.v] [.ptr 129 [.vec 136 C.node,.map C.node C.i64,.bool],.int .i64] [.bool] [.ptr 129 [.vec 136 C.node,.map C.node C.i64,.bool],.same] fun a K=>X a.1.1 a.1.2.1 a.1.2.2.1 a.2.1 (fun q0 q1 q2 q3=>K (q0,()) ((q1,q2,q3,()),(),()))
theorem J6:MT 69 (Jc Za):=mP (rk:=[.v]) (l:=[]) trivial []
def H4(X:V6):Con Sg:=conV [.ptr 129 [.own 136 C.node,.map C.node C.i64,.v],.v] [.ptr 129 [.vec 136 C.node,.map C.node C.i64,.bool],.int .i64] [.map C.i64 C.bool] [.ptr 129 [.vec 136 C.node,.map C.node C.i64,.bool],.same] fun a K=>X a.1.1 a.1.2.1 a.1.2.2.1 a.2.1 (fun q0 q1 q2 q3=>K (q0,()) ((q1,q2,q3,()),(),()))
theorem q3j{Qc:Qr}(h:AL [(69,Jc Qc)]):MT 184 (H4 (H2 Qc)):=mPg 3 (rk:=[.map C.i64 C.bool]) h [(230999999,⟨[1,2,3],[3,5,7,0,9,2],[],[(.slot 0,.int .i64),(.obj 4,.map C.i64 C.bool)]⟩)]
theorem q3k:MT 184 (H4 Zv):=q3j ⟨J6,trivial⟩
end Go.En
end
noncomputable section
set_option maxRecDepth 100000
namespace Go.En
open Go Go.Proofs Go.RowKit Go.Fl Go.Maps Go.Sort
abbrev ki:Int->Value:=fun x=> .int .i64 x
theorem q8v(es:Array MapEntry)(s:Array Nat):(leftOf es s).size=es.toList.countP fun e'=> !s.contains e'.born:=by
 unfold leftOf
 rw[←Array.length_toList,Array.toList_filter,List.countP_eq_length_filter]
theorem z5q{es:Array MapEntry}{seen:Array Nat}{e:MapEntry}(he:e∈es.toList)(hs:e.born∉seen.toList):(leftOf es (seen.push e.born)).size<(leftOf es seen).size:=by
 rw[q8v,q8v]
 generalize es.toList=l at he
 have hle: ∀l:List MapEntry,(l.countP fun e'=> !(seen.push e.born).contains e'.born)<=l.countP fun e'=> !seen.contains e'.born:=fun l=>
  List.countP_mono_left fun x _ hx=>by simp at hx⊢;exact hx.1
 induction l with
 |nil=>simp at he
 |cons x l ih=>
  rw[List.countP_cons,List.countP_cons]
  have hx:=hle l
  rcases List.mem_cons.1 he with rfl|hm
  ·have h1:(!(seen.push e.born).contains e.born)=false:=by simp
   have h2:(!seen.contains e.born)=true:=by simpa using hs
   rw[h1,h2]
   simp only[Bool.false_eq_true,if_false,if_true]
   omega
  ·have:=ih hm
   have hx1:(!(seen.push e.born).contains x.born)=true->(!seen.contains x.born)=true:=fun h=>by simp at h⊢;exact h.1
   cases h1:(!(seen.push e.born).contains x.born) with
   |false=>simp only[Bool.false_eq_true,if_false];split<;>omega
   |true=>rw[hx1 h1];simp only[if_true];omega
def lft(w:World)(r:Nat)(es:Array MapEntry):Nat:=
 match w.heap[r]? with
 |some (.mapIter _ _ seen _)=>(leftOf es seen).size
 |_=>0
theorem j0u{w:World}{r b clock:Nat}{es:Array MapEntry}{done:List Int}{cur:Option (Int×Value)}(hi:(itrK ki r b es clock done cur).ok w)(hb:w.heap[b]? =some (.map es clock))(hK:q0h ki es.toList)(hM:MBk es.toList clock)(ty:TypeId):
  ((∀k v,lkK ki es.toList k=some v->k∈done)/\(Instr.next (.pointer (some ⟨r,0,none⟩)) false ty).run Tryz.prog w= .ok (.tuple #[.bool false]) w)∨
  ∃k v w',lkK ki es.toList k=some v/\k∉done/\(Instr.next (.pointer (some ⟨r,0,none⟩)) false ty).run Tryz.prog w= .ok (.tuple #[.bool true,.int .i64 k,v]) w'/\Keeps [r] w w'/\(itrK ki r b es clock (k::done) (some (k,v))).ok w'/\lft w' r es<lft w r es:=by
 obtain⟨seen,k1,k2,k3⟩:=hi
 have hold: ∀x∈es.toList,x.born<clock:=fun x hx=>hM.2.2 _ (List.mem_map.2 ⟨x,hx,rfl⟩)
 have hmem: ∀e,e∈(leftOf es seen).toList↔e∈es.toList/\e.born∉seen.toList:=by intro e;simp[leftOf]
 rcases run_next_at (P:=Tryz.prog) w ty r b clock clock seen es clock k1 hb hold (Nat.le_refl _) with ⟨hz,hr⟩|⟨e,he,w1,hw,hr⟩
 ·refine .inl ⟨fun k v hk=> ?_,hr⟩
  obtain⟨e,he,hek,_⟩:=(U3 hM.1 k v).1 hk
  have hin:e.born∈seen.toList:=by
   rcases Classical.em (e.born∈seen.toList) with hh|hh
   ·exact hh
   ·exfalso
    have:=(hmem e).2 ⟨he,hh⟩
    rw[Array.eq_empty_of_size_eq_zero hz] at this
    simp at this
  obtain⟨k',hk',e'⟩:=(k2 e he).1 hin
  have:ki k=ki k':=hek.symm.trans e'
  simp only[ki,Value.int.injEq,true_and] at this
  rw[this];exact hk'
 ·obtain⟨hes,hns⟩:=(hmem e).1 he
  obtain⟨k,hk⟩:=hK e hes
  have hlt:r<w.heap.size:=(Array.getElem?_eq_some_iff.1 k1).1
  have hheap:w1.heap=w.heap:=by rcases hw with rfl|rfl<;>rfl
  rw[hk] at hr
  have hnew:(ChangeMaps.setBlock w1 r (.mapIter (some b) clock (seen.push e.born) clock)).heap[r]? =some (.mapIter (some b) clock (seen.push e.born) clock):=by
   show (w1.heap.setIfInBounds r _)[r]? =_
   rw[Array.getElem?_setIfInBounds,if_pos rfl,hheap,if_pos hlt]
  refine .inr ⟨k,e.val,_,(U3 hM.1 k e.val).2 ⟨e,hes,hk,rfl⟩,fun hd=>hns ((k2 e hes).2 ⟨k,hd,hk⟩),hr,⟨?_,?_,?_,?_,fun j hj hm=> ?_⟩,⟨seen.push e.born,hnew,fun e' he'=> ?_,fun kv hkv=> ?_⟩,?_⟩
  ·rcases hw with rfl|rfl<;>rfl
  ·rcases hw with rfl|rfl<;>rfl
  ·rcases hw with rfl|rfl<;>rfl
  ·simp[ChangeMaps.setBlock,hheap]
  ·show (w1.heap.setIfInBounds r _)[j]? =_
   rw[Array.getElem?_setIfInBounds,if_neg (by intro e;exact hm (by simp[e])),hheap]
  ·rw[Array.toList_push,List.mem_append,k2 e' he',List.mem_singleton]
   constructor
   ·rintro (⟨q,h1,h2⟩|hb)
    ·exact⟨q,by simp[h1],h2⟩
    ·have h5:=find_born e es.toList hM.2.1 hes
     have h6:=find_born e' es.toList hM.2.1 he'
     rw[hb,h5] at h6
     cases h6
     exact⟨k,by simp,hk⟩
   ·rintro⟨q,h1,h2⟩
    rcases List.mem_cons.1 h1 with rfl|h1
    ·right
     exact congrArg MapEntry.born (Hp hM.1 he' hes (h2.trans hk.symm))
    ·exact .inl ⟨q,h1,h2⟩
  ·cases hkv
   exact⟨seen,e,rfl,hes,hk,rfl⟩
  ·unfold lft
   rw[hnew,k1]
   exact z5q hes hns
variable {n:Nat}{ops:Array Oper}{Q:Exit->Act->World->Prop}{rest:List Oper}{o:Oper}{a:Act}
theorem j3l{F:Fence}{P:Program}{w:World}{b clock:Nat}{es:Array MapEntry}(hg:o.guard=none){m:Operand}{t:TypeId}(hop:o.op=Op.range t m){kt et:TypeId}(ht:P.underlying t=some (.map kt et))(hm:a.eval m= .map (some b))(hb:w.heap[b]? =some (.map es clock))
  (hK:wpListIn F n P ops Q rest (a.put o.dst (.pointer (some ⟨w.heap.size,0,none⟩))) (w.alloc (.mapIter (some b) clock #[] clock))):wpListIn F n P ops Q (o::rest) a w:=by
 refine wpListIn_plain hg fun K' hK'=> ?_
 unfold Oper.wpIn
 refine⟨by simp[Oper.about,hop],?_⟩
 rw[Oper.semAt_plain F _ _ (by rw[hop];intro c hc';cases hc')]
 simp[execOp,hop,hm,Instr.range,Sem.run_bind,run_underlying ht,MapKept.run_getObj_map hb]
 exact hK' _ _ hK
theorem j6z{F:Fence}{w:World}{r b clock:Nat}{es:Array MapEntry}{done:List Int}{cur:Option (Int×Value)}(hg:o.guard=none){it:Operand}(hop:o.op=Op.next it false)(hit:a.eval it= .pointer (some ⟨r,0,none⟩))
  (hi:(itrK ki r b es clock done cur).ok w)(hb:w.heap[b]? =some (.map es clock))(hK:q0h ki es.toList)(hM:MBk es.toList clock)
  (h0:(∀k v,lkK ki es.toList k=some v->k∈done)->wpListIn F n Tryz.prog ops Q rest (a.put o.dst (.tuple #[.bool false])) w)
  (h1: ∀k v w',lkK ki es.toList k=some v->k∉done->Keeps [r] w w'->(itrK ki r b es clock (k::done) (some (k,v))).ok w'->lft w' r es<lft w r es->wpListIn F n Tryz.prog ops Q rest (a.put o.dst (.tuple #[.bool true,.int .i64 k,v])) w'):
  wpListIn F n Tryz.prog ops Q (o::rest) a w:=by
 refine wpListIn_plain hg fun K' hK'=> ?_
 unfold Oper.wpIn
 refine⟨by simp[Oper.about,hop],?_⟩
 rw[Oper.semAt_plain F _ _ (by rw[hop];intro c hc';cases hc')]
 rcases j0u hi hb hK hM o.type with ⟨h2,hrun⟩|⟨k,v,w',h2,h3,hrun,h4,h5,h6⟩
 ·simp[execOp,hop,hit,hrun,Result.andThen]
  exact hK' _ _ (h0 h2)
 ·simp[execOp,hop,hit,hrun,Result.andThen]
  exact hK' _ _ (h1 k v w' h2 h3 h4 h5 h6)
theorem j3m{F:Fence}{w:World}{r b clock:Nat}{es:Array MapEntry}{done:List Int}{k:Int}{v:Value}(hg:o.guard=none){it:Operand}(hop:o.op=Op.entry it)(hit:a.eval it= .pointer (some ⟨r,0,none⟩))
  (hi:(itrK ki r b es clock done (some (k,v))).ok w)(hb:w.heap[b]? =some (.map es clock))(hM:MBk es.toList clock)
  (h:wpListIn F n Tryz.prog ops Q rest (a.put o.dst (.tuple #[.int .i64 k,v])) w):wpListIn F n Tryz.prog ops Q (o::rest) a w:=by
 refine wpListIn_plain hg fun K' hK'=> ?_
 unfold Oper.wpIn
 refine⟨by simp[Oper.about,hop],?_⟩
 rw[Oper.semAt_plain F _ _ (by rw[hop];intro c hc';cases hc')]
 obtain⟨seen,k1,k2,k3⟩:=hi
 obtain⟨s0,e,rfl,he,hk,hv⟩:=k3 _ rfl
 have hrun:=run_entry_at (P:=Tryz.prog) w r b clock s0 es clock e k1 hb he hM.2.1
 rw[hk,hv] at hrun
 simp[execOp,hop,hit,hrun,Result.andThen]
 exact hK' _ _ h
end Go.En
namespace Go.En
open Go Go.Proofs Go.RowKit Go.Fl Go.Maps Go.Sort
set_option maxHeartbeats 1000000 in
theorem w0w(n:Nat)(hn:1<=n)(l Bm b clock:Nat)(es:Array MapEntry)(hK:q0h ki es.toList)(hM:MBk es.toList clock)(J:List Int->World->Prop)(W:World)
  (hJ: ∀pre W1 W2,J pre W1->W.heap.size<W1.heap.size∨W1=W->Keeps [W.heap.size] W1 W2->J pre W2)(hb: ∀pre W1,J pre W1->W1.heap[b]? =some (.map es clock))
  (hY: ∀pre x W1,J pre W1->W.heap.size<W1.heap.size->x∉pre->(lkK ki es.toList x).isSome=true->YieldAt Fence.wide (n - 1) Tryz.prog l #[.int .i64 x] W1 fun e W2=>e= .returned (.bool true)/\J (pre++[x]) W2/\W2.heap[W.heap.size]? =W1.heap[W.heap.size]? /\W1.heap.size<=W2.heap.size)
  (hm:W.cell? ⟨Bm,0,none⟩=some (.map (some b)))(h0:J [] W):
  CallsIn Fence.wide n Tryz.prog 228 #[.func (.yield l) #[] #[],.pointer (some ⟨Bm,0,none⟩)] W fun e W'=>(∃v,e= .returned v)/\ ∃ss:List Int,ss.Nodup/\(∀k,k∈ss↔(lkK ki es.toList k).isSome=true)/\J ss W':=by
 refine callsIn_of_wp Tryz.func228 rfl trivial ?_ rfl
 simp only[Tryz.ntmps228,List.size_toArray,List.length_cons,List.length_nil,Nat.reduceAdd,Nat.reduceSub,Array.replicate_succ,Array.replicate_zero,List.push_toArray,List.append_toArray,List.nil_append,List.cons_append]
 gi_wp2_with (first
  |(gi_at_range;refine j3l rfl rfl (kt:=3) (et:=4) Tryz.underlying244 rfl (hb _ _ h0) ?_)
  |gi_in)
 have hsz:(W.alloc (.mapIter (some b) clock #[] clock)).heap.size=W.heap.size+1:=by simp
 have hJ0:J [] (W.alloc (.mapIter (some b) clock #[] clock)):=hJ _ _ _ h0 (.inr rfl) ((Zs W _).mono (by simp))
 have hi0:(itrK ki W.heap.size b es clock [] none).ok (W.alloc (.mapIter (some b) clock #[] clock)):=⟨#[],heap_alloc_new _ _,by simp,by simp⟩
 generalize W.alloc (.mapIter (some b) clock #[] clock)=W0 at hsz hJ0 hi0⊢
 go_frame
 gi_loopw [3] (fun _ wr=> ∃(done:List Int) (cur:Option (Int×Value)),(itrK ki W.heap.size b es clock done cur).ok wr/\done.Nodup/\(∀k∈done,(lkK ki es.toList k).isSome=true)/\J done.reverse wr/\W.heap.size<wr.heap.size) (fun _ wr=>lft wr W.heap.size es)
 case atStart=>exact⟨[],none,hi0,by simp,by simp,hJ0,by omega⟩
 case round=>
  obtain⟨done,cur,hi,hnd,hin,hJr,hlt⟩:=hrel
  gi_wp2_with (first
   |(gi_at_next;refine j6z rfl rfl rfl hi (hb _ _ hJr) hK hM ?_ ?_)
   |gi_in)
  ·intro hall
   gi_wp2
   go_end0
   exact⟨⟨_,rfl⟩,done.reverse,by unfold List.Nodup;rw[List.pairwise_reverse];exact hnd.imp (fun h=>h.symm),fun k=>by
    rw[List.mem_reverse]
    exact⟨hin k,fun hk=>by obtain⟨v,hv⟩:=Option.isSome_iff_exists.1 hk;exact hall k v hv⟩,hJr⟩
  ·intro k v w2 hk hkd hkeep hi2 hlft
   have hJ2:J done.reverse w2:=hJ _ _ _ hJr (.inl hlt) hkeep
   have hlt2:W.heap.size<w2.heap.size:=Nat.lt_of_lt_of_le hlt hkeep.size
   obtain⟨fn,tmps,assign,body,hy,hR⟩:=hY _ k w2 hJ2 hlt2 (by simpa using hkd) (by rw[hk];rfl)
   gi_wp2_with (first
    |(refine j3m rfl rfl rfl hi2 (hb _ _ hJ2) hM ?_)
    |gi_in)
   refine hR.mono ?_
   rintro e W3 ⟨rfl,hJ3,hr3,hs3⟩
   gi_wp2
   have hi3:(itrK ki W.heap.size b es clock (k::done) (some (k,v))).ok W3:=HObj.stay _ w2 W3 (fun q hq=>by cases hq;exact hr3) hi2
   go_roundw
   case rel=>exact⟨k::done,_,hi3,List.nodup_cons.2 ⟨hkd,hnd⟩,fun q hq=>by
    rcases List.mem_cons.1 hq with rfl|hq
    ·rw[hk];rfl
    ·exact hin q hq,by rw[List.reverse_cons];exact hJ3,by omega⟩
   case measure=>unfold lft at hlft⊢;rw[hr3];exact hlft
end Go.En
namespace Go.En
open Go Go.Proofs Go.RowKit Go.Fl Go.Maps Go.Sort
def z1s:Code:=Code.region 3 #[{dst:=some 6,op:=Op.assign (Operand.tmp 11),type:=3,pos:= "diagram.go:181",after:= #[],guard:=none}] false
def j0v:Code:=Code.block 1 ((Code.region 4 #[{dst:=some 12,op:=Op.move (Operand.tmp 6),type:=3,pos:= "diagram.go:182",after:= #[],guard:=none},
 {dst:=some 13,op:=Op.binOp BinOp.lss 3 (Operand.tmp 12) (Operand.const (Value.int .i64 0)) 3,type:=4,pos:= "diagram.go:182",after:= #[{on:=0,ground:=Ground.data}],guard:=none}] false).seq
 (Code.cond (Operand.tmp 13) (Code.region 5 #[{dst:=some 14,op:=Op.load 26 (Operand.tmp 5),type:=26,pos:= "diagram.go:183",after:= #[],guard:=none},
  {dst:=some 15,op:=Op.move (Operand.tmp 6),type:=3,pos:= "diagram.go:183",after:= #[],guard:=none},
  {dst:=some 16,op:=Op.binOp BinOp.sub 3 (Operand.const (Value.int .i64 (-1))) (Operand.tmp 15) 3,type:=3,pos:= "diagram.go:183",after:= #[{on:=1,ground:=Ground.data}],guard:=none},
  {dst:=some 17,op:=Op.buildSlice 26 1 #[(0,Operand.tmp 16)],type:=26,pos:= "diagram.go:183",after:= #[{on:=2,ground:=Ground.data}],guard:=none},
  {dst:=some 18,op:=Op.call {callee:=Callee.builtin Builtin.append,args:= #[Operand.tmp 14,Operand.tmp 17],argTypes:= #[26,26]},type:=26,pos:= "diagram.go:183",after:= #[{on:=0,ground:=Ground.data},{on:=3,ground:=Ground.data}],guard:=none},
  {dst:=none,op:=Op.store 26 (Operand.tmp 5) (Operand.tmp 18),type:=0,pos:= "diagram.go:183",after:= #[{on:=4,ground:=Ground.data},{on:=4,ground:=Ground.chain},{on:=0,ground:=Ground.phase},{on:=1,ground:=Ground.phase},{on:=2,ground:=Ground.phase},{on:=3,ground:=Ground.phase},{on:=4,ground:=Ground.phase}],guard:=none}] false) Code.skip))
def q7b(fn:FuncId)(v0 v1 sv m:Value)(Bs D:Nat)(st:LoopState)(pend:Option Code):Loop:=
 {state:=st,pending:=pend,fn,tmps:= #[v0,v1,undef,undef,.slice none 0 0,.pointer (some ⟨Bs,0,none⟩),undef,v0,v1,m,sv,undef,undef,undef,undef,undef,undef,undef,undef,undef,undef,undef],params:= #[11],assign:=z1s,body:=j0v,defers:=D}
def outL(ss:List Int):List Int:=(ss.filter fun x=>decide (x<0)).map fun x=> -1 - x
structure LvAt(w0:World)(fn:FuncId)(v0 v1 sv m:Value)(Bs:Nat)(ss:List Int)(W:World):Prop where
 box: ∃v,W.heap[Bs]? =some (.cells #[v] 26 (0,0))/\W.ownsRow (w0.heap.size+3) 3 1 v (outL ss).length ((outL ss).map ki)
 L:W.heap[w0.heap.size+1]? =some (.loop (q7b fn v0 v1 sv m Bs w0.heap.size .ready none))
 K:W.heap[w0.heap.size]? =some (.deferred (some []))
 keeps:Keeps [Bs] w0 W
theorem q48(W:World)(l:Nat)(o:Obj):W.grownBy (W.putObj l o) (some l):=
 ⟨rfl,rfl,rfl,by simp,fun k _ hk=>World.putObj_heap_other (fun e=>hk (by rw[e]))⟩
theorem j8x(W:World)(b:Nat)(v:Value):W.grownBy (W.setCell ⟨b,0,none⟩ v) (some b):=
 ⟨rfl,rfl,rfl,(KeepsWalks.setCell W _ v).size,fun k _ hk=>Below.heap_setCell _ _ _ k (fun e=>hk (by rw[e]))⟩
theorem z35{W:World}{base:Nat}{e:TypeId}{size:Nat}{v:Value}{k:Nat}{xs:List Value}(h:W.ownsRow base e size v k xs){j:Nat}{o:Obj}(hj:W.heap[j]? =some o)(hno: ∀cur,o≠ .cells cur e (0,0)):
  v.ownBlock=none∨v.ownBlock≠some j:=by
 rcases h.2 with ⟨rfl,_⟩|⟨g,cap,cur,rfl,_,hgb,_⟩
 ·exact .inl rfl
 ·refine .inr fun e'=> ?_
  have:g=j:=by simpa [Value.ownBlock] using e'
  subst this;rw[hgb] at hj;cases hj;exact hno cur rfl
theorem z1t{W:World}{B:Nat}{v:Value}{t:TypeId}(h:W.heap[B]? =some (.cells #[v] t (0,0))):W.cell? ⟨B,0,none⟩=some v/\W.frozen? ⟨B,0,none⟩=false:=by
 constructor<;>simp[World.cell?,World.frozen?,h]
theorem j0w{W:World}{B:Nat}{v:Value}{t:TypeId}(v':Value)(h:W.heap[B]? =some (.cells #[v] t (0,0))):(W.setCell ⟨B,0,none⟩ v').heap[B]? =some (.cells #[v'] t (0,0)):=by
 obtain⟨hlt,hk⟩:=Array.getElem?_eq_some_iff.1 h
 show (W.heap.modify B _)[B]? =_
 rw[Array.getElem?_eq_getElem (by rw[Array.size_modify];exact hlt),Array.getElem_modify_self,hk]
 rfl
theorem Ri{w w1 w2:World}{M:List Nat}{row:Option Nat}(h:Keeps M w w1)(g:w1.grownBy w2 row)(hr: ∀k,row=some k->k∈M∨w.heap.size<=k):Keeps M w w2:=
 ⟨g.os.trans h.os,g.tape.trans h.tape,g.output.trans h.output,Nat.le_trans h.size g.size,fun k hk hm=>(g.block k (Nat.lt_of_lt_of_le hk h.size) (fun e=>by
  rcases hr k e.symm with h1|h1
  ·exact hm h1
  ·omega)).trans (h.block k hk hm)⟩
theorem z36(ss:List Int)(x:Int):outL (ss++[x])=if x<0 then outL ss++[-1 - x] else outL ss:=by
 unfold outL
 rw[List.filter_append,List.map_append]
 by_cases h:x<0<;>simp[h]
theorem j0x(ss:List Int):(outL ss).length<=ss.length:=by unfold outL;rw[List.length_map];exact List.length_filter_le _ _
set_option maxHeartbeats 2000000 in
theorem j60(w0:World)(fn:FuncId)(v0 v1 sv m:Value)(Bs:Nat)(hB:Bs<w0.heap.size)(q:Nat)(ss:List Int)(x:Int)(W:World)(h:LvAt w0 fn v0 v1 sv m Bs ss W)(hlen:ss.length<=4294967296)(hsz:w0.heap.size+2<W.heap.size)(hx: -9223372036854775808<=x)(hx':x<=9223372036854775807):
  YieldAt Fence.wide q Tryz.prog (w0.heap.size+1) #[.int .i64 x] W fun e W'=>e= .returned (.bool true)/\LvAt w0 fn v0 v1 sv m Bs (ss++[x]) W'/\W'.heap[w0.heap.size+2]? =W.heap[w0.heap.size+2]? /\W.heap.size<=W'.heap.size:=by
 obtain⟨v,hv,hrow⟩:=h.box
 refine⟨fn,#[v0,v1,undef,undef,.slice none 0 0,.pointer (some ⟨Bs,0,none⟩),undef,v0,v1,m,sv,.int .i64 x,undef,undef,undef,undef,undef,undef,undef,undef,undef,undef],z1s,j0v,by simpa [q7b] using run_yield (P:=Tryz.prog) (args:= #[.int .i64 x]) h.L rfl,roundIn_of_wpIn trivial ?_⟩
 have hl:w0.heap.size+1<W.heap.size:=(Array.getElem?_eq_some_iff.1 h.L).1
 have hbr:=run_beginRound (P:=Tryz.prog) h.L rfl
 obtain⟨W2,hW2⟩: ∃W2,W.putObj (w0.heap.size+1) (.loop {q7b fn v0 v1 sv m Bs w0.heap.size .ready none with state:= .busy})=W2:=⟨_,rfl⟩
 rw[hW2] at hbr
 have hg2:W.grownBy W2 (some (w0.heap.size+1)):=by rw[←hW2];exact q48 _ _ _
 have hv2:W2.heap[Bs]? =some (.cells #[v] 26 (0,0)):=by rw[←hW2];exact (World.putObj_heap_other (by omega)).trans hv
 have hK2:W2.heap[w0.heap.size]? =some (.deferred (some [])):=by rw[←hW2];exact (World.putObj_heap_other (by omega)).trans h.K
 have hL2:W2.heap[w0.heap.size+1]? =some (.loop {q7b fn v0 v1 sv m Bs w0.heap.size .ready none with state:= .busy}):=by rw[←hW2];exact World.putObj_heap_same hl
 have hr2:W2.heap[w0.heap.size+2]? =W.heap[w0.heap.size+2]? :=by rw[←hW2];exact World.putObj_heap_other (by omega)
 have hrow2:W2.ownsRow (w0.heap.size+3) 3 1 v (outL ss).length ((outL ss).map ki):=hrow.kept hg2 (z35 hrow h.L (fun cur e=>by cases e))
 have hk2:Keeps [Bs] w0 W2:=Ri h.keeps hg2 (fun k e=>by cases e;right;omega)
 obtain⟨hc2,hf2⟩:=z1t hv2
 have hBlt:Bs<W2.heap.size:=(Array.getElem?_eq_some_iff.1 hv2).1
 have hl2:w0.heap.size+1<W2.heap.size:=(Array.getElem?_eq_some_iff.1 hL2).1
 have hs2:W.heap.size<=W2.heap.size:=hg2.size
 clear hW2
 unfold z1s
 gi_wp2_with (rw[Oper.semAt_eq _ _ _ (fun c h=>by cases h)];go_simp;try go_bits)
 obtain⟨i0,hi⟩: ∃i,Tryz.prog.info? 3=some i:=Option.isSome_iff_exists.1 (by kernel_rfl)
 have hz0:i0.zero=some (.int .i64 0):=by
  have e:(Tryz.prog.info? 3).bind (·.zero)=some (.int .i64 0):=by kernel_rfl
  rw[hi] at e;exact e
 have hz1:i0.size=1:=by
  have e:(Tryz.prog.info? 3).map (·.size)=some 1:=by kernel_rfl
  rw[hi] at e;exact Option.some.inj e
 have hz2:i0.bytes=8:=by
  have e:(Tryz.prog.info? 3).map (·.bytes)=some 8:=by kernel_rfl
  rw[hi] at e;exact Option.some.inj e
 have hol:=j0x ss
 have ne_of: ∀{j:Nat} {o:Obj},W2.heap[j]? =some o->(∀cur,o≠ .cells cur 3 (0,0))->some j≠v.ownBlock:=fun hj hno=>by
  rcases z35 hrow2 hj hno with e|e
  ·rw[e];simp
  ·exact fun e'=>e e'.symm
 unfold j0v
 by_cases hneg:x<0
 ·gi_wp2_with (first
   |skip
    gi_at_builtin;refine wpListIn_append_own _ rfl _ _ 26 rfl (w0.heap.size+3) 3 i0 (.int .i64 0) 1 8 Tryz.underlying26 hi hz0 hz1 hz2 rfl (by decide) _ _ _ rfl (hrow2.alloc _) ⟨W2.heap.size,0,none⟩ 1 1 [.int .i64 (-1 - x)] rfl rfl (cell_one_new _ _ _) (by simp[Value.oneCell']) (by unfold maxLen;omega) (by omega) (by simp;omega) ?_;intro v' w3 hown' hg3 hnil3
    have hv3:w3.heap[Bs]? =some (.cells #[v] 26 (0,0)):=(hg3.block Bs (by simp;omega) (ne_of hv2 (fun cur e=>by cases e))).trans ((Below.heap_alloc _ _ Bs hBlt).trans hv2)
    obtain⟨hc3,hf3⟩:=z1t hv3
    obtain⟨g',cap',cur',rfl,hbase',hgb',hr1,hr3,hr4,hr5⟩: ∃g' cap' cur',v'= .slice (some ⟨g',0,none⟩) ((outL ss).length+1) cap'/\w0.heap.size+3<=g'/\w3.heap[g']? =some (.cells cur' 3 (0,0))/\(outL ss).length+1<=cap'/\cap'<=maxLen/\cur'.size=cap'*1/\cur'.toList.take (((outL ss).length+1)*1)=(outL ss).map ki++[.int .i64 (-1 - x)]:=by
     rcases hown'.2 with ⟨_,h0⟩|h'
     ·exact absurd h0 (by omega)
     ·exact h'
    go_frame
   |(rw[Oper.semAt_eq _ _ _ (fun c h=>by cases h)];go_simp;try go_bits))
  have hg3':(W2.alloc (.cells #[.int .i64 (-1 - x)] 3)).grownBy w3 v.ownBlock:=hg3
  have hL3:w3.heap[w0.heap.size+1]? =some (.loop {q7b fn v0 v1 sv m Bs w0.heap.size .ready none with state:= .busy}):=(hg3'.block _ (by simp;omega) (ne_of hL2 (fun cur e=>by cases e))).trans ((Below.heap_alloc _ _ _ hl2).trans hL2)
  have hK3:w3.heap[w0.heap.size]? =some (.deferred (some [])):=(hg3'.block _ (by simp;omega) (ne_of hK2 (fun cur e=>by cases e))).trans ((Below.heap_alloc _ _ _ (by omega)).trans hK2)
  have hk3:Keeps [Bs] w0 w3:=Ri (w1:=W2.alloc (.cells #[.int .i64 (-1 - x)] 3)) ⟨hk2.os,hk2.tape,hk2.output,by have:=hk2.size;simp;omega,fun k hk hm=>(Below.heap_alloc _ _ k (Nat.lt_of_lt_of_le hk hk2.size)).trans (hk2.block k hk hm)⟩ hg3' (fun k e=> .inr (by
   have:=(hrow2.lt k e).1;omega))
  have hr3':w3.heap[w0.heap.size+2]? =W2.heap[w0.heap.size+2]? :=(hg3'.block _ (by simp;omega) (fun e=>by
   have:=(hrow2.lt _ e.symm).1;omega)).trans (Below.heap_alloc _ _ _ (by omega))
  have hs3:W2.heap.size<=w3.heap.size:=by have:=hg3'.size;simp at this;omega
  obtain⟨w4,hw4⟩: ∃w4,w3.setCell ⟨Bs,0,none⟩ (.slice (some ⟨g',0,none⟩) ((outL ss).length+1) cap')=w4:=⟨_,rfl⟩
  rw[hw4]
  have hg4:w3.grownBy w4 (some Bs):=by rw[←hw4];exact j8x _ _ _
  have hv4:w4.heap[Bs]? =some (.cells #[.slice (some ⟨g',0,none⟩) ((outL ss).length+1) cap'] 26 (0,0)):=by rw[←hw4];exact j0w _ hv3
  have hL4:w4.heap[w0.heap.size+1]? =some (.loop {q7b fn v0 v1 sv m Bs w0.heap.size .ready none with state:= .busy}):=(hg4.block _ (Array.getElem?_eq_some_iff.1 hL3).1 (fun e=>by cases e;omega)).trans hL3
  have hK4:w4.heap[w0.heap.size]? =some (.deferred (some [])):=(hg4.block _ (Array.getElem?_eq_some_iff.1 hK3).1 (fun e=>by cases e;omega)).trans hK3
  have hrow4:=hown'.kept hg4 (z35 hown' hv3 (fun cur e=>by cases e))
  have hl4:w0.heap.size+1<w4.heap.size:=(Array.getElem?_eq_some_iff.1 hL4).1
  have hk4:Keeps [Bs] w0 w4:=Ri hk3 hg4 (fun k e=>by cases e;left;simp)
  have hr4':w4.heap[w0.heap.size+2]? =w3.heap[w0.heap.size+2]? :=hg4.block _ (by omega) (fun e=>by cases e;omega)
  have hs4:w3.heap.size<=w4.heap.size:=hg4.size
  clear hw4
  refine⟨_,_,run_endRound none hL4,rfl,⟨⟨_,(World.putObj_heap_other (by omega)).trans hv4,?_⟩,World.putObj_heap_same hl4,(World.putObj_heap_other (by omega)).trans hK4,Ri hk4 (q48 _ _ _) (fun k e=>by cases e;right;omega)⟩,?_,?_⟩
  ·have:=hrow4.kept (q48 w4 (w0.heap.size+1) (.loop {{q7b fn v0 v1 sv m Bs w0.heap.size .ready none with state:= .busy} with state:=if (none:Option Code).isNone then .ready else .done,pending:=none})) (z35 hrow4 hL4 (fun cur e=>by cases e))
   rw[z36,if_pos hneg]
   simpa using this
  ·rw[World.putObj_heap_other (by omega),hr4',hr3',hr2,Array.getElem?_eq_getElem hsz]
  ·exact Nat.le_trans hs2 (Nat.le_trans hs3 (Nat.le_trans hs4 (q48 _ _ _).size))
 ·gi_wp2_with (rw[Oper.semAt_eq _ _ _ (fun c h=>by cases h)];go_simp;try go_bits)
  refine⟨_,_,run_endRound none hL2,rfl,⟨⟨_,(World.putObj_heap_other (by omega)).trans hv2,?_⟩,World.putObj_heap_same hl2,(World.putObj_heap_other (by omega)).trans hK2,Ri hk2 (q48 _ _ _) (fun k e=>by cases e;right;omega)⟩,?_,?_⟩
  ·have:=hrow2.kept (q48 W2 (w0.heap.size+1) (.loop {{q7b fn v0 v1 sv m Bs w0.heap.size .ready none with state:= .busy} with state:=if (none:Option Code).isNone then .ready else .done,pending:=none})) (z35 hrow2 hL2 (fun cur e=>by cases e))
   rw[z36,if_neg (show ¬x<0 by omega)]
   simpa using this
  ·rw[World.putObj_heap_other (by omega),hr2,Array.getElem?_eq_getElem hsz]
  ·exact Nat.le_trans hs2 (q48 _ _ _).size
end Go.En
namespace Go.En
open Go Go.Proofs Go.RowKit Go.Fl Go.Fx Go.Maps Go.Sort
theorem j8y(n:Nat)(mb:Option Nat)(w:World):CallsIn Fence.wide n Tryz.prog 183 #[.map mb] w fun e w'=>e= .returned (.func (.func 228) #[] #[.pointer (some ⟨w.heap.size,0,none⟩)])/\w'=w.alloc (.cells #[.map mb] 244):=by
 refine callsIn_of_wp Tryz.func183 rfl trivial ?_ rfl
 simp only[Tryz.ntmps183,List.size_toArray,List.length_cons,List.length_nil,Nat.reduceAdd,Nat.reduceSub,Array.replicate_succ,Array.replicate_zero,List.push_toArray,List.append_toArray,List.nil_append,List.cons_append]
 gi_wp2
 go_ret
 exact⟨rfl,rfl⟩
def srtI(l:List Int):List Int:=l.mergeSort fun x y=>decide (x<=y)
theorem j3n{w:World}{v:Value}{base n:Nat}{l:List Int}(hr:w.ownsRow base 3 1 v n (l.map ki))(hn:l.length=n)(hl:n<4611686018427387904):
  Calls Tryz.prog 185 #[v] w fun e w1=>e= .returned (.tuple #[])/\w.grownBy w1 v.ownBlock/\w1.ownsRow base 3 1 v n ((srtI l).map ki):=by
 subst hn
 rcases hr.2 with ⟨rfl,h0⟩|⟨g,cap,cur,rfl,hb0,hb,h1,h2,h3,h4⟩
 ·have:l=[]:=List.eq_nil_of_length_eq_zero h0
  subst this
  refine (Tryz.slices_Sort_int_none none 0 w).mono ?_
  rintro e w1 ⟨rfl,rfl⟩
  exact⟨rfl,⟨rfl,rfl,rfl,Nat.le_refl _,fun k _ _=>rfl⟩,by simpa [srtI] using hr⟩
 ·have hc:=Tryz.slices_Sort_int g 0 cap l w (holds_of_blockI hb (by simpa using h4)) (Array.getElem?_eq_some_iff.1 hb).1 hl
  refine hc.mono ?_
  rintro e w1 ⟨rfl,q,os,rfl⟩
  exact⟨rfl,grownBy_sortedI _,by
   have:=ownsRow_sortedI (n:=q) (os:=os) (ss:=l) (ts:=l.mergeSort fun x y=>decide (x<=y)) (by simp) hb0 hb h1 h2 h3
   exact this⟩
theorem j3o{l:List Int}(h:l.Nodup):(srtI l).Pairwise (· < ·):=by
 have h1:(srtI l).Pairwise fun x y=>decide (x<=y)=true:=List.pairwise_mergeSort (fun a b c h1 h2=>by simp at h1 h2⊢;omega) (fun a b=>by simp;omega) l
 have h2:(srtI l).Nodup:=(List.mergeSort_perm l _).nodup_iff.2 h
 exact (h1.and h2).imp fun ⟨a,b⟩=>by simp at a;omega
theorem z76{ss:List Int}(h:ss.Nodup):(outL ss).Nodup:=by
 unfold outL
 exact (List.pairwise_map.2 ((h.filter _).imp fun hab e=>hab (by omega)))
theorem nodup_len{l l':List Int}(h:l.Nodup)(hs: ∀x∈l,x∈l'):l.length<=l'.length:=by
 induction l generalizing l' with
 |nil=>simp
 |cons a l ih=>
  rw[List.nodup_cons] at h
  have:=ih (l':=l'.erase a) h.2 fun x hx=>by
   have hne:x≠a:=fun e=>h.1 (e▸hx)
   exact (List.mem_erase_of_ne hne).2 (hs x (by simp[hx]))
  rw[List.length_erase_of_mem (hs a (by simp))] at this
  have hp:=List.length_pos_of_mem (hs a (by simp))
  simp only[List.length_cons]
  omega
set_option maxHeartbeats 4000000 in
theorem q2m:Rz Proofs.Tryz.prog D 134 (conV ([.ptr 129 [.own 136 C.node,.map C.node C.i64,.v],.v]:LP) ([.ptr 129 [.vec 136 C.node,.map C.node C.i64,.bool],.int .i64]:LV) ([.vec 3 C.i64]:LV) ([.ptr 129 [.vec 136 C.node,.map C.node C.i64,.bool],.same]:LV) (fun a K=>Z5 a.1.1 a.1.2.1 a.1.2.2.1 a.2.1 (fun q0 q1 q2 q3=>K (q0,()) ((q1,q2,q3,()),(),())))):=by
 intro args K hm w σ vals ins hG hL hS
 obtain⟨a,ha,hm⟩:=Qb hm
 have hargs:=Vb ha
 subst hargs
 obtain⟨⟨ns,ids,full,_⟩,id,_⟩:=a
 let K2:List (Fx.Tr Sg)->List (Fx.Tr Sg)->Prop:=fun rets outs=>optK (getL ([.map C.i64 C.bool]:LV) rets) fun r=>optK (getL ([.ptr 129 [.vec 136 C.node,.map C.node C.i64,.bool],.same]:LV) outs) fun o=>
  (∀ks:List Int,Keys r.1 ks->Sml ks.length)/\(∀x,(r.1 x).isSome=true->InI x)/\ ∀l:List Int,l.Pairwise (· < ·)->(∀n,n∈l↔0<=n/\(r.1 (-1 - n)).isSome=true)->K [.vec 3 C.i64 l] outs
 have hreach:=q3k.m (putL ([.ptr 129 [.vec 136 C.node,.map C.node C.i64,.bool],.int .i64]:LV) ((ns,ids,full,()),id,())) K2 hm
 have hLL:=hL
 cases hL with
 | @cons _ _ v0 _ m0 _ hp hr=>
 cases hr with
 | @cons _ _ v1 _ m1 _ h1 hn=>
 cases hn
 cases h1 with
 |f hi=>
 cases hi
 simp only[List.append_nil] at hS hLL⊢
 have hS1:=Rw hS 26 #[.slice none 0 0]
 have hS1':=(hS1.perm (ms':=m0++[blk w.heap.size 26 [.slice none 0 0]]) (by simpa using (List.perm_append_singleton _ _).symm)).inner
 have hcall:Calls Tryz.prog 184 #[v0,.int .i64 id] _ (Back D σ _ (putL ([.ptr 129 [.vec 136 C.node,.map C.node C.i64,.bool],.int .i64]:LV) ((ns,ids,full,()),id,())) [v0,.int .i64 id] m0 K2):=hreach _ σ [v0,.int .i64 id] m0 hG hLL hS1'
 change Calls Tryz.prog 134 #[v0,.int .i64 id] w (Back D σ w (putL ([.ptr 129 [.vec 136 C.node,.map C.node C.i64,.bool],.int .i64]:LV) ((ns,ids,full,()),id,())) [v0,.int .i64 id] m0 K)
 refine (callsIn_wide (n:=5)).1 (callsIn_of_wp_marks Tryz.func134 rfl trivial ?_ rfl)
 simp only[Tryz.ntmps134,List.size_toArray,List.length_cons,List.length_nil,Nat.reduceAdd,Nat.reduceSub,Array.replicate_succ,Array.replicate_zero,List.push_toArray,List.append_toArray,List.nil_append,List.cons_append]
 gi_wp2
 refine⟨trivial,(callsIn_wide.2 hcall).mono ?_⟩
 rintro e w2 ⟨rets,outs,rv,σ2,msr,mso,rfl,hq0,hLr,hLT,hS2⟩
 obtain⟨r,hr,hq1⟩:=Qb hq0
 obtain⟨o,ho,hq2⟩:=Qb hq1
 clear hq0 hq1
 have er:=Vb hr
 subst er
 obtain⟨F,_⟩:=r
 cases hLr with
 | @cons _ _ vm _ mm _ hm1 hn1=>
 cases hn1
 cases hm1 with
 | @map _ _ _ bm mfun hF=>
 simp only[retV]
 gi_wp2
 refine⟨trivial,(j8y _ (some bm) _).mono ?_⟩
 rintro e w3 ⟨rfl,rfl⟩
 gi_wp2
 refine wpIn_rangeFunc ?_
 intro fn hfn
 rw[show Fence.wide.round=none from rfl]
 have hS2a:St ⟨w,σ,feet m0⟩ w2 σ2 ((([q3h (kenc D C.i64) bm mfun]++[])++mso)++[blk w.heap.size 26 [.slice none 0 0]]):=
  St.callM (ins:=m0) (rest:=[blk w.heap.size 26 [.slice none 0 0]]) (hS1.perm (by simpa using (List.perm_append_singleton _ _).symm)) hS2 rfl
 have hS3:=Rw hS2a 244 #[.map (some bm)]
 have hbox:(w2.alloc (.cells #[.map (some bm)] 244)).heap[w2.heap.size]? =some (.cells #[.map (some bm)] 244 (0,0)):=heap_alloc_new _ _
 have hsz3:(w2.alloc (.cells #[.map (some bm)] 244)).heap.size=w2.heap.size+1:=by simp
 generalize w2.alloc (.cells #[.map (some bm)] 244)=w3 at hS3 hbox hsz3⊢
 have hBs:w3.heap[w.heap.size]? =some (.cells #[.slice none 0 0] 26 (0,0)):=hS3.own (blk w.heap.size 26 [.slice none 0 0]) (by simp)
 obtain⟨es,clock,hes,hKs,hlk,hMB⟩:(q3h ki bm mfun).ok w3:=hS3.own (q3h (kenc D C.i64) bm mfun) (by simp)
 have hBlt:w.heap.size<w3.heap.size:=(Array.getElem?_eq_some_iff.1 hBs).1
 have hblt:bm<w3.heap.size:=(Array.getElem?_eq_some_iff.1 hes).1
 have hne:bm≠w.heap.size:=fun e=>by rw[e,hBs] at hes;cases hes
 obtain⟨hbound,hin,hfin⟩:=hq2
 have hFm: ∀k,(lkK ki es.toList k).isSome=(F k).isSome:=fun k=>by rw[hlk k];exact ORel.isSome (hF k)
 obtain⟨ks,hksn,hks⟩:=j74 hKs hMB.1 (fun a b h=>by simpa using h)
 have hksm:Sml ks.length:=hbound ks ⟨hksn,fun k=>by rw[hks k,hFm k]⟩
 obtain⟨B,hB⟩: ∃B,(w3.alloc (.deferred (some []))).alloc (.loop (q7b fn v0 (.int .i64 id) (.func (.func 228) #[] #[.pointer (some ⟨w2.heap.size,0,none⟩)]) (.map (some bm)) w.heap.size w3.heap.size .ready none))=B:=⟨_,rfl⟩
 have hold: ∀k,k<w3.heap.size->B.heap[k]? =w3.heap[k]? :=fun k hk=>by
  rw[←hB];exact (Below.heap_alloc _ _ k (by simp;omega)).trans (Below.heap_alloc _ _ k hk)
 have hBsz:B.heap.size=w3.heap.size+2:=by rw[←hB];simp
 have hBk:Keeps [] w3 B:=by rw[←hB];exact (Zs _ _).trans (Zs _ _)
 have hLv0:LvAt w3 fn v0 (.int .i64 id) (.func (.func 228) #[] #[.pointer (some ⟨w2.heap.size,0,none⟩)]) (.map (some bm)) w.heap.size [] B:=
  ⟨⟨_,(hold _ hBlt).trans hBs,⟨rfl,.inl ⟨rfl,rfl⟩⟩⟩,
   by rw[←hB];have:=World.alloc_heap_new (w3.alloc (.deferred (some []))) (.loop (q7b fn v0 (.int .i64 id) (.func (.func 228) #[] #[.pointer (some ⟨w2.heap.size,0,none⟩)]) (.map (some bm)) w.heap.size w3.heap.size .ready none));rwa [World.size_alloc] at this,
   by rw[←hB];exact (Below.heap_alloc _ _ _ (by simp)).trans (World.alloc_heap_new w3 _),hBk.mono (by simp)⟩
 refine⟨w3.heap.size+1,[{target:= .collected w3.heap.size,args:= #[]}],B,{target:= .fn (.func 228) #[.pointer (some ⟨w2.heap.size,0,none⟩)],args:= #[.func (.yield (w3.heap.size+1)) #[] #[]]},B,228,
  #[.func (.yield (w3.heap.size+1)) #[] #[],.pointer (some ⟨w2.heap.size,0,none⟩)],B,?_,?_,?_,?_,fun _=>by decide,?_⟩
 ·rw[←hB];exact run_enterLoop_outer _ _ _ _ _
 ·simp[resolve,go_sem]
 ·intro f' h';trivial
 ·simp[invoke,go_sem]
 have hcomes:=w0w 4 (by omega) (w3.heap.size+1) w2.heap.size bm clock es hKs hMB (fun pre W=>LvAt w3 fn v0 (.int .i64 id) (.func (.func 228) #[] #[.pointer (some ⟨w2.heap.size,0,none⟩)]) (.map (some bm)) w.heap.size pre W/\pre.Nodup/\ ∀k∈pre,(lkK ki es.toList k).isSome=true) B
  (fun pre W1 W2 hJ _ hk=> ?_) (fun pre W1 hJ=> ?_) (fun pre x W1 hJ hlt hx hxs=> ?_) (by simp[World.cell?,hold _ (show w2.heap.size<w3.heap.size by omega),hbox]) ⟨hLv0,by simp,by simp⟩
 ·refine hcomes.mono ?_
  rintro e Wc ⟨⟨_,rfl⟩,ss,hssn,hss,hC,_,_⟩
  obtain⟨v,hv,hrow⟩:=hC.box
  have hend:=run_endLoop (P:=Tryz.prog) hC.L (by simp[q7b])
  obtain⟨W5,hW5⟩: ∃W5,Wc.putObj (w3.heap.size+1) (.loop {q7b fn v0 (.int .i64 id) (.func (.func 228) #[] #[.pointer (some ⟨w2.heap.size,0,none⟩)]) (.map (some bm)) w.heap.size w3.heap.size .ready none with state:= .exhausted})=W5:=⟨_,rfl⟩
  rw[hW5] at hend
  have hg5:Wc.grownBy W5 (some (w3.heap.size+1)):=by rw[←hW5];exact q48 _ _ _
  have hv5:W5.heap[w.heap.size]? =some (.cells #[v] 26 (0,0)):=by rw[←hW5];exact (World.putObj_heap_other (by omega)).trans hv
  have hK5:W5.heap[w3.heap.size]? =some (.deferred (some [])):=by rw[←hW5];exact (World.putObj_heap_other (by omega)).trans hC.K
  have hrow5:=hrow.kept hg5 (z35 hrow hC.L (fun cur e=>by cases e))
  have hk5:Keeps [w.heap.size] w3 W5:=Ri hC.keeps hg5 (fun k e=>by cases e;right;omega)
  obtain⟨hc5,hf5⟩:=z1t hv5
  clear hW5
  have hlen:ss.length<=ks.length:=nodup_len hssn fun x hx=>(hks x).2 ((hss x).1 hx)
  have hol:=j0x ss
  have hsml:ks.length<=4294967296:=hksm
  refine⟨none,W5,hend,?_⟩
  gi_wp2
  refine⟨trivial,(callsIn_wide.2 (j3n hrow5 rfl (by omega))).mono ?_⟩
  rintro e W6 ⟨rfl,hg6,hrow6⟩
  have ne_of: ∀{j:Nat} {o:Obj},W5.heap[j]? =some o->(∀cur,o≠ .cells cur 3 (0,0))->some j≠v.ownBlock:=fun hj hno=>by
   rcases z35 hrow5 hj hno with e|e
   ·rw[e];simp
   ·exact fun e'=>e e'.symm
  have hv6:W6.heap[w.heap.size]? =some (.cells #[v] 26 (0,0)):=(hg6.block _ (Array.getElem?_eq_some_iff.1 hv5).1 (ne_of hv5 (fun cur e=>by cases e))).trans hv5
  have hK6:W6.heap[w3.heap.size]? =some (.deferred (some [])):=(hg6.block _ (Array.getElem?_eq_some_iff.1 hK5).1 (ne_of hK5 (fun cur e=>by cases e))).trans hK5
  have hk6:Keeps [w.heap.size] w3 W6:=Ri hk5 hg6 (fun k e=> .inr (by have:=(hrow5.lt k e).1;omega))
  obtain⟨hc6,hf6⟩:=z1t hv6
  gi_wp2
  rw[←hsz3]
  refine⟨by simp,.inl ⟨_,_,rfl,run_takeDeferred hK6,?_⟩⟩
  refine⟨_,results_tmp rfl _ _ _,?_⟩
  obtain⟨W7,hW7⟩: ∃W7,W6.putObj w3.heap.size (.deferred none)=W7:=⟨_,rfl⟩
  rw[hW7]
  have hg7:W6.grownBy W7 (some w3.heap.size):=by rw[←hW7];exact q48 _ _ _
  have hk7:Keeps [w.heap.size] w3 W7:=Ri hk6 hg7 (fun k e=>by cases e;right;omega)
  have hrow7:=hrow6.kept hg7 (z35 hrow6 hK6 (fun cur e=>by cases e))
  clear hW7
  have hnl:(srtI (outL ss)).length=(outL ss).length:=by simp[srtI]
  have hE:Els D σ2 C.i64 ((srtI (outL ss)).map ki) (srtI (outL ss)):=by
   refine⟨by show _=(srtI (outL ss)).length*1;simp,fun i x hx=> ?_⟩
   have hxx:(((srtI (outL ss)).map ki).drop (i*1)).take 1=[ki x]:=by
    rw[Nat.mul_one]
    have h1:((srtI (outL ss)).map ki)[i]? =some (ki x):=by rw[List.getElem?_map,hx];rfl
    rw[List.take_one,List.head?_drop,h1]
    rfl
   refine⟨by show ((((srtI (outL ss)).map ki).drop (i*1)).take 1).length=1;rw[hxx];rfl,fun j v s hj hs=> ?_⟩
   have hj:[ki x][j]? =some v:=by rw[←hxx];exact hj
   match j with
   |0=>cases hj;cases hs;exact .int _ _
   |j+1=>cases hj
  have hvec:(vec v 3 (D.size C.i64) (srtI (outL ss)).length ((srtI (outL ss)).map ki)).ok W7:=by
   rw[hnl]
   show World.ownsRow _ 0 3 1 v (outL ss).length _
   rcases hrow7 with ⟨h1,h2⟩
   exact⟨h1,h2.imp (fun h=>h) fun ⟨g,cap,cur,e1,_,e3⟩=>⟨g,cap,cur,e1,Nat.zero_le _,e3⟩⟩
  have hfoot: ∀k,(vec v 3 (D.size C.i64) (srtI (outL ss)).length ((srtI (outL ss)).map ki)).foot=some k->w3.heap.size<=k:=fun k hk=>by
   have:=(hrow7.lt k hk).1
   omega
  have hS4:=hS3.step (i:=mso.length+2) (o:=blk w.heap.size 26 [.slice none 0 0]) (o':=vec v 3 (D.size C.i64) (srtI (outL ss)).length ((srtI (outL ss)).map ki)) (ms':=(blk w2.heap.size 244 [.map (some bm)]::([q3h (kenc D C.i64) bm mfun]++[]++mso))++[vec v 3 (D.size C.i64) (srtI (outL ss)).length ((srtI (outL ss)).map ki)])
   (by simp) hk7 hvec (fun k hk=> .inr (hfoot k hk)) (by simp) hS3.view.none_of_ge
  have hS5:St ⟨w,σ,feet m0⟩ W7 σ2 ([vec v 3 (D.size C.i64) (srtI (outL ss)).length ((srtI (outL ss)).map ki)]++mso):=by
   have h1:=hS4.perm (ms':=[blk w2.heap.size 244 [.map (some bm)],q3h (kenc D C.i64) bm mfun]++([vec v 3 (D.size C.i64) (srtI (outL ss)).length ((srtI (outL ss)).map ki)]++mso)) (by simp)
   exact h1.sublist (List.sublist_append_right _ _)
  refine⟨[.vec 3 C.i64 (srtI (outL ss))],outs,[v],σ2,[vec v 3 (D.size C.i64) (srtI (outL ss)).length ((srtI (outL ss)).map ki)],mso,rfl,?_,?_,hLT,hS5⟩
  ·refine hfin _ (j3o (z76 hssn)) fun n=> ?_
   have e1:n∈srtI (outL ss)↔n∈outL ss:=(List.mergeSort_perm _ _).mem_iff
   rw[e1]
   unfold outL
   simp only[List.mem_map,List.mem_filter,decide_eq_true_eq]
   constructor
   ·rintro⟨x,⟨h1,h2⟩,rfl⟩
    refine⟨by omega,?_⟩
    rw[show -1 - (-1 - x)=x by omega,←hFm]
    exact (hss x).1 h1
   ·rintro⟨h1,h2⟩
    exact⟨-1 - n,⟨(hss _).2 (by rw[hFm];exact h2),by omega⟩,by omega⟩
  ·exact .cons (ms':=[]) (.vec hE (by rw[hnl];omega) (Ho hvec)) .nil
 ·obtain⟨hJ,hn1,hn2⟩:=hJ
  have hg:W1.grownBy W2 (some B.heap.size):=⟨hk.os,hk.tape,hk.output,hk.size,fun k hlt hne=>hk.block k hlt (fun e=>hne (by simp at e;rw[e]))⟩
  obtain⟨v,hv,hrow⟩:=hJ.box
  refine⟨⟨⟨v,(hg.block _ (Array.getElem?_eq_some_iff.1 hv).1 (fun e=>by have:=Option.some.inj e;omega)).trans hv,hrow.kept hg ?_⟩,(hg.block _ (Array.getElem?_eq_some_iff.1 hJ.L).1 (fun e=>by
   have:=Option.some.inj e;omega)).trans hJ.L,(hg.block _ (Array.getElem?_eq_some_iff.1 hJ.K).1 (fun e=>by
   have:=Option.some.inj e;omega)).trans hJ.K,Ri hJ.keeps hg (fun k e=>by
   have:=Option.some.inj e;right;omega)⟩,hn1,hn2⟩
  rcases hrow.2 with ⟨rfl,_⟩|⟨g,cap,cur,rfl,hge,_⟩
  ·exact .inl rfl
  ·refine .inr fun e=> ?_
   have:g=B.heap.size:=by simpa [Value.ownBlock] using e
   omega
 ·exact (hJ.1.keeps.block bm hblt (by simpa using hne)).trans hes
 ·have hxF:InI x:=hin x (by rw[←hFm];exact hxs)
  obtain⟨hJ,hn1,hn2⟩:=hJ
  have hlen:pre.length<=ks.length:=nodup_len hn1 fun y hy=>(hks y).2 (hn2 y hy)
  have hsml:ks.length<=4294967296:=hksm
  have hy:=j60 w3 fn v0 (.int .i64 id) (.func (.func 228) #[] #[.pointer (some ⟨w2.heap.size,0,none⟩)]) (.map (some bm)) w.heap.size hBlt (4 - 1) pre x W1 hJ (by omega) (by omega) hxF.1 hxF.2
  obtain⟨fn',tmps,assign,body,h1,h2⟩:=hy
  refine⟨fn',tmps,assign,body,h1,h2.mono fun e W2 h=>⟨h.1,⟨h.2.1,?_,fun k hk=> ?_⟩,by rw[hBsz];exact h.2.2.1,h.2.2.2⟩⟩
  ·rw[List.nodup_append]
   exact⟨hn1,by simp,fun a ha b hb e=>hx (by simp at hb;rw[←hb,←e];exact ha)⟩
  ·rcases List.mem_append.1 hk with hk|hk
   ·exact hn2 k hk
   ·simp at hk;rw[hk];exact hxs
end Go.En
end
noncomputable section
set_option maxRecDepth 100000
open Go Go.RowKit Go.Fl Go.Fl.Lk Go.Fx
namespace Go.En
def Hl(X:Vm):Con Sg:=conV [.ptr 129 [.own 136 C.node,.map C.node C.i64,.v],.v] [.ptr 129 [.vec 136 C.node,.map C.node C.i64,.bool],.int .i64] [.vec 3 C.i64] [.ptr 129 [.vec 136 C.node,.map C.node C.i64,.bool],.same] fun a K=>X a.1.1 a.1.2.1 a.1.2.2.1 a.2.1 (fun q0 q1 q2 q3=>K (q0,()) ((q1,q2,q3,()),(),()))
theorem q2n:MT 134 (Hl Z5):=⟨entB (by kernel_rfl),q2m⟩
def Zn(X:Ql):Con Sg:=conV [.ptr 129 [.own 136 C.node,.map C.node C.i64,.v],.v] [.ptr 129 [.vec 136 C.node,.map C.node C.i64,.bool],.int .i64] [.bool] [.ptr 129 [.vec 136 C.node,.map C.node C.i64,.bool],.same] fun a K=>X a.1.1 a.1.2.1 a.1.2.2.1 a.2.1 (fun q0 q1 q2 q3=>K (q0,()) ((q1,q2,q3,()),(),()))
theorem q0t{Qc:Qr}{Jx:Vm}(h:AL [(69,Jc Qc),(134,Hl Jx)]):MT 78 (Zn (Uw Qc Jx)):=mP (rk:=[.v]) h [(183000005,⟨bl 195,[5],[],[sI 8]⟩)]
theorem Wg:MT 78 (Zn Q4):=q0t ⟨J6,q2n,trivial⟩
def q3s(X:B7):Con Sg:=conS [.int .i64] [.int .i64,.bool] fun a K=>X a.1 (fun q0 q1=>K (q0,q1,()))
theorem q9q:MT 186 (q3s Ub):=mS (l:=[]) trivial []
def Ww(X:Zi):Con Sg:=conV [.ptr 129 [.own 136 C.node,.map C.node C.i64,.v],.v] [.ptr 129 [.vec 136 C.node,.map C.node C.i64,.bool],.int .i64] [.int .i64] [.ptr 129 [.vec 136 C.node,.map C.node C.i64,.bool],.same] fun a K=>X a.1.1 a.1.2.1 a.1.2.2.1 a.2.1 (fun q0 q1 q2 q3=>K (q0,()) ((q1,q2,q3,()),(),()))
theorem Ur:MT 126 (Ww Q0):=mP (rk:=[.v]) (l:=[]) trivial []
def Wh(X:Z8):Con Sg:=conV [.ptr 129 [.own 136 C.node,.map C.node C.i64,.v],.v,.v] [.ptr 129 [.vec 136 C.node,.map C.node C.i64,.bool],.int .i64,.int .i64] [.int .i64,.int .i64] [.ptr 129 [.vec 136 C.node,.map C.node C.i64,.bool],.same,.same] fun a K=>X a.1.1 a.1.2.1 a.1.2.2.1 a.2.1 a.2.2.1 (fun q0 q1 q2 q3 q4=>K (q0,q1,()) ((q2,q3,q4,()),(),(),()))
theorem q0u{Qh:Zi}(h:AL [(126,Ww Qh)]):MT 187 (Wh (Ux Qh)):=mP (rk:=[.v,.v]) h []
theorem q0v:MT 187 (Wh Qw):=q0u ⟨Ur,trivial⟩
def Wx(X:Jl):Con Sg:=conV [.ptr 129 [.own 136 C.node,.map C.node C.i64,.v],.v,.v,.v] [.ptr 129 [.vec 136 C.node,.map C.node C.i64,.bool],.int .i64,.int .i64,.int .i64] [.int .i64] [.ptr 129 [.vec 136 C.node,.map C.node C.i64,.bool],.same,.same,.same] fun a K=>X a.1.1 a.1.2.1 a.1.2.2.1 a.2.1 a.2.2.1 a.2.2.2.1 (fun q0 q1 q2 q3=>K (q0,()) ((q1,q2,q3,()),(),(),(),()))
theorem q37{Qc:Qr}{Qh:Zi}(h:AL [(69,Jc Qc),(126,Ww Qh)]):MT 68 (Wx (R1 Qc Qh)):=mP (rk:=[.v]) h []
theorem R9:MT 68 (Wx Qq):=q37 ⟨J6,Ur,trivial⟩
def Hm(X:Q5):Con Sg:=conV [.ptr 129 [.own 136 C.node,.map C.node C.i64,.v],.v,.v,.v,.map C.a3 C.i64] [.ptr 129 [.vec 136 C.node,.map C.node C.i64,.bool],.int .i64,.int .i64,.int .i64,.map C.a3 C.i64] [.int .i64] [.ptr 129 [.vec 136 C.node,.map C.node C.i64,.bool],.same,.same,.same,.map C.a3 C.i64] fun a K=>X a.1.1 a.1.2.1 a.1.2.2.1 a.2.1 a.2.2.1 a.2.2.2.1 a.2.2.2.2.1 (fun q0 q1 q2 q3 q4=>K (q0,()) ((q1,q2,q3,()),(),(),(),q4,()))
theorem q2o:MT 136 (Hm Jt):=by
 show MT _ (conV ([.ptr 129 [.own 136 C.node,.map C.node C.i64,.v],.v,.v,.v,.map C.a3 C.i64]:LP) ([.ptr 129 [.vec 136 C.node,.map C.node C.i64,.bool],.int .i64,.int .i64,.int .i64,.map C.a3 C.i64]:LV) ([.int .i64]:LV) ([.ptr 129 [.vec 136 C.node,.map C.node C.i64,.bool],.same,.same,.same,.map C.a3 C.i64]:LV) fun a K=>Jt a.1.1 a.1.2.1 a.1.2.2.1 a.2.1 a.2.2.1 a.2.2.2.1 a.2.2.2.2.1 (fun q0 q1 q2 q3 q4=>K (q0,()) ((q1,q2,q3,()),(),(),(),q4,())))
 exact mQ (l:=[(186,q3s Ub),(126,Ww Q0),(187,Wh Qw),(68,Wx Qq)]) (u:=4) (rk:=[.v]) ⟨q9q,Ur,q0v,R9,trivial⟩ (by kernel_rfl) [] (fun X a K=>Z6 Ub Q0 Qw Qq (fun ns ids full f g h memory K=>X ((ns,ids,full,()),f,g,h,memory,()) fun r o=>K r.1 o.1.1 o.1.2.1 o.1.2.2.1 o.2.2.2.2.1) a.1.1 a.1.2.1 a.1.2.2.1 a.2.1 a.2.2.1 a.2.2.2.1 a.2.2.2.2.1 (fun q0 q1 q2 q3 q4=>K (q0,()) ((q1,q2,q3,()),(),(),(),q4,()))) (fun _ _ _=>by kernel_rfl) fun a K h X hX=>h (fun ns ids full f g h memory K=>X ((ns,ids,full,()),f,g,h,memory,()) fun r o=>K r.1 o.1.1 o.1.2.1 o.1.2.2.1 o.2.2.2.2.1) fun ns ids full f g h memory K hs=>hX ((ns,ids,full,()),f,g,h,memory,()) (fun r o=>K r.1 o.1.1 o.1.2.1 o.1.2.2.1 o.2.2.2.2.1) hs
def Z7(X:Qt):Con Sg:=conV [.ptr 129 [.own 136 C.node,.map C.node C.i64,.v],.v,.v,.v] [.ptr 129 [.vec 136 C.node,.map C.node C.i64,.bool],.int .i64,.int .i64,.int .i64] [.int .i64] [.ptr 129 [.vec 136 C.node,.map C.node C.i64,.bool],.same,.same,.same] fun a K=>X a.1.1 a.1.2.1 a.1.2.2.1 a.2.1 a.2.2.1 a.2.2.2.1 (fun q0 q1 q2 q3=>K (q0,()) ((q1,q2,q3,()),(),(),(),()))
theorem q2p{Qd:Ql}{Qc:Qr}{Jy:Q5}(h:AL [(78,Zn Qd),(69,Jc Qc),(136,Hm Jy)]):MT 79 (Z7 (Hj Qd Qc Jy)):=mP (rk:=[.v]) h []
theorem Vp:MT 79 (Z7 Zk):=q2p ⟨Wg,J6,q2o,trivial⟩
def Gg(X:Ju):Con Sg:=conV [.ptr 129 [.own 136 C.node,.map C.node C.i64,.v],.v,.v] [.ptr 129 [.vec 136 C.node,.map C.node C.i64,.bool],.int .i64,.int .i64] [.int .i64] [.ptr 129 [.vec 136 C.node,.map C.node C.i64,.bool],.same,.same] fun a K=>X a.1.1 a.1.2.1 a.1.2.2.1 a.2.1 a.2.2.1 (fun q0 q1 q2 q3=>K (q0,()) ((q1,q2,q3,()),(),(),()))
theorem q49{Qd:Ql}{Qa:Qo}{Qf:Qt}(h:AL [(78,Zn Qd),(30,Z2 Qa),(79,Z7 Qf)]):MT 63 (Gg (Bl Qd Qa Qf)):=mP (rk:=[.v]) h []
theorem q5a:MT 63 (Gg Zt):=q49 ⟨Wg,Jp,Vp,trivial⟩
def Vz(X:Jf):Con Sg:=conV [.ptr 129 [.own 136 C.node,.map C.node C.i64,.v],.v,.v] [.ptr 129 [.vec 136 C.node,.map C.node C.i64,.bool],.int .i64,.int .i64] [.int .i64] [.ptr 129 [.vec 136 C.node,.map C.node C.i64,.bool],.same,.same] fun a K=>X a.1.1 a.1.2.1 a.1.2.2.1 a.2.1 a.2.2.1 (fun q0 q1 q2 q3=>K (q0,()) ((q1,q2,q3,()),(),(),()))
theorem q6e{Qd:Ql}{Qa:Qo}{Qf:Qt}(h:AL [(78,Zn Qd),(30,Z2 Qa),(79,Z7 Qf)]):MT 31 (Vz (q0n Qd Qa Qf)):=mP (rk:=[.v]) h []
theorem q0w:MT 31 (Vz Zl):=q6e ⟨Wg,Jp,Vp,trivial⟩
def Gh(X:Vf):Con Sg:=conV [.ptr 129 [.own 136 C.node,.map C.node C.i64,.v],.v] [.ptr 129 [.vec 136 C.node,.map C.node C.i64,.bool],.int .i64] [.int .i64] [.ptr 129 [.vec 136 C.node,.map C.node C.i64,.bool],.same] fun a K=>X a.1.1 a.1.2.1 a.1.2.2.1 a.2.1 (fun q0 q1 q2 q3=>K (q0,()) ((q1,q2,q3,()),(),()))
theorem q5b{Qa:Qo}{Qf:Qt}(h:AL [(30,Z2 Qa),(79,Z7 Qf)]):MT 64 (Gh (Bn Qa Qf)):=mP (rk:=[.v]) h []
theorem q5c:MT 64 (Gh Zu):=q5b ⟨Jp,Vp,trivial⟩
def q0x(X:Zm):Con Sg:=conV [.ptr 129 [.own 136 C.node,.map C.node C.i64,.v],.sl C.ex,.el C.ex] [.ptr 129 [.vec 136 C.node,.map C.node C.i64,.bool],.sl C.ex,.el C.ex] [.int .i64] [.ptr 129 [.vec 136 C.node,.map C.node C.i64,.bool],.same,.same] fun a K=>X a.1.1 a.1.2.1 a.1.2.2.1 a.2.1 a.2.2.1 (fun q0 q1 q2 q3=>K (q0,()) ((q1,q2,q3,()),(),(),()))
theorem q6f:MT 23 (q0x Vv):=by
 show MT _ (conV ([.ptr 129 [.own 136 C.node,.map C.node C.i64,.v],.sl C.ex,.el C.ex]:LP) ([.ptr 129 [.vec 136 C.node,.map C.node C.i64,.bool],.sl C.ex,.el C.ex]:LV) ([.int .i64]:LV) ([.ptr 129 [.vec 136 C.node,.map C.node C.i64,.bool],.same,.same]:LV) fun a K=>Vv a.1.1 a.1.2.1 a.1.2.2.1 a.2.1 a.2.2.1 (fun q0 q1 q2 q3=>K (q0,()) ((q1,q2,q3,()),(),(),())))
 exact mQ (l:=[(30,Z2 Qp),(63,Gg Zt),(31,Vz Zl),(64,Gh Zu),(67,q36 Jk),(68,Wx Qq)]) (u:=4) (rk:=[.v]) ⟨Jp,q5a,q0w,q5c,q8u,R9,trivial⟩ (by kernel_rfl) [(63000007,⟨bl 31903,[4,3,5],[(0,(129,3))],[sI 8,sI 9,(.cell 0 0,.own 136 C.node),(.cell 0 2,.bool),(.obj 2,.map C.node C.i64)]⟩),(66000005,⟨bl 195,[5],[],[sI 8]⟩)] (fun X a K=>Gv Qp Zt Zl Zu Jk Qq (fun ns ids full atoms e K=>X ((ns,ids,full,()),atoms,e,()) fun r o=>K r.1 o.1.1 o.1.2.1 o.1.2.2.1) a.1.1 a.1.2.1 a.1.2.2.1 a.2.1 a.2.2.1 (fun q0 q1 q2 q3=>K (q0,()) ((q1,q2,q3,()),(),(),()))) (fun _ _ _=>by kernel_rfl) fun _ K h X hX=>h (fun ns ids full atoms e K=>X ((ns,ids,full,()),atoms,e,()) fun r o=>K r.1 o.1.1 o.1.2.1 o.1.2.2.1) fun ns ids full atoms e K hs=>hX ((ns,ids,full,()),atoms,e,()) (fun r o=>K r.1 o.1.1 o.1.2.1 o.1.2.2.1) hs
end Go.En
end
noncomputable section
set_option maxRecDepth 100000
open Go Go.RowKit Go.Fl Go.Fl.Lk Go.Fx
namespace Go.En
def Ba(X:Wr):Con Sg:=conV [.ptr 129 [.own 136 C.node,.map C.node C.i64,.v]] [.ptr 129 [.vec 136 C.node,.map C.node C.i64,.bool]] [.bool] [.ptr 129 [.vec 136 C.node,.map C.node C.i64,.bool]] fun a K=>X a.1.1 a.1.2.1 a.1.2.2.1 (fun q0 q1 q2 q3=>K (q0,()) ((q1,q2,q3,()),()))
theorem q38:MT 32 (Ba R2):=mP (rk:=[.v]) (l:=[]) trivial []
def Wy(X:Zj):Con Sg:=conS [.sl C.rule] [.vec 3 C.i64,.bool] fun a K=>X a.1 (fun q0 q1=>K (q0,q1,()))
theorem q39{Hg:Ua}{Rl:Ra}{Qa:Qo}{V0:Zm}{Ji:Jf}{W8:Wr}(h:AL [(29,q0b Hg),(22,q47 Rl),(30,Z2 Qa),(23,q0x V0),(31,Vz Ji),(32,Ba W8)]):MT 9 (Wy (Uo Hg Rl Qa V0 Ji W8)):=mS h [(7,⟨bl 114717,[],[(0,(40,5))],[sI 17,(.cell 0 4,.own 40 C.ex)]⟩),(25,⟨bl 68183114129,[3,0],[(4,(129,3))],[sI 9,(.slot 10,.own 3 C.i64),sI 36,(.cell 4 0,.own 136 C.node),(.cell 4 2,.bool),(.obj 6,.map C.node C.i64)]⟩)]
theorem Bb:MT 9 (Wy Z0):=q39 ⟨q9p,z1r,Jp,q6f,q0w,q38,trivial⟩
def Bt(X:U7):Con Sg:=conV [.v] [.str] [.bool] [.same] fun a K=>X a.1 (fun q0=>K (q0,()) ((),()))
theorem q5d:MT 154 (Bt Vg):=⟨entB (by kernel_rfl),q43⟩
def q2q(X:Hk):Con Sg:=conS [.str] [.bool] fun a K=>X a.1 (fun q0=>K (q0,()))
theorem z37{Vj:U7}(h:AL [(154,Bt Vj)]):MT 93 (q2q (q2d Vj)):=mS h [(9,⟨bl 32737,[],[],[(.obj 0,.siter)]⟩)]
theorem z38:MT 93 (q2q Bo):=z37 ⟨q5d,trivial⟩
def q6y(X:Bp):Con Sg:=conS [.bool,.int .i64] [.int .i64] fun a K=>X a.1 a.2.1 (fun q0=>K (q0,()))
theorem z39:MT 92 (q6y q2e):=mS (l:=[]) trivial []
def q1w(X:Ht):Con Sg:=conV [.v] [.str] [.vec 9 C.str] [.same] fun a K=>X a.1 (fun q0=>K (q0,()) ((),()))
theorem q7c:MT 155 (q1w Hu):=⟨entB (by kernel_rfl),q69⟩
def q3e(X:Gw):Con Sg:=conS [.str] [.bool] fun a K=>X a.1 (fun q0=>K (q0,()))
theorem z77{Ui:Ht}(h:AL [(155,q1w Ui)]):MT 94 (q3e (q6b Ui)):=mS h [(9,⟨bl 261889,[],[],[(.obj 0,.siter)]⟩),(21,⟨bl 3377699721576193,[3,0],[],[sI 52]⟩)]
theorem z0p:MT 94 (q3e q0o):=z77 ⟨q7c,trivial⟩
def q0y(X:Gy):Con Sg:=conV [.v,.v] [.str,.str] [.int .i64] [.same,.same] fun a K=>X a.1 a.2.1 (fun q0=>K (q0,()) ((),(),()))
theorem q6g:MT 157 (q0y Gz):=⟨entB (by kernel_rfl),q6d⟩
def Gi(X:Jv):Con Sg:=conS [.sl C.decl] [.int .i64] fun a K=>X a.1 (fun q0=>K (q0,()))
theorem q5e{Wk:Gw}{Wl:Gy}(h:AL [(94,q3e Wk),(157,q0y Wl)]):MT 95 (Gi (U8 Wk Wl)):=mS h [(9,⟨bl 993,[],[],[sI 10]⟩),(157000007,⟨bl 201,[3],[],[sI 8]⟩)]
theorem q5f:MT 95 (Gi Vh):=q5e ⟨z0p,q6g,trivial⟩
def q5g(X:Rb):Con Sg:=conS [.sl C.i64] [.int .i64] fun a K=>X a.1 (fun q0=>K (q0,()))
theorem z1u:MT 91 (q5g Rd):=mS (l:=[]) trivial [(154000007,⟨bl 201,[],[],[sI 8]⟩)]
def q2r(X:R3):Con Sg:=conV [.el C.seg] [.el C.seg] [.int .i64] [.same] fun a K=>X a.1 (fun q0=>K (q0,()) ((),()))
theorem q8w:MT 97 (q2r R4):=⟨entB (by kernel_rfl),q8t⟩
def q6z(X:q2f):Con Sg:=conV [.el C.flag] [.el C.flag] [.int .i64] [.same] fun a K=>X a.1 (fun q0=>K (q0,()) ((),()))
theorem z4a:MT 100 (q6z q2g):=⟨entB (by kernel_rfl),z3z⟩
end Go.En
end
noncomputable section
set_option maxRecDepth 100000
open Go Go.RowKit Go.Fl Go.Fl.Lk Go.Fx
namespace Go.En
def q5h(X:q1i):Con Sg:=conV [.el C.layer] [.el C.layer] [.int .i64] [.same] fun a K=>X a.1 (fun q0=>K (q0,()) ((),()))
theorem z1v:MT 103 (q5h q1j):=⟨entB (by kernel_rfl),z1o⟩
def Bu(X:U9):Con Sg:=conV [.el C.exper] [.el C.exper] [.int .i64] [.same] fun a K=>X a.1 (fun q0=>K (q0,()) ((),()))
theorem q5i:MT 106 (Bu Ga):=⟨entB (by kernel_rfl),q44⟩
def Us(X:Jm):Con Sg:=conS [.el C.env] [.int .i64] fun a K=>X a.1 (fun q0=>K (q0,()))
theorem q4a{Vk:U9}{Rm:q1i}{Bz:q2f}{Gq:R3}{B0:Hk}{Zx:Bp}{Wk:Gw}{Q3:Jv}{Je:Rb}(h:AL [(106,Bu Vk),(103,q5h Rm),(100,q6z Bz),(97,q2r Gq),(93,q2q B0),(92,q6y Zx),(94,q3e Wk),(95,Gi Q3),(91,q5g Je)]):MT 49 (Us (Up Vk Rm Bz Gq B0 Zx Wk Q3 Je)):=mS h [(6,⟨bl 783,[1,0],[],[sI 4]⟩),(12,⟨bl 52776558134047,[1,0],[],[sI 5]⟩),(97000009,⟨bl 258063,[],[],[sI 18]⟩),(18,⟨bl 3430476278661951,[1,0],[],[sI 6]⟩),(100000009,⟨bl 258063,[],[],[sI 18]⟩),(24,⟨bl 219603258392445823,[1,0],[],[sI 7]⟩),(103000009,⟨bl 258063,[],[],[sI 18]⟩),(106000009,⟨bl 258063,[],[],[sI 18]⟩)]
theorem q4b:MT 49 (Us Ws):=q4a ⟨q5i,z1v,z4a,q8w,z38,z39,z0p,q5f,z1u,trivial⟩
def q60(X:q2h):Con Sg:=conV [.el C.ex] [.el C.ex] [.bool] [.same] fun a K=>X a.1 (fun q0=>K (q0,()) ((),()))
theorem z4b:MT 52 (q60 q2i):=⟨entB (by kernel_rfl),z30⟩
def q1x(X:Hw):Con Sg:=conV [.el C.ex] [.el C.ex] [.vec 9 C.str] [.same] fun a K=>X a.1 (fun q0=>K (q0,()) ((),()))
theorem q7d:MT 54 (q1x Hx):=⟨entB (by kernel_rfl),q7a⟩
def q3t(X:B9):Con Sg:=conV [.sl C.str,.sl C.edge] [.sl C.str,.sl C.edge] [.vec 9 C.str] [.same,.same] fun a K=>X a.1 a.2.1 (fun q0=>K (q0,()) ((),(),()))
theorem q9r:MT 55 (q3t P_graph_Cyclic):=⟨entB (by kernel_rfl),q9m⟩
def q5j(X:Re):Con Sg:=conS [.el C.env] [.vec 118 C.edge] fun a K=>X a.1 (fun q0=>K (q0,()))
theorem z1w:MT 59 (q5j Rf):=mS (l:=[]) trivial [(7,⟨bl 1799,[0],[],[(.slot 3,.own 118 C.edge),sI 11]⟩),(13,⟨bl 261927,[3],[],[(.slot 3,.own 118 C.edge),sI 18]⟩)]
def Ut(X:Jn):Con Sg:=conS [.el C.env] [.str,.int .i64] fun a K=>X a.1 (fun q0 q1=>K (q0,q1,()))
theorem q4c{W9:Jm}{B1:q2h}{Uj:Hw}{Ud:B9}{Rn:Re}(h:AL [(49,Us W9),(52,q60 B1),(54,q1x Uj),(55,q3t Ud),(59,q5j Rn)]):MT 17 (Ut (Uq W9 B1 Uj Ud Rn)):=mS h [(51000007,⟨bl 787,[],[],[(.slot 5,.own 9 C.str),sI 10]⟩),(15,⟨bl 2129657907,[1,0],[],[(.slot 6,.own 118 C.edge),sI 31]⟩),(29,⟨bl 33777546809049363,[7,5],[],[(.slot 6,.own 118 C.edge),sI 55]⟩),(47,⟨bl 2134214502351908855877747,[5,1,3,0],[],[sI 81]⟩),(58000007,⟨bl 787,[],[],[(.slot 5,.own 9 C.str),sI 10]⟩),(67,⟨bl 4583745351650532671514169150869619,[10,7,9,5,1,3,0],[],[sI 112]⟩)]
theorem q4d:MT 17 (Ut Wt):=q4c ⟨q4b,z4b,q7d,q9r,z1w,trivial⟩
def q1o(X:Gb):Con Sg:=conS [] [.bool] fun _ K=>X (fun q0=>K (q0,()))
theorem z1x{Q1:Zj}{Va:Jn}(h:AL [(9,Wy Q1),(17,Ut Va)]):MT 7 (q1o (q1k Q1 Va)):=mS h []
theorem z1y:MT 7 (q1o Rg):=z1x ⟨Bb,q4d,trivial⟩
end Go.En
end
noncomputable section
set_option maxRecDepth 100000
open Go Go.RowKit Go.Fl Go.Fl.Lk Go.Fx
namespace Go.En
def j0y(X:z1e):Con Sg:=conV [.sl C.u8,.v] [.sl C.u8,.int .i64] [.ptr 90 [.sl C.u8,.int .i64]] [.same,.same] fun a K=>X a.1 a.2.1 (fun q0 q1=>K ((q0,q1,()),()) ((),(),()))
theorem j61:MT 14 (j0y z1f):=mP (rk:=[.ptr 90 [.c,.v]]) (l:=[]) trivial [(6,⟨[1,4],[],[],[(.slot 0,.sl C.u8)]⟩)]
def z6y(X:q7t):Con Sg:=conV [.ptr 90 [.c,.v]] [.ptr 90 [.sl C.u8,.int .i64]] [.bool] [.ptr 90 [.same,.int .i64]] fun a K=>X a.1.1 a.1.2.1 (fun q0 q1=>K (q0,()) (((),q1,()),()))
theorem j3p:MT 74 (z6y z1g):=mP (rk:=[.v]) (l:=[]) trivial []
def Bv(X:Vi):Con Sg:=conV [.ptr 90 [.c,.v],.v] [.ptr 90 [.sl C.u8,.int .i64],.int .i64] [.int .i64] [.ptr 90 [.same,.int .i64],.same] fun a K=>X a.1.1 a.1.2.1 a.2.1 (fun q0 q1=>K (q0,()) (((),q1,()),(),()))
theorem j3q{q7z:q7t}(h:AL [(74,z6y q7z)]):MT 28 (Bv (z1h q7z)):=mP (rk:=[.v]) h []
theorem q3f:MT 28 (Bv Ue):=j3q ⟨j3p,trivial⟩
def q61(X:Bq):Con Sg:=conS [] [.vec 142 C.decl] fun _ K=>X (fun q0=>K (q0,()))
theorem z4c:MT 43 (q61 Br):=mS (l:=[]) trivial []
def z5r(X:q8q):Con Sg:=conV [.ptr 90 [.c,.v]] [.ptr 90 [.sl C.u8,.int .i64]] [.str] [.ptr 90 [.same,.int .i64]] fun a K=>X a.1.1 a.1.2.1 (fun q0 q1=>K (q0,()) (((),q1,()),()))
theorem j62{Qn:Vi}(h:AL [(28,Bv Qn)]):MT 122 (z5r (z5m Qn)):=mP (rk:=[.v]) h []
theorem j63:MT 122 (z5r z1i):=j62 ⟨q3f,trivial⟩
def z1z(X:q4x):Con Sg:=conV [.ptr 90 [.c,.v]] [.ptr 90 [.sl C.u8,.int .i64]] [.str] [.ptr 90 [.same,.int .i64]] fun a K=>X a.1.1 a.1.2.1 (fun q0 q1=>K (q0,()) (((),q1,()),()))
theorem j3r{Qn:Vi}(h:AL [(28,Bv Qn)]):MT 37 (z1z (z1j Qn)):=mP (rk:=[.v]) h []
theorem j3s:MT 37 (z1z q7u):=j3r ⟨q3f,trivial⟩
def q8x(X:q2j):Con Sg:=conV [.ptr 90 [.c,.v],.v] [.ptr 90 [.sl C.u8,.int .i64],.int .i64] [.el C.val] [.ptr 90 [.same,.int .i64],.same] fun a K=>X a.1.1 a.1.2.1 a.2.1 (fun q0 q1=>K (q0,()) (((),q1,()),(),()))
theorem j0z{Qn:Vi}{q70:q4x}(h:AL [(28,Bv Qn),(37,z1z q70)]):MT 85 (q8x (q8r Qn q70)):=mP (rk:=[.el C.val]) h []
theorem j00:MT 85 (q8x q0p):=j0z ⟨q3f,j3s,trivial⟩
def z10(X:q7v):Con Sg:=conV [.ptr 90 [.c,.v]] [.ptr 90 [.sl C.u8,.int .i64]] [.el C.ex] [.ptr 90 [.same,.int .i64]] fun a K=>X a.1.1 a.1.2.1 (fun q0 q1=>K (q0,()) (((),q1,()),()))
theorem j3t{B2:Bq}{Qn:Vi}{z2n:q8q}{Vr:q2j}(h:AL [(43,q61 B2),(28,Bv Qn),(122,z5r z2n),(85,q8x Vr)]):MT 61 (z10 (z1k B2 Qn z2n Vr)):=mP (rk:=[.el C.ex]) h [(68,⟨bl 4286840701,[3,2],[(5,(40,5)),(0,(90,2)),(1,(40,5))],[(.cell 5 0,.int .i64),(.cell 5 1,.str),(.cell 5 2,.str),(.cell 5 3,.own 144 C.val),(.cell 5 4,.own 40 C.ex),(.cell 0 1,.int .i64),(.cell 1 0,.int .i64),(.cell 1 1,.str),(.cell 1 2,.str),(.cell 1 3,.own 144 C.val),(.cell 1 4,.own 40 C.ex)]⟩),(60,⟨bl 17163319925,[],[(0,(90,2)),(5,(40,5)),(1,(40,5))],[(.cell 0 1,.int .i64),(.cell 5 0,.int .i64),(.cell 5 1,.str),(.cell 5 2,.str),(.cell 5 3,.own 144 C.val),(.cell 5 4,.own 40 C.ex),(.cell 1 0,.int .i64),(.cell 1 1,.str),(.cell 1 2,.str),(.cell 1 3,.own 144 C.val),(.cell 1 4,.own 40 C.ex)]⟩),(37,⟨bl 1055806024022645,[1],[(5,(40,5)),(0,(90,2))],[sI 7,(.cell 5 3,.own 144 C.val),(.cell 0 1,.int .i64)]⟩)]
theorem j3u:MT 61 (z10 q3a):=j3t ⟨z4c,q3f,j63,j00,trivial⟩
def z6z(X:q1l):Con Sg:=conV [.ptr 90 [.c,.v],.sl C.str,.v] [.ptr 90 [.sl C.u8,.int .i64],.sl C.str,.int .i64] [.el C.ex] [.ptr 90 [.same,.int .i64],.same,.same] fun a K=>X a.1.1 a.1.2.1 a.2.1 a.2.2.1 (fun q0 q1=>K (q0,()) (((),q1,()),(),(),()))
theorem j3v:MT 20 (z6z q4y):=by
 show MT _ (conV ([.ptr 90 [.c,.v],.sl C.str,.v]:LP) ([.ptr 90 [.sl C.u8,.int .i64],.sl C.str,.int .i64]:LV) ([.el C.ex]:LV) ([.ptr 90 [.same,.int .i64],.same,.same]:LV) fun a K=>q4y a.1.1 a.1.2.1 a.2.1 a.2.2.1 (fun q0 q1=>K (q0,()) (((),q1,()),(),(),())))
 exact mQ (l:=[(28,Bv Ue),(61,z10 q3a)]) (u:=4) (rk:=[.el C.ex]) ⟨q3f,j3u,trivial⟩ (by kernel_rfl) [(8,⟨bl 24647,[0,1],[],[sI 7]⟩),(28,⟨bl 3298996281543,[0,1],[],[sB 49]⟩),(37,⟨bl 1148984153929181127,[1],[(0,(90,2)),(4,(40,5))],[sI 11,(.cell 0 1,.int .i64),(.cell 4 0,.int .i64),(.cell 4 1,.str),(.cell 4 2,.str),(.cell 4 3,.own 144 C.val),(.cell 4 4,.own 40 C.ex)]⟩),(46,⟨bl 1152917567256169316295,[0,12,11,4],[(13,(40,5))],[(.cell 13 0,.int .i64),(.cell 13 1,.str),(.cell 13 2,.str),(.cell 13 3,.sl C.val),(.cell 13 4,.sl C.ex)]⟩)] (fun X a K=>q7w Ue q3a (fun list at_ segments levels K=>X ((list,at_,()),segments,levels,()) fun r o=>K r.1 o.1.2.1) a.1.1 a.1.2.1 a.2.1 a.2.2.1 (fun q0 q1=>K (q0,()) (((),q1,()),(),(),()))) (fun _ _ _=>by kernel_rfl) fun a K h X hX=>h (fun list at_ segments levels K=>X ((list,at_,()),segments,levels,()) fun r o=>K r.1 o.1.2.1) fun list at_ segments levels K hs=>hX ((list,at_,()),segments,levels,()) (fun r o=>K r.1 o.1.2.1) hs
def q1p(X:Gc):Con Sg:=conS [.sl C.u8,.int .i64] [.vec 45 C.rule] fun a K=>X a.1 a.2.1 (fun q0=>K (q0,()))
theorem z11{z2o:z1e}{Qn:Vi}{q71:q1l}(h:AL [(14,j0y z2o),(28,Bv Qn),(20,z6z q71)]):MT 8 (q1p (q1m z2o Qn q71)):=mS h [(9,⟨bl 819,[],[(0,(90,2))],[(.slot 6,.own 45 C.rule),sI 7,(.cell 0 1,.int .i64)]⟩)]
theorem z13:MT 8 (q1p Rh):=z11 ⟨j61,q3f,j3v,trivial⟩
def z4d(X:q4z):Con Sg:=conV [] [] [.ptr 86 [.vec 136 C.node,.map C.node C.i64,.bool]] [] fun _ K=>X (fun q0 q1 q2=>K ((q0,q1,q2,()),()) ())
theorem j01:MT 24 (z4d z3y):=mP (rk:=[.ptr 86 [.own 136 C.node,.map C.node C.i64,.v]]) (l:=[]) trivial []
def q8y(X:q34):Con Sg:=conS [.int .i64] [.bool] fun a K=>X a.1 (fun q0=>K (q0,()))
theorem z5s:MT 82 (q8y G0):=mS (l:=[]) trivial []
end Go.En
end
noncomputable section
set_option maxRecDepth 100000
open Go Go.RowKit Go.Fl Go.Fl.Lk Go.Fx
namespace Go.En
def z4e(X:q40):Con Sg:=conS [.sl C.str,.sl C.str] [.bool] fun a K=>X a.1 a.2.1 (fun q0=>K (q0,()))
theorem j02:MT 231 (z4e q41):=mS (l:=[]) trivial [(9,⟨bl 1987,[],[],[sI 5]⟩)]
def q6h(X:q0q):Con Sg:=conS [.el C.val,.el C.val] [.bool] fun a K=>X a.1 a.2.1 (fun q0=>K (q0,()))
theorem z78{q5r:q40}(h:AL [(231,z4e q5r)]):MT 190 (q6h (q6c q5r)):=mS h []
theorem z79:MT 190 (q6h q3b):=z78 ⟨j02,trivial⟩
def Bc(X:Gd):Con Sg:=conS [.sl C.val,.sl C.val] [.bool] fun a K=>X a.1 a.2.1 (fun q0=>K (q0,()))
theorem q8z{q3g:q0q}(h:AL [(190,q6h q3g)]):MT 139 (Bc (R5 q3g)):=mS h [(9,⟨bl 1987,[],[],[sI 5]⟩)]
theorem q80:MT 139 (Bc J8):=q8z ⟨z79,trivial⟩
def q5k(X:Wu):Con Sg:=conV [.el C.ex,.el C.ex] [.el C.ex,.el C.ex] [.bool] [.same,.same] fun a K=>X a.1 a.2.1 (fun q0=>K (q0,()) ((),(),()))
theorem z14:MT 83 (q5k Ge):=by
 show MT _ (conV ([.el C.ex,.el C.ex]:LP) ([.el C.ex,.el C.ex]:LV) ([.bool]:LV) ([.same,.same]:LV) fun a K=>Ge a.1 a.2.1 (fun q0=>K (q0,()) ((),(),())))
 exact mQ (l:=[(139,Bc J8)]) (u:=4) (rk:=[.v]) ⟨q80,trivial⟩ (by kernel_rfl) [(141000009,⟨bl 1987,[],[],[sI 5]⟩)] (fun X a K=>q1n J8 (fun a b K=>X (a,b,()) fun r _=>K r.1) a.1 a.2.1 (fun q0=>K (q0,()) ((),(),()))) (fun _ _ _=>by kernel_rfl) fun a K h X hX=>h (fun a b K=>X (a,b,()) fun r _=>K r.1) fun a b K hs=>hX (a,b,()) (fun r _=>K r.1) hs
def q1q(X:R6):Con Sg:=conS [.sl C.ex,.el C.ex] [.int .i64] fun a K=>X a.1 a.2.1 (fun q0=>K (q0,()))
theorem z5t{Rp:Wu}(h:AL [(83,q5k Rp)]):MT 35 (q1q (q35 Rp)):=mS h [(5,⟨[0,1,3],[0],[],[sI 5]⟩)]
theorem q81:MT 35 (q1q J1):=z5t ⟨z14,trivial⟩
def q3u(X:J2):Con Sg:=conV [.sl C.ex,.el C.ex] [.sl C.ex,.el C.ex] [.sl C.ex] [.same,.same] fun a K=>X a.1 a.2.1 (fun q0=>K (q0,()) ((),(),()))
theorem q9s:MT 34 (q3u Hb):=by
 show MT _ (conV ([.sl C.ex,.el C.ex]:LP) ([.sl C.ex,.el C.ex]:LV) ([.sl C.ex]:LV) ([.same,.same]:LV) fun a K=>Hb a.1 a.2.1 (fun q0=>K (q0,()) ((),(),())))
 exact mQ (l:=[(35,q1q J1),(82,q8y G0)]) (u:=4) (rk:=[.sl C.ex]) ⟨q81,z5s,trivial⟩ (by kernel_rfl) [(6,⟨[1,3,4],[0],[],[(.slot 0,.sl C.ex)]⟩),(9,⟨[1,3,4],[0],[],[(.slot 0,.sl C.ex),sI 5]⟩)] (fun X a K=>q0a J1 G0 (fun l e K=>X (l,e,()) fun r _=>K r.1) a.1 a.2.1 (fun q0=>K (q0,()) ((),(),()))) (fun _ _ _=>by kernel_rfl) fun a K h X hX=>h (fun l e K=>X (l,e,()) fun r _=>K r.1) fun l e K hs=>hX (l,e,()) (fun r _=>K r.1) hs
def Bd(X:Vn):Con Sg:=conS [.sl C.rule] [.sl C.ex] fun a K=>X a.1 (fun q0=>K (q0,()))
theorem q82{Hh:J2}(h:AL [(34,q3u Hh)]):MT 12 (Bd (R7 Hh)):=mS h [(7,⟨[0,2],[],[],[(.slot 3,.sl C.ex),sI 4]⟩)]
theorem q83:MT 12 (Bd J9):=q82 ⟨q9s,trivial⟩
def Gj(X:Z3):Con Sg:=conV [.ptr 86 [.own 136 C.node,.map C.node C.i64,.v],.v] [.ptr 86 [.vec 136 C.node,.map C.node C.i64,.bool],.int .i64] [.bool] [.ptr 86 [.vec 136 C.node,.map C.node C.i64,.bool],.same] fun a K=>X a.1.1 a.1.2.1 a.1.2.2.1 a.2.1 (fun q0 q1 q2 q3=>K (q0,()) ((q1,q2,q3,()),(),()))
theorem Rj:MT 70 (Gj Wv):=mP (rk:=[.v]) (l:=[]) trivial []
def q1y(X:Uf):Con Sg:=conV [.ptr 86 [.own 136 C.node,.map C.node C.i64,.v],.v] [.ptr 86 [.vec 136 C.node,.map C.node C.i64,.bool],.int .i64] [.map C.i64 C.bool] [.ptr 86 [.vec 136 C.node,.map C.node C.i64,.bool],.same] fun a K=>X a.1.1 a.1.2.1 a.1.2.2.1 a.2.1 (fun q0 q1 q2 q3=>K (q0,()) ((q1,q2,q3,()),(),()))
theorem q7e:MT 188 (q1y Ug):=mP (rk:=[.map C.i64 C.bool]) (l:=[]) trivial [(7,⟨bl 1843,[0,1,2],[],[(.slot 6,.own 3 C.i64),(.obj 3,.map C.i64 C.bool)]⟩)]
def G2(X:Wa):Con Sg:=conV [.ptr 86 [.own 136 C.node,.map C.node C.i64,.v],.v] [.ptr 86 [.vec 136 C.node,.map C.node C.i64,.bool],.int .i64] [.vec 3 C.i64] [.ptr 86 [.vec 136 C.node,.map C.node C.i64,.bool],.same] fun a K=>X a.1.1 a.1.2.1 a.1.2.2.1 a.2.1 (fun q0 q1 q2 q3=>K (q0,()) ((q1,q2,q3,()),(),()))
theorem q6i{Qk:Z3}{Uk:Uf}(h:AL [(70,Gj Qk),(188,q1y Uk)]):MT 137 (G2 (q0r Qk Uk)):=mP (rk:=[.own 3 C.i64]) h [(13,⟨bl 32563,[5,0,4,2],[],[(.slot 6,.own 3 C.i64),sI 7]⟩)]
theorem q6j:MT 137 (G2 Vw):=q6i ⟨Rj,q7e,trivial⟩
def Jd(X:Qv):Con Sg:=conV [.ptr 86 [.own 136 C.node,.map C.node C.i64,.v],.v] [.ptr 86 [.vec 136 C.node,.map C.node C.i64,.bool],.int .i64] [.bool] [.ptr 86 [.vec 136 C.node,.map C.node C.i64,.bool],.same] fun a K=>X a.1.1 a.1.2.1 a.1.2.2.1 a.2.1 (fun q0 q1 q2 q3=>K (q0,()) ((q1,q2,q3,()),(),()))
theorem q3l{Qk:Z3}{V1:Wa}(h:AL [(70,Gj Qk),(137,G2 V1)]):MT 80 (Jd (H3 Qk V1)):=mP (rk:=[.v]) h [(11,⟨bl 16291,[5,0,4,2],[],[sI 6]⟩)]
theorem V7:MT 80 (Jd Zw):=q3l ⟨Rj,q6j,trivial⟩
def He(X:J3):Con Sg:=conV [.ptr 86 [.own 136 C.node,.map C.node C.i64,.v],.v] [.ptr 86 [.vec 136 C.node,.map C.node C.i64,.bool],.int .i64] [.int .i64] [.ptr 86 [.vec 136 C.node,.map C.node C.i64,.bool],.same] fun a K=>X a.1.1 a.1.2.1 a.1.2.2.1 a.2.1 (fun q0 q1 q2 q3=>K (q0,()) ((q1,q2,q3,()),(),()))
theorem q0c:MT 127 (He Z4):=mP (rk:=[.v]) (l:=[]) trivial []
end Go.En
end
noncomputable section
set_option maxRecDepth 100000
open Go Go.RowKit Go.Fl Go.Fl.Lk Go.Fx
namespace Go.En
def Hz(X:Uh):Con Sg:=conV [.ptr 86 [.own 136 C.node,.map C.node C.i64,.v],.v,.v] [.ptr 86 [.vec 136 C.node,.map C.node C.i64,.bool],.int .i64,.int .i64] [.int .i64,.int .i64] [.ptr 86 [.vec 136 C.node,.map C.node C.i64,.bool],.same,.same] fun a K=>X a.1.1 a.1.2.1 a.1.2.2.1 a.2.1 a.2.2.1 (fun q0 q1 q2 q3 q4=>K (q0,q1,()) ((q2,q3,q4,()),(),(),()))
theorem q7f{Qz:J3}(h:AL [(127,He Qz)]):MT 189 (Hz (q1v Qz)):=mP (rk:=[.v,.v]) h []
theorem q7g:MT 189 (Hz Jb):=q7f ⟨q0c,trivial⟩
def Gk(X:Vo):Con Sg:=conV [.ptr 86 [.own 136 C.node,.map C.node C.i64,.v],.v,.v,.v] [.ptr 86 [.vec 136 C.node,.map C.node C.i64,.bool],.int .i64,.int .i64,.int .i64] [.int .i64] [.ptr 86 [.vec 136 C.node,.map C.node C.i64,.bool],.same,.same,.same] fun a K=>X a.1.1 a.1.2.1 a.1.2.2.1 a.2.1 a.2.2.1 a.2.2.2.1 (fun q0 q1 q2 q3=>K (q0,()) ((q1,q2,q3,()),(),(),(),()))
theorem q84{Qk:Z3}{Qz:J3}(h:AL [(70,Gj Qk),(127,He Qz)]):MT 73 (Gk (q2k Qk Qz)):=mP (rk:=[.v]) h []
theorem q2s:MT 73 (Gk Zc):=q84 ⟨Rj,q0c,trivial⟩
def q0z(X:Z1):Con Sg:=conV [.ptr 86 [.own 136 C.node,.map C.node C.i64,.v],.v,.v,.v,.map C.a3 C.i64] [.ptr 86 [.vec 136 C.node,.map C.node C.i64,.bool],.int .i64,.int .i64,.int .i64,.map C.a3 C.i64] [.int .i64] [.ptr 86 [.vec 136 C.node,.map C.node C.i64,.bool],.same,.same,.same,.map C.a3 C.i64] fun a K=>X a.1.1 a.1.2.1 a.1.2.2.1 a.2.1 a.2.2.1 a.2.2.2.1 a.2.2.2.2.1 (fun q0 q1 q2 q3 q4=>K (q0,()) ((q1,q2,q3,()),(),(),(),q4,()))
theorem q6k:MT 138 (q0z Vx):=by
 show MT _ (conV ([.ptr 86 [.own 136 C.node,.map C.node C.i64,.v],.v,.v,.v,.map C.a3 C.i64]:LP) ([.ptr 86 [.vec 136 C.node,.map C.node C.i64,.bool],.int .i64,.int .i64,.int .i64,.map C.a3 C.i64]:LV) ([.int .i64]:LV) ([.ptr 86 [.vec 136 C.node,.map C.node C.i64,.bool],.same,.same,.same,.map C.a3 C.i64]:LV) fun a K=>Vx a.1.1 a.1.2.1 a.1.2.2.1 a.2.1 a.2.2.1 a.2.2.2.1 a.2.2.2.2.1 (fun q0 q1 q2 q3 q4=>K (q0,()) ((q1,q2,q3,()),(),(),(),q4,())))
 exact mQ (l:=[(127,He Z4),(189,Hz Jb),(73,Gk Zc)]) (u:=4) (rk:=[.v]) ⟨q0c,q7g,q2s,trivial⟩ (by kernel_rfl) [(36,⟨bl 4951760157141239551596952607,[3,4],[(0,(86,3))],[sI 23,(.cell 0 0,.own 136 C.node),(.cell 0 2,.bool),(.obj 2,.map C.node C.i64)]⟩)] (fun X a K=>Wb Z4 Jb Zc (fun ns ids full f g h known K=>X ((ns,ids,full,()),f,g,h,known,()) fun r o=>K r.1 o.1.1 o.1.2.1 o.1.2.2.1 o.2.2.2.2.1) a.1.1 a.1.2.1 a.1.2.2.1 a.2.1 a.2.2.1 a.2.2.2.1 a.2.2.2.2.1 (fun q0 q1 q2 q3 q4=>K (q0,()) ((q1,q2,q3,()),(),(),(),q4,()))) (fun _ _ _=>by kernel_rfl) fun a K h X hX=>h (fun ns ids full f g h known K=>X ((ns,ids,full,()),f,g,h,known,()) fun r o=>K r.1 o.1.1 o.1.2.1 o.1.2.2.1 o.2.2.2.2.1) fun ns ids full f g h known K hs=>hX ((ns,ids,full,()),f,g,h,known,()) (fun r o=>K r.1 o.1.1 o.1.2.1 o.1.2.2.1 o.2.2.2.2.1) hs
def Wi(X:Q8):Con Sg:=conV [.ptr 86 [.own 136 C.node,.map C.node C.i64,.v],.v,.v,.v] [.ptr 86 [.vec 136 C.node,.map C.node C.i64,.bool],.int .i64,.int .i64,.int .i64] [.int .i64] [.ptr 86 [.vec 136 C.node,.map C.node C.i64,.bool],.same,.same,.same] fun a K=>X a.1.1 a.1.2.1 a.1.2.2.1 a.2.1 a.2.2.1 a.2.2.2.1 (fun q0 q1 q2 q3=>K (q0,()) ((q1,q2,q3,()),(),(),(),()))
theorem q6l{Qg:Qv}{Qk:Z3}{V2:Z1}(h:AL [(80,Jd Qg),(70,Gj Qk),(138,q0z V2)]):MT 81 (Wi (q0s Qg Qk V2)):=mP (rk:=[.v]) h []
theorem G3:MT 81 (Wi Jg):=q6l ⟨V7,Rj,q6k,trivial⟩
def q0d(X:Hc):Con Sg:=conV [.ptr 86 [.own 136 C.node,.map C.node C.i64,.v],.v] [.ptr 86 [.vec 136 C.node,.map C.node C.i64,.bool],.int .i64] [.int .i64] [.ptr 86 [.vec 136 C.node,.map C.node C.i64,.bool],.same] fun a K=>X a.1.1 a.1.2.1 a.1.2.2.1 a.2.1 (fun q0 q1 q2 q3=>K (q0,()) ((q1,q2,q3,()),(),()))
theorem q9t{Qm:Q8}(h:AL [(81,Wi Qm)]):MT 71 (q0d (q3p Qm)):=mP (rk:=[.v]) h []
theorem q9u:MT 71 (q0d J4):=q9t ⟨G3,trivial⟩
def q0e(X:Hd):Con Sg:=conV [.ptr 86 [.own 136 C.node,.map C.node C.i64,.v],.v,.v] [.ptr 86 [.vec 136 C.node,.map C.node C.i64,.bool],.int .i64,.int .i64] [.int .i64] [.ptr 86 [.vec 136 C.node,.map C.node C.i64,.bool],.same,.same] fun a K=>X a.1.1 a.1.2.1 a.1.2.2.1 a.2.1 a.2.2.1 (fun q0 q1 q2 q3=>K (q0,()) ((q1,q2,q3,()),(),(),()))
theorem q9v{Qg:Qv}{Qm:Q8}(h:AL [(80,Jd Qg),(81,Wi Qm)]):MT 72 (q0e (q3q Qg Qm)):=mP (rk:=[.v]) h []
theorem q9w:MT 72 (q0e J5):=q9v ⟨V7,G3,trivial⟩
def Rk(X:Vy):Con Sg:=conV [.ptr 86 [.own 136 C.node,.map C.node C.i64,.v],.v,.v] [.ptr 86 [.vec 136 C.node,.map C.node C.i64,.bool],.int .i64,.int .i64] [.int .i64] [.ptr 86 [.vec 136 C.node,.map C.node C.i64,.bool],.same,.same] fun a K=>X a.1.1 a.1.2.1 a.1.2.2.1 a.2.1 a.2.2.1 (fun q0 q1 q2 q3=>K (q0,()) ((q1,q2,q3,()),(),(),()))
theorem z15{Qg:Qv}{Qm:Q8}(h:AL [(80,Jd Qg),(81,Wi Qm)]):MT 33 (Rk (q42 Qg Qm)):=mP (rk:=[.v]) h []
theorem q5l:MT 33 (Rk Jw):=z15 ⟨V7,G3,trivial⟩
def q2t(X:Jo):Con Sg:=conV [.ptr 86 [.own 136 C.node,.map C.node C.i64,.v],.sl C.ex,.el C.ex] [.ptr 86 [.vec 136 C.node,.map C.node C.i64,.bool],.sl C.ex,.el C.ex] [.int .i64] [.ptr 86 [.vec 136 C.node,.map C.node C.i64,.bool],.same,.same] fun a K=>X a.1.1 a.1.2.1 a.1.2.2.1 a.2.1 a.2.2.1 (fun q0 q1 q2 q3=>K (q0,()) ((q1,q2,q3,()),(),(),()))
theorem q85:MT 27 (q2t Gf):=by
 show MT _ (conV ([.ptr 86 [.own 136 C.node,.map C.node C.i64,.v],.sl C.ex,.el C.ex]:LP) ([.ptr 86 [.vec 136 C.node,.map C.node C.i64,.bool],.sl C.ex,.el C.ex]:LV) ([.int .i64]:LV) ([.ptr 86 [.vec 136 C.node,.map C.node C.i64,.bool],.same,.same]:LV) fun a K=>Gf a.1.1 a.1.2.1 a.1.2.2.1 a.2.1 a.2.2.1 (fun q0 q1 q2 q3=>K (q0,()) ((q1,q2,q3,()),(),(),())))
 exact mQ (l:=[(71,q0d J4),(72,q0e J5),(33,Rk Jw),(35,q1q J1),(73,Gk Zc)]) (u:=4) (rk:=[.v]) ⟨q9u,q9w,q5l,q81,q2s,trivial⟩ (by kernel_rfl) [(16,⟨bl 129127,[3,0,1,2],[],[sB 26]⟩),(21,⟨bl 68249843815,[3],[(0,(86,3))],[sI 7,sI 8,(.cell 0 0,.own 136 C.node),(.cell 0 2,.bool),(.obj 2,.map C.node C.i64)]⟩)] (fun X a K=>R8 J4 J5 Jw J1 Zc (fun ns ids full atoms e K=>X ((ns,ids,full,()),atoms,e,()) fun r o=>K r.1 o.1.1 o.1.2.1 o.1.2.2.1) a.1.1 a.1.2.1 a.1.2.2.1 a.2.1 a.2.2.1 (fun q0 q1 q2 q3=>K (q0,()) ((q1,q2,q3,()),(),(),()))) (fun _ _ _=>by kernel_rfl) fun a K h X hX=>h (fun ns ids full atoms e K=>X ((ns,ids,full,()),atoms,e,()) fun r o=>K r.1 o.1.1 o.1.2.1 o.1.2.2.1) fun ns ids full atoms e K hs=>hX ((ns,ids,full,()),atoms,e,()) (fun r o=>K r.1 o.1.1 o.1.2.1 o.1.2.2.1) hs
def G4(X:Wd):Con Sg:=conS [.sl C.rule] [.vec 3 C.i64,.int .i64,.bool] fun a K=>X a.1 (fun q0 q1 q2=>K (q0,q1,q2,()))
theorem q6m{q5s:q4z}{Gs:Vn}{Gt:Jo}{V3:Vy}(h:AL [(24,z4d q5s),(12,Bd Gs),(27,q2t Gt),(33,Rk V3)]):MT 10 (G4 (G1 q5s Gs Gt V3)):=mS h [(13,⟨bl 28769,[],[(0,(86,3))],[sI 7,(.slot 8,.own 3 C.i64),sI 9,(.cell 0 0,.own 136 C.node),(.cell 0 2,.bool),(.obj 2,.map C.node C.i64)]⟩)]
theorem q6n:MT 10 (G4 Jh):=q6m ⟨j01,q83,q85,q5l,trivial⟩
def z0q(X:q3c):Con Sg:=conS [.sl C.i64,.sl C.i64] [.bool] fun a K=>X a.1 a.2.1 (fun q0=>K (q0,()))
theorem z8a:MT 11 (z0q q3d):=mS (l:=[]) trivial [(9,⟨bl 1987,[],[],[sI 5]⟩)]
def Z9(X:We):Con Sg:=conS [.sl C.u8] [.bool] fun a K=>X a.1 (fun q0=>K (q0,()))
theorem q00{Rq:Gb}{Rr:Gc}{Q1:Zj}{V4:Wd}{G8:q3c}(h:AL [(7,q1o Rq),(8,q1p Rr),(9,Wy Q1),(10,G4 V4),(11,z0q G8)]):MT 3 (Z9 (Wf Rq Rr Q1 V4 G8)):=mS h [(9,⟨[0,10,11],[],[],[sI 3]⟩)]
theorem q01:MT 3 (Z9 Qx):=q00 ⟨z1y,z13,Bb,q6n,z8a,trivial⟩
end Go.En
end
noncomputable section
set_option maxRecDepth 100000
namespace Go.Dg
open Go.Fl
abbrev Nd:=Int×Int×Int
def nd(ns:List Nd)(id:Int):Nd:=ns.getD id.toNat (0,0,0)
def top(ns:List Nd)(id:Int):Int:=if id<0 then 1001 else (nd ns id).1
def Ok(ns:List Nd)(id:Int):Prop:= -1002<id/\id<ns.length
def evF(ns:List Nd)(h:Int->Bool):Nat->Int->Int
 |0,id=> -1 - id
 |n+1,id=>if id<0 then -1 - id else evF ns h n (if h (nd ns id).1=true then (nd ns id).2.1 else (nd ns id).2.2)
def ev(ns:List Nd)(h:Int->Bool)(id:Int):Int:=evF ns h (id.toNat+1) id
structure Nod(ns:List Nd):Prop where
 nod: ∀i:Int,0<=i->i<ns.length->0<=(nd ns i).1/\(nd ns i).1<=1000/\ -1002<(nd ns i).2.1/\(nd ns i).2.1<i/\ -1002<(nd ns i).2.2/\(nd ns i).2.2<i/\
  (nd ns i).2.1≠(nd ns i).2.2/\(nd ns i).1<top ns (nd ns i).2.1/\(nd ns i).1<top ns (nd ns i).2.2
 one: ∀i j:Int,0<=i->i<ns.length->0<=j->j<ns.length->nd ns i=nd ns j->i=j
structure Inv(ns:List Nd)(ids:Nd->Option Int):Prop where
 nod:Nod ns
 ids: ∀n (id:Int),ids n=some id↔0<=id/\id<ns.length/\nd ns id=n
theorem Zd{ns:List Nd}{h:Int->Bool}{id:Int}(hi:id<0):ev ns h id= -1 - id:=by
 simp[ev,evF,hi]
theorem z60{ns:List Nd}(hN:Nod ns){h:Int->Bool}: ∀(n m:Nat) (id:Int),id<ns.length->id<n->id<m->evF ns h n id=evF ns h m id:=by
 intro n
 induction n with
 |zero=>
  intro m id _ h1 _
  have:id<0:=by omega
  cases m with
  |zero=>rfl
  |succ m=>simp[evF,this]
 |succ n ih=>
  intro m id hl h1 h2
  cases m with
  |zero=>
   have:id<0:=by omega
   simp[evF,this]
  |succ m=>
   simp only[evF]
   by_cases hi:id<0
   ·simp[hi]
   ·simp only[hi,if_false]
    obtain⟨_,_,_,a,_,b,_⟩:=hN.nod id (by omega) hl
    cases ht:h (nd ns id).1 with
    |true=>simp only[if_true];exact ih m _ (by omega) (by omega) (by omega)
    |false=>simp only[Bool.false_eq_true,if_false];exact ih m _ (by omega) (by omega) (by omega)
theorem G5{ns:List Nd}(hN:Nod ns){h:Int->Bool}{id:Int}(hi:0<=id)(hl:id<ns.length):
  ev ns h id=if h (nd ns id).1=true then ev ns h (nd ns id).2.1 else ev ns h (nd ns id).2.2:=by
 obtain⟨_,_,_,a,_,b,_⟩:=hN.nod id hi hl
 have hn: ¬id<0:=by omega
 show evF ns h (id.toNat+1) id=_
 simp only[evF,hn,if_false]
 cases ht:h (nd ns id).1 with
 |true=>simp only[if_true];exact z60 hN _ _ _ (by omega) (by omega) (by omega)
 |false=>simp only[Bool.false_eq_true,if_false];exact z60 hN _ _ _ (by omega) (by omega) (by omega)
theorem q3v{ns:List Nd}(hN:Nod ns){id:Int}(hl:id<ns.length):0<=top ns id/\top ns id<=1001/\(0<=id->top ns id<=1000):=by
 by_cases hi:id<0
 ·simp only[top,hi,if_true];omega
 ·obtain⟨a,b,_⟩:=hN.nod id (by omega) hl
  simp only[top,hi,if_false];omega
theorem ind{ns:List Nd}(hN:Nod ns){p:Int->Prop}(h0: ∀id:Int, -1002<id->id<0->p id)
  (h1: ∀id:Int,0<=id->id<ns.length->p (nd ns id).2.1->p (nd ns id).2.2->p id){id:Int}(hi:Ok ns id):p id:=by
 have key: ∀(k:Nat) (id:Int),id<k->Ok ns id->p id:=by
  intro k
  induction k with
  |zero=>exact fun id hk hi=>h0 id hi.1 hk
  |succ k ih=>
   intro id hk hi
   by_cases hn:id<0
   ·exact h0 id hi.1 hn
   ·obtain⟨_,_,a,b,c,d,_⟩:=hN.nod id (by omega) hi.2
    have:=hi.2
    exact h1 id (by omega) hi.2 (ih _ (by omega) ⟨a,by omega⟩) (ih _ (by omega) ⟨c,by omega⟩)
 exact key (id.toNat+1) id (by omega) hi
theorem z4f{ns:List Nd}(hN:Nod ns){h h':Int->Bool}{id:Int}(hi:Ok ns id):(∀t,top ns id<=t->h t=h' t)->ev ns h id=ev ns h' id:=by
 refine ind hN (p:=fun id=>(∀t,top ns id<=t->h t=h' t)->ev ns h id=ev ns h' id) ?_ ?_ hi
 ·intro id _ hn _
  rw[Zd hn,Zd hn]
 ·intro id hp hl ih1 ih2 he
  obtain⟨_,_,_,_,_,_,_,a,b⟩:=hN.nod id hp hl
  have ht:top ns id=(nd ns id).1:=by simp only[top,if_neg (show ¬id<0 by omega)]
  rw[G5 hN hp hl,G5 hN hp hl,←he _ (by omega),ih1 fun t h=>he t (by omega),ih2 fun t h=>he t (by omega)]
def setB(h:Int->Bool)(t:Int)(b:Bool):Int->Bool:=fun x=>if x=t then b else h x
theorem q3w{ns:List Nd}(hN:Nod ns){h:Int->Bool}{t:Int}{b:Bool}{id:Int}(hi:Ok ns id)(ht:t<top ns id):ev ns (setB h t b) id=ev ns h id:=
 z4f hN hi fun x hx=>by simp only[setB,if_neg (show ¬x=t by omega)]
theorem z4g{ns:List Nd}(hN:Nod ns){h:Int->Bool}{id:Int}(hi:0<=id)(hl:id<ns.length):ev ns (setB h (nd ns id).1 true) id=ev ns h (nd ns id).2.1:=by
 obtain⟨_,_,c,d,_,_,_,a,b⟩:=hN.nod id hi hl
 rw[G5 hN hi hl]
 simp only[setB,if_true]
 exact q3w hN ⟨c,by omega⟩ a
theorem j03{ns:List Nd}(hN:Nod ns){h:Int->Bool}{id:Int}(hi:0<=id)(hl:id<ns.length):ev ns (setB h (nd ns id).1 false) id=ev ns h (nd ns id).2.2:=by
 obtain⟨_,_,_,_,c,d,_,a,b⟩:=hN.nod id hi hl
 rw[G5 hN hi hl]
 simp only[setB,if_true]
 exact q3w hN ⟨c,by omega⟩ b
theorem j3w{ns:List Nd}(hN:Nod ns): ∀{a b:Int},Ok ns a->Ok ns b->(∀h,ev ns h a=ev ns h b)->a=b:=by
 have key: ∀(k:Nat) (a b:Int),a<k->b<k->Ok ns a->Ok ns b->(∀h,ev ns h a=ev ns h b)->a=b:=by
  intro k
  induction k with
  |zero=>
   intro a b hk hk' _ _ he
   have:=he fun _=>true
   rw[Zd (by omega),Zd (by omega)] at this
   omega
  |succ k ih=>
   intro a b hk hk' ha hb he
   have up: ∀a b:Int,a<((k+1:Nat):Int)->b<((k+1:Nat):Int)->Ok ns a->Ok ns b->(∀h,ev ns h a=ev ns h b)->0<=a->top ns a<top ns b->False:=by
    intro a b hk hk' ha hb he hp ht
    obtain⟨_,_,c1,c2,c3,c4,ne,a1,a2⟩:=hN.nod a hp ha.2
    have h1:=ha.2
    have e:top ns a=(nd ns a).1:=by simp only[top,if_neg (show ¬a<0 by omega)]
    refine ne (ih _ _ (by omega) (by omega) ⟨c1,by omega⟩ ⟨c3,by omega⟩ fun h=> ?_)
    rw[←z4g hN hp ha.2,←j03 hN hp ha.2,he,he,q3w hN hb (by omega),q3w hN hb (by omega)]
   by_cases ha0:a<0
   ·by_cases hb0:b<0
    ·have:=he fun _=>true
     rw[Zd ha0,Zd hb0] at this
     omega
    ·exact absurd (by
      have:=(q3v hN hb.2).2.2 (by omega)
      have h2:top ns a=1001:=by simp only[top,if_pos ha0]
      omega) (fun h=>up b a hk' hk hb ha (fun h=>(he h).symm) (by omega) h)
   ·by_cases hb0:b<0
    ·exact absurd (by
      have:=(q3v hN ha.2).2.2 (by omega)
      have h2:top ns b=1001:=by simp only[top,if_pos hb0]
      omega) (fun h=>up a b hk hk' ha hb he (by omega) h)
    ·have h1:=ha.2
     have h2:=hb.2
     rcases Int.lt_trichotomy (top ns a) (top ns b) with h|h|h
     ·exact (up a b hk hk' ha hb he (by omega) h).elim
     ·have ea:top ns a=(nd ns a).1:=by simp only[top,if_neg ha0]
      have eb:top ns b=(nd ns b).1:=by simp only[top,if_neg hb0]
      have et:(nd ns a).1=(nd ns b).1:=by omega
      obtain⟨_,_,c1,c2,c3,c4,_⟩:=hN.nod a (by omega) ha.2
      obtain⟨_,_,d1,d2,d3,d4,_⟩:=hN.nod b (by omega) hb.2
      have ey:(nd ns a).2.1=(nd ns b).2.1:=ih _ _ (by omega) (by omega) ⟨c1,by omega⟩ ⟨d1,by omega⟩ fun h=>by
       rw[←z4g hN (by omega) ha.2,←z4g hN (by omega) hb.2,←et,he]
      have en:(nd ns a).2.2=(nd ns b).2.2:=ih _ _ (by omega) (by omega) ⟨c3,by omega⟩ ⟨d3,by omega⟩ fun h=>by
       rw[←j03 hN (by omega) ha.2,←j03 hN (by omega) hb.2,←et,he]
      exact hN.one a b (by omega) ha.2 (by omega) hb.2 (Prod.ext et (Prod.ext ey en))
     ·exact (up b a hk' hk hb ha (fun h=>(he h).symm) (by omega) h).elim
 exact fun {a b} ha hb he=>key (ns.length+1) a b (by have:=ha.2;omega) (by have:=hb.2;omega) ha hb he
theorem j8z{ns ms:List Nd}{id:Int}(h1:id<ns.length)(h0:0<=id):nd (ns++ms) id=nd ns id:=by
 simp only[nd,List.getD_eq_getElem?_getD]
 rw[List.getElem?_append_left (by omega)]
theorem q2u{ns ns':List Nd}(hp:ns<+:ns'){id:Int}(h1:id<ns.length)(h0:0<=id):nd ns' id=nd ns id:=by
 obtain⟨ms,rfl⟩:=hp
 exact j8z h1 h0
theorem q0f{ns ns':List Nd}(hp:ns<+:ns'){id:Int}(h1:id<ns.length):top ns' id=top ns id:=by
 by_cases h:id<0
 ·simp only[top,if_pos h]
 ·simp only[top,if_neg h,q2u hp h1 (by omega)]
theorem Ok.pre{ns ns':List Nd}(hp:ns<+:ns'){id:Int}(h:Ok ns id):Ok ns' id:=by
 have:=hp.length_le
 exact⟨h.1,by have:=h.2;omega⟩
theorem Ze{ns ns':List Nd}(hN:Nod ns)(hN':Nod ns')(hp:ns<+:ns'){h:Int->Bool}{id:Int}(hi:Ok ns id):ev ns' h id=ev ns h id:=by
 refine ind hN (p:=fun id=>ev ns' h id=ev ns h id) ?_ ?_ hi
 ·intro id _ hn
  rw[Zd hn,Zd hn]
 ·intro id h0 hl i1 i2
  have hl':=hp.length_le
  rw[G5 hN h0 hl,G5 hN' h0 (by omega),q2u hp hl h0,i1,i2]
def Tb(ns:List Nd)(b:Int):Prop:= ∀i:Int,0<=i->i<ns.length->(nd ns i).1<b
theorem q2v{ns:List Nd}{n:Nd}:nd (ns++[n]) ns.length=n:=by
 simp[nd,List.getD_eq_getElem?_getD]
theorem Nod.add{ns:List Nd}(hN:Nod ns){t y n:Int}(ht:0<=t)(ht':t<=1000)(hy:Ok ns y)(hn:Ok ns n)(hne:y≠n)(h1:t<top ns y)(h2:t<top ns n)
  (hnew: ∀i:Int,0<=i->i<ns.length->nd ns i≠(t,y,n)):Nod (ns++[(t,y,n)]):=by
 have hp:ns<+:ns++[(t,y,n)]:=List.prefix_append _ _
 have hlen:((ns++[(t,y,n)]).length:Int)=ns.length+1:=by simp
 refine⟨fun i h0 hl=> ?_,fun i j h0 hl k0 kl he=> ?_⟩
 ·by_cases hi:i<ns.length
  ·rw[q2u hp hi h0]
   obtain⟨a1,a2,a3,a4,a5,a6,a7,a8,a9⟩:=hN.nod i h0 hi
   rw[q0f hp (by omega),q0f hp (by omega)]
   exact⟨a1,a2,a3,a4,a5,a6,a7,a8,a9⟩
  ·have:i=ns.length:=by omega
   subst this
   rw[q2v]
   have hy2:=hy.2
   have hn2:=hn.2
   rw[q0f hp hy2,q0f hp hn2]
   exact⟨ht,ht',hy.1,hy2,hn.1,hn2,hne,h1,h2⟩
 ·by_cases hi:i<ns.length
  ·by_cases hj:j<ns.length
   ·rw[q2u hp hi h0,q2u hp hj k0] at he
    exact hN.one i j h0 hi k0 hj he
   ·have:j=ns.length:=by omega
    subst this
    rw[q2v,q2u hp hi h0] at he
    exact absurd he (hnew i h0 hi)
  ·have:i=ns.length:=by omega
   subst this
   by_cases hj:j<ns.length
   ·rw[q2v,q2u hp hj k0] at he
    exact absurd he.symm (hnew j k0 hj)
   ·omega
theorem Inv.add{ns:List Nd}{ids:Nd->Option Int}(hI:Inv ns ids){t y n:Int}(ht:0<=t)(ht':t<=1000)(hy:Ok ns y)(hn:Ok ns n)(hne:y≠n)(h1:t<top ns y)(h2:t<top ns n)
  (hnew:ids (t,y,n)=none):Inv (ns++[(t,y,n)]) (put ids (t,y,n) ns.length):=by
 have hnew': ∀i:Int,0<=i->i<ns.length->nd ns i≠(t,y,n):=fun i h0 hl he=>by
  rw[(hI.ids _ i).2 ⟨h0,hl,he⟩] at hnew
  cases hnew
 have hp:ns<+:ns++[(t,y,n)]:=List.prefix_append _ _
 have hlen:((ns++[(t,y,n)]).length:Int)=ns.length+1:=by simp
 refine⟨hI.nod.add ht ht' hy hn hne h1 h2 hnew',fun m id=> ?_⟩
 simp only[put]
 by_cases hm:m=(t,y,n)
 ·subst hm
  simp only[if_true,Option.some.injEq]
  constructor
  ·intro h
   subst h
   exact⟨by omega,by omega,q2v⟩
  ·rintro⟨a,b,c⟩
   by_cases hid:id<ns.length
   ·rw[q2u hp hid a] at c
    exact absurd c (hnew' id a hid)
   ·omega
 ·simp only[if_neg hm]
  rw[hI.ids]
  constructor
  ·rintro⟨a,b,c⟩
   exact⟨a,by omega,by rw[q2u hp b a];exact c⟩
  ·rintro⟨a,b,c⟩
   by_cases hid:id<ns.length
   ·exact⟨a,hid,by rw[q2u hp hid a] at c;exact c⟩
   ·have:id=ns.length:=by omega
    subst this
    rw[q2v] at c
    exact absurd c.symm hm
def q2w(ns:List Nd)(t y n:Int):Prop:=0<=t/\t<=1000/\Ok ns y/\Ok ns n/\t<top ns y/\t<top ns n
instance (ns:List Nd)(id:Int):Decidable (Ok ns id):=by unfold Ok;infer_instance
instance (ns:List Nd)(t y n:Int):Decidable (q2w ns t y n):=by unfold q2w;infer_instance
def node(ns:List Nd)(ids:Nd->Option Int)(full:Bool)(t y n:Int):Int×List Nd×(Nd->Option Int)×Bool:=
 if q2w ns t y n then
  if y=n then (y,ns,ids,full)
  else match ids (t,y,n) with
   |some id=>(id,ns,ids,full)
   |none=>if 4000<=ns.length then (-1002,ns,ids,true) else (ns.length,ns++[(t,y,n)],put ids (t,y,n) ns.length,full)
 else (-1002,ns,ids,full)
structure Grew(ns:List Nd)(ids:Nd->Option Int)(full:Bool)(k:Nat)(ns':List Nd)(ids':Nd->Option Int)(full':Bool):Prop where
 inv:Inv ns' ids'
 pre:ns<+:ns'
 len:ns'.length<=4000
 room:full'=full∨ns'.length=4000
 most:ns'.length<=ns.length+k
theorem Grew.refl{ns:List Nd}{ids:Nd->Option Int}{full:Bool}(hI:Inv ns ids)(hl:ns.length<=4000)(k:Nat):Grew ns ids full k ns ids full:=
 ⟨hI,List.prefix_refl _,hl,.inl rfl,by omega⟩
theorem Grew.trans{ns ns' ns'':List Nd}{ids ids' ids'':Nd->Option Int}{f f' f'':Bool}{k k' m:Nat}(h:Grew ns ids f k ns' ids' f')(h':Grew ns' ids' f' k' ns'' ids'' f'')(hm:k+k'<=m):
  Grew ns ids f m ns'' ids'' f'':=by
 refine⟨h'.inv,h.pre.trans h'.pre,h'.len,?_,?_⟩
 ·rcases h'.room with e|e
  ·rcases h.room with e'|e'
   ·exact .inl (e.trans e')
   ·have:=h'.pre.length_le
    have:=h'.len
    exact .inr (by omega)
  ·exact .inr e
 ·have:=h.most
  have:=h'.most
  omega
theorem z16{ns:List Nd}{ids:Nd->Option Int}{full:Bool}(hI:Inv ns ids)(hl:ns.length<=4000){t y n:Int}(hO:q2w ns t y n){r:Int}{ns':List Nd}{ids':Nd->Option Int}{full':Bool}
  (he:node ns ids full t y n=(r,ns',ids',full')):Grew ns ids full 1 ns' ids' full'/\(∀b,Tb ns b->t<b->Tb ns' b)/\
   ((r= -1002/\ns'.length=4000/\full'=true)∨(full'=full/\Ok ns' r/\t<=top ns' r/\ ∀h,ev ns' h r=if h t=true then ev ns h y else ev ns h n)):=by
 obtain⟨h1,h2,hy,hn,h3,h4⟩:=hO
 rw[node,if_pos ⟨h1,h2,hy,hn,h3,h4⟩] at he
 by_cases hyn:y=n
 ·rw[if_pos hyn] at he
  cases he
  subst hyn
  exact⟨.refl hI hl 1,fun b h _=>h,.inr ⟨rfl,hy,by omega,fun h=>by simp⟩⟩
 ·rw[if_neg hyn] at he
  cases hid:ids (t,y,n) with
  |some id=>
   rw[hid] at he
   cases he
   obtain⟨a,b,c⟩:=(hI.ids _ _).1 hid
   refine⟨.refl hI hl 1,fun b h _=>h,.inr ⟨rfl,⟨by omega,b⟩,?_,fun h=> ?_⟩⟩
   ·simp only[top,if_neg (show ¬r<0 by omega),c];omega
   ·rw[G5 hI.nod a b,c]
  |none=>
   rw[hid] at he
   simp only at he
   by_cases hf:4000<=ns.length
   ·rw[if_pos hf] at he
    cases he
    exact⟨⟨hI,List.prefix_refl _,hl,.inr (by omega),by omega⟩,fun b h _=>h,.inl ⟨rfl,by omega,rfl⟩⟩
   ·rw[if_neg hf] at he
    cases he
    have hp:ns<+:ns++[(t,y,n)]:=List.prefix_append _ _
    have hI':=hI.add h1 h2 hy hn hyn h3 h4 hid
    have hlen:((ns++[(t,y,n)]).length:Int)=ns.length+1:=by simp
    refine⟨⟨hI',hp,by simp;omega,.inl rfl,by simp⟩,fun b hb ht i h0 hl=> ?_,.inr ⟨rfl,⟨by omega,by omega⟩,?_,fun h=> ?_⟩⟩
    ·by_cases hi:i<ns.length
     ·rw[q2u hp hi h0];exact hb i h0 hi
     ·have:i=ns.length:=by omega
      subst this
      rw[q2v];exact ht
    ·simp only[top,if_neg (show ¬(ns.length:Int)<0 by omega),q2v];omega
    ·rw[G5 hI'.nod (by omega) (by omega),q2v]
     simp only
     rw[Ze hI.nod hI'.nod hp hy,Ze hI.nod hI'.nod hp hn]
theorem z61{ns:List Nd}{ids:Nd->Option Int}{full:Bool}{t y n:Int}(hO: ¬q2w ns t y n):node ns ids full t y n=(-1002,ns,ids,full):=by
 rw[node,if_neg hO]
def mtop(ns:List Nd)(f g h:Int):Int:=min (min (top ns f) (top ns g)) (top ns h)
def Cse(ns:List Nd)(f g h r:Int):Prop:= ∀v,ev ns v r=if ev ns v f=1 then ev ns v g else ev ns v h
def Cond(ns:List Nd)(f:Int):Prop:= ∀v,ev ns v f=0∨ev ns v f=1
def sd(ns:List Nd)(x t:Int):Int×Int:=if top ns x=t then ((nd ns x).2.1,(nd ns x).2.2) else (x,x)
theorem q5m{ns:List Nd}(hN:Nod ns){x t:Int}(hx:Ok ns x)(ht:t<=1000)(hl:t<=top ns x):
  Ok ns (sd ns x t).1/\Ok ns (sd ns x t).2/\t<top ns (sd ns x t).1/\t<top ns (sd ns x t).2/\ ∀v,ev ns v x=if v t=true then ev ns v (sd ns x t).1 else ev ns v (sd ns x t).2:=by
 unfold sd
 by_cases he:top ns x=t
 ·rw[if_pos he]
  have h0: ¬x<0:=fun hn=>by simp only[top,if_pos hn] at he;omega
  have hx2:=hx.2
  obtain⟨_,_,a,b,c,d,_,e,g⟩:=hN.nod x (by omega) hx.2
  have ht':(nd ns x).1=t:=by simp only[top,if_neg h0] at he;exact he
  refine⟨⟨a,by omega⟩,⟨c,by omega⟩,by rw[←ht'];exact e,by rw[←ht'];exact g,fun v=> ?_⟩
  rw[G5 hN (by omega) hx.2,ht']
 ·rw[if_neg he]
  refine⟨hx,hx,by show t<top ns x;omega,by show t<top ns x;omega,fun v=>by simp⟩
def Kn(ns:List Nd)(m:Nd->Option Int):Prop:= ∀f g h id,m (f,g,h)=some id->(id= -1002/\ns.length=4000)∨(Ok ns f/\Ok ns g/\Ok ns h/\Ok ns id/\Cse ns f g h id/\mtop ns f g h<=top ns id)
theorem Kn.nil(ns:List Nd):Kn ns fun _=>none:=fun _ _ _ _ h=>by cases h
theorem z0r{ns ns':List Nd}(hp:ns<+:ns'){f g h:Int}(hf:Ok ns f)(hg:Ok ns g)(hh:Ok ns h):mtop ns' f g h=mtop ns f g h:=by
 unfold mtop;rw[q0f hp hf.2,q0f hp hg.2,q0f hp hh.2]
theorem Cse.pre{ns ns':List Nd}(hN:Nod ns)(hN':Nod ns')(hp:ns<+:ns'){f g h r:Int}(hf:Ok ns f)(hg:Ok ns g)(hh:Ok ns h)(hr:Ok ns r)(hs:Cse ns f g h r):Cse ns' f g h r:=fun v=>by
 rw[Ze hN hN' hp hf,Ze hN hN' hp hg,Ze hN hN' hp hh,Ze hN hN' hp hr];exact hs v
theorem Kn.pre{ns ns':List Nd}(hN:Nod ns)(hN':Nod ns')(hp:ns<+:ns')(hl:ns'.length<=4000){m:Nd->Option Int}(hK:Kn ns m):Kn ns' m:=fun f g h id hm=>by
 rcases hK f g h id hm with ⟨h1,h2⟩|⟨h1,h2,h3,h4,h5,h6⟩
 ·have:=hp.length_le
  exact .inl ⟨h1,by omega⟩
 ·exact .inr ⟨h1.pre hp,h2.pre hp,h3.pre hp,h4.pre hp,h5.pre hN hN' hp h1 h2 h3 h4,by rw[z0r hp h1 h2 h3,q0f hp h4.2];exact h6⟩
theorem Kn.put{ns:List Nd}{m:Nd->Option Int}(hK:Kn ns m){f g h r:Int}(hr:(r= -1002/\ns.length=4000)∨(Ok ns f/\Ok ns g/\Ok ns h/\Ok ns r/\Cse ns f g h r/\mtop ns f g h<=top ns r)):Kn ns (put m (f,g,h) r):=fun f' g' h' id hm=>by
 unfold Fl.put at hm
 split at hm
 ·rename_i he
  cases hm
  simp only[Prod.mk.injEq] at he
  obtain⟨rfl,rfl,rfl⟩:=he
  exact hr
 ·exact hK f' g' h' id hm
def Dep(S:List Int)(F:(Int->Bool)->Int):Prop:= ∀v v':Int->Bool,(∀x∈S,v x=v' x)->F v=F v'
def cnt(S:List Int)(t:Int):Nat:=S.countP fun x=>decide (t<=x)
def mix(t:Int)(p v:Int->Bool):Int->Bool:=fun x=>if x<t then p x else v x
def Cof(F G:(Int->Bool)->Int):Prop:= ∃t p,∀v,G v=F (mix t p v)
theorem q7y{S:List Int}{t t':Int}(h:t<=t'):cnt S t'<=cnt S t:=
 List.countP_mono_left fun x _ hx=>by simp only[decide_eq_true_eq] at hx⊢;omega
theorem j3x{S:List Int}{t:Int}(h:t∈S):cnt S (t+1)+1<=cnt S t:=by
 unfold cnt
 induction S with
 |nil=>cases h
 |cons a S ih=>
  rw[List.countP_cons,List.countP_cons]
  have mono:=q7y (S:=S) (show t<=t+1 by omega)
  unfold cnt at mono
  by_cases ha:a=t
  ·subst ha
   simp only[decide_eq_true_eq,Int.le_refl,if_true]
   rw[if_neg (by omega)];omega
  ·have:=ih ((List.mem_cons.1 h).resolve_left fun e=>ha e.symm)
   by_cases hb:t<=a
   ·rw[if_pos (by simp only[decide_eq_true_eq];omega),if_pos (by simpa using hb)];omega
   ·rw[if_neg (by simp only[decide_eq_true_eq];omega),if_neg (by simpa using hb)];omega
theorem j80{S:List Int}{t:Int}:cnt S t<=S.length:=List.countP_le_length
theorem Dep.test{ns:List Nd}(hN:Nod ns){S:List Int}{id:Int}(h0:0<=id)(hl:id<ns.length)(h:Dep S fun v=>ev ns v id):(nd ns id).1∈S:=by
 refine Classical.byContradiction fun hn=> ?_
 obtain⟨_,_,a,b,c,d,ne,_⟩:=hN.nod id h0 hl
 refine ne (j3w hN ⟨a,by omega⟩ ⟨c,by omega⟩ fun v=> ?_)
 rw[←z4g hN h0 hl,←j03 hN h0 hl]
 refine h _ _ fun x hx=> ?_
 have: ¬x=(nd ns id).1:=fun e=>hn (e▸hx)
 simp only[setB,if_neg this]
theorem Dep.set{S:List Int}{F:(Int->Bool)->Int}(h:Dep S F)(t:Int)(b:Bool):Dep S fun v=>F (setB v t b):=fun v v' he=>h _ _ fun x hx=>by
 unfold setB
 split
 ·rfl
 ·exact he x hx
theorem Dep.eq{S:List Int}{F G:(Int->Bool)->Int}(h:Dep S F)(e: ∀v,G v=F v):Dep S G:=fun v v' he=>by rw[e,e];exact h v v' he
theorem z0s{ns:List Nd}(hN:Nod ns){x t:Int}(hx:Ok ns x)(ht:t<=1000)(hl:t<=top ns x)(v:Int->Bool):ev ns v (sd ns x t).1=ev ns (setB v t true) x:=by
 obtain⟨a,_,c,_,e⟩:=q5m hN hx ht hl
 rw[e]
 simp only[setB,if_true]
 exact (q3w hN a c).symm
theorem j64{ns:List Nd}(hN:Nod ns){x t:Int}(hx:Ok ns x)(ht:t<=1000)(hl:t<=top ns x)(v:Int->Bool):ev ns v (sd ns x t).2=ev ns (setB v t false) x:=by
 obtain⟨_,b,_,d,e⟩:=q5m hN hx ht hl
 rw[e]
 simp only[setB,if_true,Bool.false_eq_true,if_false]
 exact (q3w hN b d).symm
abbrev Fc(ns:List Nd)(f g h:Int):(Int->Bool)->Int:=fun v=>if ev ns v f=1 then ev ns v g else ev ns v h
theorem Fc.top{ns:List Nd}(hN:Nod ns){f g h:Int}(hf:Ok ns f)(hg:Ok ns g)(hh:Ok ns h){v v':Int->Bool}(he: ∀x,mtop ns f g h<=x->v x=v' x):Fc ns f g h v=Fc ns f g h v':=by
 have h1:ev ns v f=ev ns v' f:=z4f hN hf fun x hx=>he x (by unfold mtop;omega)
 have h2:ev ns v g=ev ns v' g:=z4f hN hg fun x hx=>he x (by unfold mtop;omega)
 have h3:ev ns v h=ev ns v' h:=z4f hN hh fun x hx=>he x (by unfold mtop;omega)
 simp only[Fc,h1,h2,h3]
theorem Cof.side{F G F1:(Int->Bool)->Int}{t:Int}{b:Bool}(hF: ∀v v',(∀x,t<=x->v x=v' x)->F v=F v')(h1: ∀v,F1 v=F (setB v t b))(h:Cof F1 G):Cof F G:=by
 obtain⟨t',p,h⟩:=h
 refine⟨max t' (t+1),fun x=>if x=t then b else p x,fun v=> ?_⟩
 rw[h,h1]
 refine hF _ _ fun x hx=> ?_
 unfold setB mix
 by_cases he:x=t
 ·rw[if_pos he,if_pos (by omega)]
  simp only[he,if_true]
 ·rw[if_neg he]
  by_cases hl:x<t'
  ·rw[if_pos hl,if_pos (by omega)]
   simp only[he,if_false]
  ·rw[if_neg hl,if_neg (by omega)]
theorem Cof.self{F G:(Int->Bool)->Int}{t:Int}(hF: ∀v v',(∀x,t<=x->v x=v' x)->F v=F v')(h: ∀v,G v=F v):Cof F G:=⟨t,fun _=>true,fun v=>by
 rw[h]
 exact hF _ _ fun x hx=>by unfold mix;rw[if_neg (by omega)]⟩
theorem Cof.node{ns:List Nd}(hN:Nod ns){id:Int}{G:(Int->Bool)->Int}(hi:Ok ns id)(h:Cof (fun v=>ev ns v id) G): ∃j,Ok ns j/\ ∀v,ev ns v j=G v:=by
 obtain⟨t,p,h⟩:=h
 have key: ∀id,Ok ns id-> ∃j,Ok ns j/\ ∀v,ev ns v j=ev ns (mix t p v) id:=fun id hi=>by
  refine ind hN (p:=fun id=> ∃j,Ok ns j/\ ∀v,ev ns v j=ev ns (mix t p v) id) (fun id h1 h2=>⟨id,⟨h1,by omega⟩,fun v=>by rw[Zd h2,Zd h2]⟩) (fun id h0 hl i1 i2=> ?_) hi
  by_cases ht:(nd ns id).1<t
  ·obtain⟨j1,a1,a2⟩:=i1
   obtain⟨j2,b1,b2⟩:=i2
   cases hp:p (nd ns id).1 with
   |true=>exact⟨j1,a1,fun v=>by rw[a2,G5 hN h0 hl,if_pos (by unfold mix;rw[if_pos ht];exact hp)]⟩
   |false=>exact⟨j2,b1,fun v=>by rw[b2,G5 hN h0 hl,if_neg (by unfold mix;rw[if_pos ht,hp];simp)]⟩
  ·have hid:Ok ns id:=⟨by omega,hl⟩
   refine⟨id,hid,fun v=>z4f hN hid fun x hx=> ?_⟩
   have:top ns id=(nd ns id).1:=by simp only[top,if_neg (show ¬id<0 by omega)]
   unfold mix;rw[if_neg (by omega)]
 obtain⟨j,a,b⟩:=key id hi
 exact⟨j,a,fun v=>by rw[b,h]⟩
theorem j04{ns:List Nd}{ids:Nd->Option Int}{full:Bool}{t y n:Int}:(node ns ids full t y n).2.1=ns∨((node ns ids full t y n).1=ns.length/\(node ns ids full t y n).2.1.length=ns.length+1):=by
 unfold node
 split
 ·split
  ·exact .inl rfl
  ·split
   ·exact .inl rfl
   ·split
    ·exact .inl rfl
    ·exact .inr ⟨rfl,by simp⟩
 ·exact .inl rfl
structure Cho(ns:List Nd)(ids:Nd->Option Int)(full:Bool)(f g h:Int)(r:Int)(ns':List Nd)(ids':Nd->Option Int)(full':Bool):Prop where
 grew:Grew ns ids full 4000 ns' ids' full'
 few: ∀b,Tb ns b->Tb ns' b/\ns'.length+1<=ns.length+2 ^ (b - mtop ns f g h).toNat
 res:(r= -1002/\ns'.length=4000)∨(Ok ns' r/\Cse ns' f g h r/\mtop ns f g h<=top ns' r)
 dep: ∀S,Dep S (fun v=>ev ns v f)->Dep S (fun v=>ev ns v g)->Dep S (fun v=>ev ns v h)->ns'.length+1<=ns.length+2 ^ cnt S (mtop ns f g h)
 cof: ∀i:Int,ns.length<=i->i<ns'.length->Cof (Fc ns f g h) fun v=>ev ns' v i
theorem Cho.stay{ns:List Nd}{ids:Nd->Option Int}{full:Bool}{f g h r:Int}(hI:Inv ns ids)(hl:ns.length<=4000)(hr:(r= -1002/\ns.length=4000)∨(Ok ns r/\Cse ns f g h r/\mtop ns f g h<=top ns r)):Cho ns ids full f g h r ns ids full:=
 ⟨.refl hI hl _,fun b hb=>⟨hb,by have:=Nat.two_pow_pos ((b - mtop ns f g h).toNat);omega⟩,hr,fun S _ _ _=>by have:=Nat.two_pow_pos (cnt S (mtop ns f g h));omega,fun i h1 h2=>by omega⟩
structure Sid(ns:List Nd)(f g h:Int)(ns':List Nd):Prop where
 dep: ∀S,Dep S (fun v=>ev ns v f)->Dep S (fun v=>ev ns v g)->Dep S (fun v=>ev ns v h)->ns'.length+2<=ns.length+2 ^ cnt S (mtop ns f g h)
 cof: ∀i:Int,ns.length<=i->i<ns'.length->Cof (Fc ns f g h) fun v=>ev ns' v i
theorem j3y{ns:List Nd}(hN:Nod ns){S:List Int}{f g h:Int}(hf:Ok ns f)(hg:Ok ns g)(hh:Ok ns h)(ht:mtop ns f g h<=1000)(d1:Dep S fun v=>ev ns v f)(d2:Dep S fun v=>ev ns v g)(d3:Dep S fun v=>ev ns v h):mtop ns f g h∈S:=by
 have one: ∀x,Ok ns x->(Dep S fun v=>ev ns v x)->mtop ns f g h=top ns x->mtop ns f g h∈S:=fun x hx hd e=>by
  by_cases h0:x<0
  ·simp only[top,if_pos h0] at e;omega
  ·have:=Dep.test hN (by omega) hx.2 hd
   rw[e];simp only[top,if_neg h0];exact this
 by_cases e1:mtop ns f g h=top ns f
 ·exact one f hf d1 e1
 ·by_cases e2:mtop ns f g h=top ns g
  ·exact one g hg d2 e2
  ·exact one h hh d3 (by unfold mtop at e1 e2⊢;omega)
theorem Sid.one{ns ns1:List Nd}{ids ids1:Nd->Option Int}{full full1:Bool}{f g h r1:Int}(hN:Nod ns)(hf:Ok ns f)(hg:Ok ns g)(hh:Ok ns h)(ht:mtop ns f g h<=1000)
  (C1:Cho ns ids full (sd ns f (mtop ns f g h)).1 (sd ns g (mtop ns f g h)).1 (sd ns h (mtop ns f g h)).1 r1 ns1 ids1 full1):
  (∀S,Dep S (fun v=>ev ns v f)->Dep S (fun v=>ev ns v g)->Dep S (fun v=>ev ns v h)->ns1.length+1<=ns.length+2 ^ cnt S (mtop ns f g h+1))/\ ∀i:Int,ns.length<=i->i<ns1.length->Cof (Fc ns f g h) fun v=>ev ns1 v i:=by
 have lf:mtop ns f g h<=top ns f:=by unfold mtop;omega
 have lg:mtop ns f g h<=top ns g:=by unfold mtop;omega
 have lh:mtop ns f g h<=top ns h:=by unfold mtop;omega
 have a1:=(q5m hN hf ht lf).2.2.1
 have a2:=(q5m hN hg ht lg).2.2.1
 have a3:=(q5m hN hh ht lh).2.2.1
 refine⟨fun S d1 d2 d3=> ?_,fun i h1 h2=> ?_⟩
 ·have:=C1.dep S ((d1.set (mtop ns f g h) true).eq (z0s hN hf ht lf)) ((d2.set (mtop ns f g h) true).eq (z0s hN hg ht lg)) ((d3.set (mtop ns f g h) true).eq (z0s hN hh ht lh))
  have p1:=Nat.pow_le_pow_right (show 0<2 by omega) (q7y (S:=S) (show mtop ns f g h+1<=mtop ns (sd ns f (mtop ns f g h)).1 (sd ns g (mtop ns f g h)).1 (sd ns h (mtop ns f g h)).1 by show _<=min (min _ _) _;omega))
  omega
 ·refine Cof.side (t:=mtop ns f g h) (b:=true) (fun v v' he=>Fc.top hN hf hg hh he) (fun v=> ?_) (C1.cof i h1 h2)
  simp only[Fc,z0s hN hf ht lf,z0s hN hg ht lg,z0s hN hh ht lh]
theorem Sid.two{ns ns1 ns2:List Nd}{ids ids1 ids2:Nd->Option Int}{full full1 full2:Bool}{f g h r1 r2:Int}(hN:Nod ns)(hf:Ok ns f)(hg:Ok ns g)(hh:Ok ns h)(ht:mtop ns f g h<=1000)
  (C1:Cho ns ids full (sd ns f (mtop ns f g h)).1 (sd ns g (mtop ns f g h)).1 (sd ns h (mtop ns f g h)).1 r1 ns1 ids1 full1)
  (C2:Cho ns1 ids1 full1 (sd ns f (mtop ns f g h)).2 (sd ns g (mtop ns f g h)).2 (sd ns h (mtop ns f g h)).2 r2 ns2 ids2 full2):Sid ns f g h ns2:=by
 obtain⟨o1,o2⟩:=Sid.one hN hf hg hh ht C1
 have lf:mtop ns f g h<=top ns f:=by unfold mtop;omega
 have lg:mtop ns f g h<=top ns g:=by unfold mtop;omega
 have lh:mtop ns f g h<=top ns h:=by unfold mtop;omega
 obtain⟨_,b1,_,a1,_⟩:=q5m hN hf ht lf
 obtain⟨_,b2,_,a2,_⟩:=q5m hN hg ht lg
 obtain⟨_,b3,_,a3,_⟩:=q5m hN hh ht lh
 have hp1:=C1.grew.pre
 have hp2:=C2.grew.pre
 have hN1:=C1.grew.inv.nod
 have hN2:=C2.grew.inv.nod
 have s1: ∀v,ev ns1 v (sd ns f (mtop ns f g h)).2=ev ns (setB v (mtop ns f g h) false) f:=fun v=>by rw[Ze hN hN1 hp1 b1,j64 hN hf ht lf]
 have s2: ∀v,ev ns1 v (sd ns g (mtop ns f g h)).2=ev ns (setB v (mtop ns f g h) false) g:=fun v=>by rw[Ze hN hN1 hp1 b2,j64 hN hg ht lg]
 have s3: ∀v,ev ns1 v (sd ns h (mtop ns f g h)).2=ev ns (setB v (mtop ns f g h) false) h:=fun v=>by rw[Ze hN hN1 hp1 b3,j64 hN hh ht lh]
 refine⟨fun S d1 d2 d3=> ?_,fun i h1 h2=> ?_⟩
 ·have e1:=o1 S d1 d2 d3
  have e2:=C2.dep S ((d1.set (mtop ns f g h) false).eq s1) ((d2.set (mtop ns f g h) false).eq s2) ((d3.set (mtop ns f g h) false).eq s3)
  rw[z0r hp1 b1 b2 b3] at e2
  have p1:=Nat.pow_le_pow_right (show 0<2 by omega) (q7y (S:=S) (show mtop ns f g h+1<=mtop ns (sd ns f (mtop ns f g h)).2 (sd ns g (mtop ns f g h)).2 (sd ns h (mtop ns f g h)).2 by show _<=min (min _ _) _;omega))
  have p2:=Nat.pow_le_pow_right (show 0<2 by omega) (j3x (j3y hN hf hg hh ht d1 d2 d3))
  rw[Nat.pow_succ] at p2
  omega
 ·by_cases hi:i<ns1.length
  ·obtain⟨t,p,h⟩:=o2 i h1 hi
   exact⟨t,p,fun v=>(Ze hN1 hN2 hp2 ⟨by omega,hi⟩).trans (h v)⟩
  ·refine Cof.side (t:=mtop ns f g h) (b:=false) (fun v v' he=>Fc.top hN hf hg hh he) (fun v=> ?_) (C2.cof i (by omega) h2)
   simp only[Fc,s1,s2,s3]
theorem Sid.node{ns ns2 ns3:List Nd}{ids2 ids3:Nd->Option Int}{full2 full3:Bool}{f g h t y n r3:Int}(hN:Nod ns)(hf:Ok ns f)(hg:Ok ns g)(hh:Ok ns h)(hS:Sid ns f g h ns2)(hN2:Nod ns2)(hN3:Nod ns3)(hp3:ns2<+:ns3)(hp:ns<+:ns3)
  (hnode:node ns2 ids2 full2 t y n=(r3,ns3,ids3,full3))(hm:ns3.length<=ns2.length+1)(hr:(r3= -1002/\ns3.length=4000)∨(Ok ns3 r3/\Cse ns3 f g h r3/\mtop ns f g h<=top ns3 r3)):
  (∀S,Dep S (fun v=>ev ns v f)->Dep S (fun v=>ev ns v g)->Dep S (fun v=>ev ns v h)->ns3.length+1<=ns.length+2 ^ cnt S (mtop ns f g h))/\ ∀i:Int,ns.length<=i->i<ns3.length->Cof (Fc ns f g h) fun v=>ev ns3 v i:=by
 refine⟨fun S d1 d2 d3=>by have:=hS.dep S d1 d2 d3;omega,fun i h1 h2=> ?_⟩
 by_cases hi:i<ns2.length
 ·obtain⟨t,p,h⟩:=hS.cof i h1 hi
  exact⟨t,p,fun v=>(Ze hN2 hN3 hp3 ⟨by omega,hi⟩).trans (h v)⟩
 ·have ha:=j04 (ns:=ns2) (ids:=ids2) (full:=full2) (t:=t) (y:=y) (n:=n)
  rw[hnode] at ha
  rcases ha with ha|⟨ha,hb⟩
  ·simp only at ha;subst ha;omega
  ·simp only at ha hb
   have e:i=r3:=by omega
   rw[e]
   rcases hr with ⟨h3,h4⟩|⟨h3,h4,_⟩
   ·omega
   ·refine Cof.self (t:=mtop ns f g h) (fun v v' he=>Fc.top hN hf hg hh he) fun v=> ?_
    rw[h4,Ze hN hN3 hp hf,Ze hN hN3 hp hg,Ze hN hN3 hp hh]
end Go.Dg
end
noncomputable section
set_option maxRecDepth 100000
namespace Go.En
open Go Go.Fl Go.Fl.Lk Go.Fx
theorem Cnd.mk{c A B:Prop}(h:c->A)(k: ¬c->B):Cnd c A B:=⟨h,k⟩
structure DS(list:List Int)(at_:Int):Prop where
 len:list.length<=1000
 lo:0<=at_
 hi:at_<=list.length
 byte: ∀x∈list,0<=x/\x<256
theorem getm{α:Type}{l:List α}{k:Nat}{x:α}(h:l[k]? =some x):x∈l:=List.mem_of_getElem? h
theorem q86(n:Int):(Go.Utf8.encode n).size<=4:=by
 unfold Go.Utf8.encode
 generalize (if Go.Utf8.valid n then n.toNat else Go.Utf8.runeError)=c
 show (if c<0x80 then _ else if c<0x800 then _ else if c<0x10000 then _ else _:ByteArray).size<=4
 have h1: ∀a:UInt8,(ByteArray.mk #[a]).size<=4:=fun _=>(by decide:1<=4)
 have h2: ∀a b:UInt8,(ByteArray.mk #[a,b]).size<=4:=fun _ _=>(by decide:2<=4)
 have h3: ∀a b c:UInt8,(ByteArray.mk #[a,b,c]).size<=4:=fun _ _ _=>(by decide:3<=4)
 have h4: ∀a b c d:UInt8,(ByteArray.mk #[a,b,c,d]).size<=4:=fun _ _ _ _=>(by decide:4<=4)
 split
 ·exact h1 _
 ·split
  ·exact h2 _ _
  ·split
   ·exact h3 _ _ _
   ·exact h4 _ _ _ _
theorem Zz{list:List Int}{at_ n:Int}{K:Int->Int->Prop}(hD:DS list at_)(hn:1<=n)(h: ∀r a,0<=r->r<n->DS list a->K r a):Ue list at_ n K:=by
 obtain⟨h1,h2,h3,h4⟩:=hD
 unfold Ue z1h z1g
 refine fun _=>Cnd.mk (fun hl=> ?_) (fun _=>h _ _ (by omega) (by omega) ⟨h1,h2,h3,h4⟩)
 have hl:=of_decide_eq_true hl
 refine⟨by unfold InI;omega,by unfold InI;omega,by omega,fun y hy=>⟨by unfold InI;have:=h4 _ (getm hy);omega,by omega,?_⟩⟩
 obtain⟨a,b⟩:=h4 _ (getm hy)
 exact h _ _ (Int.tmod_nonneg _ a) (by have:=Int.tmod_lt_of_pos y (b:=n) (by omega);omega) ⟨h1,by omega,by omega,h4⟩
theorem j05{list:List Int}{at_:Int}{K:ByteArray->Int->Prop}(hD:DS list at_)(h: ∀r a,r∈z3w->DS list a->K r a):q7u list at_ K:=by
 unfold q7u z1j
 exact Zz hD (by decide) fun r a r0 r1 hD=>⟨⟨r0,r1⟩,fun y hy=>h _ _ (getm hy) hD⟩
theorem sz_k(n:Int):(B8 [107]++Go.Utf8.encode n).size<=5:=by
 rw[ByteArray.size_append];have:=q86 n;show 1+_<=5;omega
theorem j3z{list:List Int}{at_:Int}{K:ByteArray->Int->Prop}(hD:DS list at_)(h: ∀r a,r.size<=5->DS list a->K r a):z1i list at_ K:=by
 unfold z1i z5m
 refine Zz hD (by decide) fun r a r0 r1 hD=>⟨by unfold InI;omega,?_,h _ _ (sz_k _) hD⟩
 have:=q86 (Go.IntKind.i32.wrap (48+r));have e:(B8 [107]).size=1:=rfl;omega
theorem sz0:(ByteArray.mk (Array.mk ([]:List UInt8))).size<=100:=by decide
structure ValS(v:Val):Prop where
 num:InI v.number
 txt:v.text.size<=100
 len:v.list.length<=10
 txs: ∀s∈v.list,s.size<=100
theorem q02{list:List Int}{at_ kind:Int}{K:Val->Int->Prop}(hD:DS list at_)(h: ∀r a,ValS r->DS list a->K r a):q0p list at_ kind K:=by
 unfold q0p q8r
 have tt: ∀s∈z3w,s.size<=100:=by decide
 have tv: ∀s∈q4w,s.size<=100:=by decide
 have tl: ∀l∈z0m,l.length<=10/\ ∀s∈l,s.size<=100:=by decide
 refine Cnd.mk (fun _=> ?_) fun _=>Cnd.mk (fun _=>fun _=> ?_) fun _=>Cnd.mk (fun _=> ?_) fun _=>Cnd.mk (fun _=> ?_) fun _=> ?_
 ·exact Zz hD (by decide) fun r a r0 r1 hD=>h _ _ ⟨by unfold InI;simp only;omega,sz0,by simp,by simp⟩ hD
 ·refine Zz hD (by decide) fun r a r0 r1 hD=>⟨⟨r0,r1⟩,fun y hy=>h _ _ ⟨?_,sz0,by simp,by simp⟩ hD⟩
  have:=getm hy
  have k: ∀y∈[(0:Int),(1:Int),(17:Int),(18:Int),(19:Int),(-5:Int),(64:Int),(1099511627776:Int),(-1099511627776:Int)], -9223372036854775808<=y/\y<=9223372036854775807:=by decide
  exact k y this
 ·exact j05 hD fun r a hr hD=>h _ _ ⟨by unfold InI;simp,tt _ hr,by simp,by simp⟩ hD
 ·exact Zz hD (by decide) fun r a r0 r1 hD=>⟨⟨r0,r1⟩,fun y hy=>h _ _ ⟨by unfold InI;simp,tv _ (getm hy),by simp,by simp⟩ hD⟩
 ·refine Zz hD (by decide) fun r a r0 r1 hD=>⟨⟨r0,r1⟩,fun y hy=> ?_⟩
  obtain⟨a1,a2⟩:=tl _ (getm hy)
  exact⟨by unfold Sml;simp;omega,h _ _ ⟨by unfold InI;simp,sz0,by simpa using a1,by simpa using a2⟩ hD⟩
structure VsS(l:List Val):Prop where
 len:l.length<=4
 all: ∀v∈l,ValS v
theorem VsS.nil:VsS []:=⟨by simp,by simp⟩
theorem VsS.one{v:Val}(h:ValS v):VsS [v]:=⟨by simp,by simpa using h⟩
def ExS:Nat->Ex->Prop
 |0,e=>VsS e.values/\(e.name.size<=100/\e.kind.size<=100)/\(InI e.op/\(2<=e.op->e.op<=4->e.kids≠[]))/\e.kids=[]
 |n+1,e=>VsS e.values/\(e.name.size<=100/\e.kind.size<=100)/\(InI e.op/\(2<=e.op->e.op<=4->e.kids≠[]))/\e.kids.length<=3/\ ∀k∈e.kids,ExS n k
theorem ExS.up: ∀{n:Nat} {e:Ex},ExS n e->ExS (n+1) e
 |0,e,h=>⟨h.1,h.2.1,h.2.2.1,by rw[h.2.2.2];simp,by rw[h.2.2.2];simp⟩
 |n+1,e,h=>⟨h.1,h.2.1,h.2.2.1,h.2.2.2.1,fun k hk=>(h.2.2.2.2 k hk).up⟩
theorem ExS.le{n m:Nat}{e:Ex}(h:ExS n e)(hm:n<=m):ExS m e:=by
 induction hm with
 |refl=>exact h
 |step _ ih=>exact ih.up
theorem ExS.kids{n:Nat}{e:Ex}(h:ExS n e):e.kids.length<=3:=by
 cases n with
 |zero=>rw[h.2.2.2];simp
 |succ n=>exact h.2.2.2.1
theorem ExS.kid{n:Nat}{e k:Ex}(h:ExS n e)(hk:k∈e.kids): ∃m,m+1=n/\ExS m k:=by
 cases n with
 |zero=>rw[h.2.2.2] at hk;simp at hk
 |succ n=>exact⟨n,rfl,h.2.2.2.2 k hk⟩
theorem ExS.vals{n:Nat}{e:Ex}(h:ExS n e):VsS e.values:=by cases n<;>exact h.1
theorem ExS.opK{n:Nat}{e:Ex}(h:ExS n e):2<=e.op->e.op<=4->e.kids≠[]:=by cases n<;>exact h.2.2.1.2
def OpL(op:Int):Prop:=InI op/\ ¬(2<=op/\op<=4)
theorem OpL.ok{op:Int}(h:OpL op){l:List Ex}:InI op/\(2<=op->op<=4->l≠[]):=⟨h.1,fun a b=>absurd ⟨a,b⟩ h.2⟩
theorem opl{op:Int}(h:(6<=op/\op<=100)∨op=0∨op=1∨op=5){l:List Ex}:InI op/\(2<=op->op<=4->l≠[]):=⟨by unfold InI;omega,fun a b=>by omega⟩
theorem z17{K:List Decl->Prop}(h: ∀l,l.length=8->(∀d∈l,d.kind.size<=100/\d.name.size<=100/\1<=d.type/\d.type<=5)->K l):Br K:=by
 unfold Br
 exact h _ rfl (by decide)
theorem z4h{list:List Int}{at_:Int}{K:Ex->Int->Prop}(hD:DS list at_)(h: ∀r a,ExS 0 r->6<=r.op/\r.op<=15->DS list a->K r a):q3a list at_ K:=by
 unfold q3a z1k
 refine z17 fun l hl hd _=>⟨by unfold InI;omega,Zz hD (by omega) fun r a r0 r1 hD _=>Cnd.mk (fun _=> ?_) fun hc=>⟨by omega,fun y hy=> ?_⟩⟩
 ·exact j3z hD fun s a hs hD=>h _ _ ⟨.one ⟨by unfold InI;simp,by show s.size<=100;omega,by simp,by simp⟩,⟨(by decide:(ByteArray.mk (Array.mk [107,101,121])).size<=100),(by decide:(ByteArray.mk (Array.mk [117,115,101,114])).size<=100)⟩,opl (by simp),rfl⟩ (by simp) hD
 obtain⟨hy0,hy1,hy2,hy3⟩:=hd y (getm hy)
 have one: ∀{op:Int} {v:Val},OpL op->ValS v->ExS 0 (Ex.mk op y.kind y.name [v] []):=fun ho hv=>⟨.one hv,⟨hy1,hy0⟩,ho.ok,rfl⟩
 refine Jn1.mk (fun x=>(∃b,x=(b,y.kind,y.name,([]:List Val),([]:List Ex),x.2.2.2.2.2.1,0,ByteArray.mk (Array.mk []),ByteArray.mk (Array.mk []),[],[],()))/\DS list x.2.2.2.2.2.1) ?_ ?_
 case refine_2=>
  rintro x ⟨⟨b,hx⟩,hD⟩
  refine q02 hD fun v a hv hD=>h _ _ ?_ (by simp) hD
  rw[hx]
  exact one ⟨by unfold InI;simp,by decide⟩ hv
 refine Zz hD (by decide) fun q a q0 q1 hD=> ?_
 refine Jn1.mk (fun x=>(∃b,x=(x.1,b,y.kind,y.name,([]:List Val),([]:List Ex),0,ByteArray.mk (Array.mk []),ByteArray.mk (Array.mk []),[],[],()))/\DS list x.1) ?_ ?_
 case refine_2=>
  rintro x ⟨⟨b,hx⟩,hD⟩
  have cmp:Ue list x.1 4 fun r a=>InI (12+r)/\q0p list a y.3 fun v a=>K (Ex.mk (12+r) x.2.2.1 x.2.2.2.1 [v] x.2.2.2.2.2.1) a:=by
   refine Zz hD (by decide) fun r a r0 r1 hD=>⟨by unfold InI;omega,q02 hD fun v a hv hD=>h _ _ ?_ (by simp only;omega) hD⟩
   rw[hx]
   exact one ⟨by unfold InI;omega,by omega⟩ hv
  refine Cnd.mk (fun _=>cmp) fun _=>Cnd.mk (fun _=>cmp) fun _=>Cnd.mk (fun _=>cmp) fun _=> ?_
  refine⟨⟨b,?_⟩,hD⟩
  rw[hx]
 have nx: ∀{a:Int},DS list a->(fun x:Int×ByteArray×ByteArray×List Val×List Ex×Int×Int×ByteArray×ByteArray×List Val×List Ex×Unit=>(∃b,x=(b,y.kind,y.name,([]:List Val),([]:List Ex),x.2.2.2.2.2.1,0,ByteArray.mk (Array.mk []),ByteArray.mk (Array.mk []),[],[],()))/\DS list x.2.2.2.2.2.1) ((0:Int),y.1,y.2,[],[],a,(0:Int),ByteArray.mk (Array.mk []),ByteArray.mk (Array.mk []),[],[],()):=fun hD=>⟨⟨0,rfl⟩,hD⟩
 refine Cnd.mk (fun _=>h _ _ ⟨.nil,⟨hy1,hy0⟩,opl (by simp),rfl⟩ (by simp) hD) fun _=>Cnd.mk (fun _=> ?_) fun _=>Cnd.mk (fun _=> ?_) fun _=>Cnd.mk (fun _=> ?_) fun _=>Cnd.mk (fun _=> ?_) fun _=>nx hD
 ·refine Cnd.mk (fun _=>nx hD) fun _=> ?_
  refine Lp3.ind (fun i l a=>DS list a/\0<=i/\i<=3/\(l.length:Int)=i/\ ∀v∈l,ValS v) (fun i _ _=>(3 - i).toNat) ?_ ⟨hD,by decide,by decide,rfl,by simp⟩
  rintro i l a ⟨hD,i0,i3,hl,hv⟩
  refine Zz hD (by decide) fun r a r0 r1 hD=>Cnd.mk (fun hc=>q02 hD fun v a hv' hD=>⟨by unfold Sml;simp;omega,by unfold InI;omega,⟨hD,by omega,by omega,by simp;omega,fun u hu=> ?_⟩,by omega⟩) (fun hc=>h _ _ ⟨⟨by simp only;omega,hv⟩,⟨hy1,hy0⟩,opl (by simp),rfl⟩ (by simp) hD)
  rcases List.mem_append.1 hu with hu|hu
  ·exact hv u hu
  ·rw[List.mem_singleton.1 hu];exact hv'
 ·have c:q0p list a 3 fun v a=>K (Ex.mk 11 y.1 y.2 [v] []) a:=q02 hD fun v a hv hD=>h _ _ (one ⟨by unfold InI;simp,by decide⟩ hv) (by simp) hD
  exact Cnd.mk (fun _=>c) fun _=>Cnd.mk (fun _=>c) fun _=>nx hD
 ·exact Cnd.mk (fun _=>Zz hD (by decide) fun r a r0 r1 hD=>⟨by unfold InI;omega,q02 hD fun v a hv hD=>h _ _ (one ⟨by unfold InI;omega,by omega⟩ hv) (by simp only;omega) hD⟩) fun _=>⟨⟨0,rfl⟩,hD⟩
 ·exact⟨⟨0,rfl⟩,hD⟩
theorem j81{n:Nat}{e:Ex}(h:ExS n e){k m:ByteArray}(hm:m.size<=100)(hk:k.size<=100):ExS (n+1) (Ex.mk 4 k m [] [e]):=⟨.nil,⟨hm,hk⟩,⟨InI.mk (by simp) (by simp),fun _ _=>by simp⟩,by simp,by simpa using h⟩
theorem z62{α:Type}{P:α->Prop}{l:List α}{x:α}(h: ∀y∈l,P y)(hx:P x): ∀y∈l++[x],P y:=fun y hy=>by
 rcases List.mem_append.1 hy with hy|hy
 ·exact h y hy
 ·rw[List.mem_singleton.1 hy];exact hx
end Go.En
end
noncomputable section
set_option maxRecDepth 100000
namespace Go.En
open Go Go.Fl Go.Fl.Lk Go.Fx
theorem z0t{α:Type}{a b:List α}(hl:a.length=b.length){F:α->α->(Bool->Prop)->Prop}{K:Bool->Prop}(hF: ∀x∈a,∀y∈b,∀K:Bool->Prop,(∀r,(r=true↔x=y)->K r)->F x y K)(h: ∀r,(r=true↔a=b)->K r):
  Lp1 (fun i Y=>a.length<=9223372036854775807->Cnd (i<(a.length:Int)) ((0<=i/\i<(a.length:Int))/\ ∀x,a[i.toNat]? =some x->(0<=i/\i<(b.length:Int))/\ ∀y,b[i.toNat]? =some y->F x y fun r=>Cnd (r=true) (InI (i+1)/\Y (i+1)) (K false)) (K true)) 0:=by
 refine Lp1.ind (fun (i:Int)=>0<=i/\i<=a.length/\a.take i.toNat=b.take i.toNat) (fun (i:Int)=>(a.length - i).toNat) ?_ ⟨by omega,by omega,by simp⟩
 rintro i ⟨i0,i1,he⟩ _
 refine Cnd.mk (fun hc=>⟨by omega,fun x hx=>⟨by omega,fun y hy=>hF x (getm hx) y (getm hy) _ fun r hr=>Cnd.mk (fun hc=>⟨by unfold InI;omega,⟨by omega,by omega,?_⟩,by omega⟩) fun hc=>h _ ⟨fun h=>(by cases h),fun h=> ?_⟩⟩⟩) fun hc=>h _ ⟨fun _=> ?_,fun _=>rfl⟩
 ·rw[show (i+1).toNat=i.toNat+1 by omega,List.take_add_one,List.take_add_one,he,hx,hy,hr.1 hc]
 ·subst h;rw[hx] at hy;exact absurd (hr.2 (by cases hy;rfl)) hc
 ·rwa [List.take_of_length_le (by omega),List.take_of_length_le (by omega)] at he
theorem z8b{a b:List ByteArray}{K:Bool->Prop}(h: ∀r,(r=true↔a=b)->K r):q41 a b K:=by
 unfold q41
 intro ha hb
 refine Cnd.mk (fun hl=> ?_) fun hl=>h _ ⟨fun h=>(by cases h),fun e=>by rw[e] at hl;exact absurd rfl hl⟩
 refine Lp1.ind (fun (i:Int)=>0<=i/\i<=a.length/\a.take i.toNat=b.take i.toNat) (fun (i:Int)=>(a.length - i).toNat) ?_ ⟨by omega,by omega,by simp⟩
 rintro i ⟨i0,i1,he⟩ _
 refine Cnd.mk (fun hc=>⟨by omega,fun x hx=>⟨by omega,fun y hy=>Cnd.mk (fun hc=>⟨by unfold InI;omega,⟨by omega,by omega,?_⟩,by omega⟩) fun hc=>h _ ⟨fun h=>(by cases h),fun h=> ?_⟩⟩⟩) fun hc=>h _ ⟨fun _=> ?_,fun _=>rfl⟩
 ·rw[show (i+1).toNat=i.toNat+1 by omega,List.take_add_one,List.take_add_one,he,hx,hy,hc]
 ·subst h;rw[hx] at hy;cases hy;exact absurd rfl hc
 ·rwa [List.take_of_length_le (by omega),List.take_of_length_le (by omega)] at he
theorem z5u{a b:Val}{K:Bool->Prop}(h: ∀r,(r=true↔a=b)->K r):q3b a b K:=by
 unfold q3b q6c
 have no:(a≠b)->K false:=fun hn=>h _ ⟨fun h=>(by cases h),fun e=>absurd e hn⟩
 refine Cnd.mk (fun h1=>Cnd.mk (fun h2=>Cnd.mk (fun h3=>z8b fun r hr=>h r (hr.trans ⟨fun h4=> ?_,fun e=>by rw[e]⟩)) fun h=>no fun e=>h (by rw[e])) fun h=>no fun e=>h (by rw[e])) fun h=>no fun e=>h (by rw[e])
 cases a;cases b;simp_all
theorem q7h{a b:List Val}{K:Bool->Prop}(h: ∀r,(r=true↔a=b)->K r):J8 a b K:=by
 unfold J8 R5
 intro ha hb
 exact Cnd.mk (fun hl=>z0t (by omega) (fun x _ y _ K hK=>z5u hK) h) fun hl=>h _ ⟨fun h=>(by cases h),fun e=>by rw[e] at hl;exact absurd rfl hl⟩
theorem Uu{e:Ex}:Ex.mk e.op e.kind e.name e.values e.kids=e:=by cases e;rfl
theorem q9x: ∀(n:Nat) {a b:Ex} {K:Bool->Prop},ExS n a->(∀r,(r=true↔a=b)->K r)->Ge a b K:=by
 intro n a b K ha h X hX
 induction n using Nat.strongRecOn generalizing a b K with
 |_ n ih=>
 refine hX _ _ _ ?_
 unfold q1n
 have no:(a≠b)->K false:=fun hn=>h _ ⟨fun h=>(by cases h),fun e=>absurd e hn⟩
 refine Cnd.mk (fun h1=>Cnd.mk (fun h2=>Cnd.mk (fun h3=>q7h fun r hr=>Cnd.mk (fun hc _ _=>Cnd.mk (fun hl=> ?_) fun h=>no fun e=>h (by rw[e])) fun hc=>no fun e=>hc (hr.2 (by rw[e]))) fun h=>no fun e=>h (by rw[e])) fun h=>no fun e=>h (by rw[e])) fun h=>no fun e=>h (by rw[e])
 have h4:=hr.1 hc
 refine z0t (by omega) (fun x hx y _ K hK=> ?_) fun r hr=>h r (hr.trans ⟨fun h5=> ?_,fun e=>by rw[e]⟩)
 ·obtain⟨m,hm,hk⟩:=ha.kid hx
  rw[Uu,Uu]
  exact ih m (by omega) hk hK
 ·cases a;cases b;simp_all
theorem q87(n:Nat){a b:Ex}{K:Bool->Prop}(ha:ExS n a)(h: ∀r,(r=true↔a=b)->K r):Ge (Ex.mk a.1 a.2 a.3 a.4 a.5) (Ex.mk b.1 b.2 b.3 b.4 b.5) K:=by
 rw[Uu,Uu];exact q9x n ha h
theorem q62{n:Nat}{l:List Ex}{e:Ex}{K:Int->Prop}(hl: ∀x∈l,ExS n x)(h: ∀r:Int,(r= -1/\e∉l)∨(0<=r/\l[r.toNat]? =some e/\e∉l.take r.toNat)->K r):J1 l e K:=by
 unfold J1 q35
 refine Lp1.ind (fun (i:Int)=>0<=i/\i<=l.length/\e∉l.take i.toNat) (fun (i:Int)=>(l.length - i).toNat) ?_ ⟨by omega,by omega,by simp⟩
 rintro i ⟨i0,i1,he⟩ _
 refine Cnd.mk (fun hc=>⟨by omega,fun x hx=>q87 n (hl x (getm hx)) fun r hr=>Cnd.mk (fun hc=>h _ (.inr ⟨i0,by rw[hx,hr.1 hc],he⟩)) fun hc=>⟨by unfold InI;omega,⟨by omega,by omega,?_⟩,by omega⟩⟩) fun hc=>h _ (.inl ⟨rfl,?_⟩)
 ·rw[show (i+1).toNat=i.toNat+1 by omega,List.take_add_one,hx]
  have:e≠x:=fun e=>hc (hr.2 e.symm)
  simp[he,this]
 ·rwa [List.take_of_length_le (by omega)] at he
theorem z4i{op:Int}{K:Bool->Prop}(h: ∀r,(r=true↔6<=op/\op<=15)->K r):G0 op K:=by
 unfold G0
 exact Cnd.mk (fun h6=>h _ ⟨fun a=>⟨h6,of_decide_eq_true a⟩,fun a=>decide_eq_true a.2⟩) fun h6=>h _ ⟨fun a=>(by cases a),fun a=>absurd a.1 h6⟩
end Go.En
end
noncomputable section
set_option maxRecDepth 100000
namespace Go.En
open Go Go.Fl Go.Fx Go.Dg
theorem z0u{ns:List Nd}{id:Int}{y:Nd}(h:ns[id.toNat]? =some y):nd ns id=y:=by
 simp[nd,List.getD_eq_getElem?_getD,h]
theorem q3x{ns:List Nd}{ids:Nd->Option Int}{full:Bool}{id:Int}{K:Bool->List Nd->(Nd->Option Int)->Bool->Prop}(h:K (decide (Ok ns id)) ns ids full):Wv ns ids full id K:=by
 unfold Wv
 refine⟨fun h1 _=> ?_,fun h1=> ?_⟩
 ·have:decide (id<(ns.length:Int))=decide (Ok ns id):=decide_eq_decide.2 ⟨fun a=>⟨h1,a⟩,fun a=>a.2⟩
  rw[this];exact h
 ·have:decide (Ok ns id)=false:=decide_eq_false fun a=>h1 a.1
  rw[this] at h;exact h
theorem q2x{ns:List Nd}{ids:Nd->Option Int}{full:Bool}{id:Int}{K:Int->List Nd->(Nd->Option Int)->Bool->Prop}(hi:Ok ns id)(h:K (top ns id) ns ids full):Z4 ns ids full id K:=by
 unfold Z4
 refine⟨fun hn=> ?_,fun hn=>⟨⟨by omega,hi.2⟩,fun y hy=> ?_⟩⟩
 ·simp only[top,if_pos hn] at h;exact h
 ·simp only[top,if_neg hn,z0u hy] at h;exact h
theorem q88{ns:List Nd}{ids:Nd->Option Int}{full:Bool}{id t:Int}{K:Int->Int->List Nd->(Nd->Option Int)->Bool->Prop}(hi:Ok ns id)(ht:t<=1000)(h:K (sd ns id t).1 (sd ns id t).2 ns ids full):Jb ns ids full id t K:=by
 unfold Jb
 refine q2x hi ⟨fun he=> ?_,fun he=> ?_⟩
 ·have h0: ¬id<0:=fun hn=>by simp only[top,if_pos hn] at he;omega
  refine⟨⟨by omega,hi.2⟩,fun y hy=>⟨⟨by omega,hi.2⟩,fun z hz=> ?_⟩⟩
  rw[hy] at hz
  cases hz
  simp only[sd,if_pos he,z0u hy] at h
  exact h
 ·simp only[sd,if_neg he] at h;exact h
theorem z63{ns:List Nd}{ids:Nd->Option Int}{full:Bool}{t y n:Int}{K:Int->List Nd->(Nd->Option Int)->Bool->Prop}(hl:ns.length<=4000)
  (h:K (node ns ids full t y n).1 (node ns ids full t y n).2.1 (node ns ids full t y n).2.2.1 (node ns ids full t y n).2.2.2):Zc ns ids full t y n K:=by
 unfold Zc
 by_cases hO:q2w ns t y n
 ·obtain⟨h1,h2,h3,h4,h5,h6⟩:=hO
  refine Cnd.no (by omega) (Cnd.no (by omega) (q3x (Cnd.yes (decide_eq_true h3) (q3x (Cnd.yes (decide_eq_true h4) (q2x h3 (Cnd.no (by omega) (q2x h4 (Cnd.no (by omega) ?_)))))))))
  rw[node,if_pos ⟨h1,h2,h3,h4,h5,h6⟩] at h
  refine⟨fun he=> ?_,fun he=> ?_⟩
  ·rw[if_pos he] at h;exact h
  rw[if_neg he] at h
  cases hid:ids (t,y,n) with
  |some id=>rw[hid] at h;exact Cnd.yes rfl h
  |none=>
   rw[hid] at h
   refine Cnd.no (by simp) fun _=>⟨fun hf=> ?_,fun hf=> ?_⟩
   ·rw[if_pos (by omega)] at h;exact h
   rw[if_neg (by omega)] at h
   have hlen:((ns++[(t,y,n)]).length:Int)=ns.length+1:=by simp
   have e1:((ns++[(t,y,n)]).length:Int) - 1=ns.length:=by omega
   have hs:Sml (ns++[(t,y,n)]).length:=by unfold Sml;simp;omega
   have hi:InI (((ns++[(t,y,n)]).length:Int) - 1):=by constructor<;>omega
   exact fun _=>⟨hs,fun _=>⟨hi,by rw[e1];exact h⟩⟩
 ·rw[z61 hO] at h
  refine⟨fun _=>h,fun h1=>⟨fun _=>h,fun h2=>q3x ⟨fun h3=>q3x ⟨fun h4=>q2x (of_decide_eq_true h3) ⟨fun _=>h,fun h5=>q2x (of_decide_eq_true h4) ⟨fun _=>h,fun h6=> ?_⟩⟩,fun _=>h⟩,fun _=>h⟩⟩⟩
  exact absurd ⟨by omega,by omega,of_decide_eq_true h3,of_decide_eq_true h4,by omega,by omega⟩ hO
theorem z4j{X:List Nd->(Nd->Option Int)->Bool->Int->Int->Int->(Nd->Option Int)->(Int->List Nd->(Nd->Option Int)->Bool->(Nd->Option Int)->Prop)->Prop}{ns:List Nd}{ids:Nd->Option Int}{full:Bool}{f g h:Int}{m:Nd->Option Int}{K:Int->List Nd->(Nd->Option Int)->Bool->(Nd->Option Int)->Prop}(hI:Inv ns ids)(hl:ns.length<=4000)(_:Ok ns f)(hg:Ok ns g)(hh:Ok ns h)(hc:Cond ns f)(hm:Kn ns m)(hn:f<0)
  (hK: ∀r ns' ids' full' m',Cho ns ids full f g h r ns' ids' full'->Kn ns' m'->K r ns' ids' full' m'):Wb Z4 Jb Zc X ns ids full f g h m K:=by
 have hc0:=hc fun _=>true
 rw[Zd hn] at hc0
 have mk: ∀r,((f= -2/\r=g)∨(f= -1/\r=h))->Cho ns ids full f g h r ns ids full:=by
  rintro r hr
  refine Cho.stay hI hl (.inr ?_)
  rcases hr with ⟨h1,rfl⟩|⟨h1,rfl⟩
  ·exact⟨hg,fun v=>by rw[Zd (id:=f) hn,if_pos (by omega)],by unfold mtop;omega⟩
  ·exact⟨hh,fun v=>by rw[Zd (id:=f) hn,if_neg (by omega)],by unfold mtop;omega⟩
 unfold Wb
 refine⟨fun he=>hK _ _ _ _ _ (mk g (.inl ⟨he,rfl⟩)) hm,fun he=>⟨fun hgh=> ?_,fun hgh=>⟨fun he'=>hK _ _ _ _ _ (mk h (.inr ⟨he',rfl⟩)) hm,fun he'=>absurd hc0 (by omega)⟩⟩⟩
 exact hK _ _ _ _ _ (mk g (.inr ⟨by omega,hgh⟩)) hm
theorem z8c: ∀(ns:List Nd) (ids:Nd->Option Int) (full:Bool) (f g h:Int) (m:Nd->Option Int) (K:Int->List Nd->(Nd->Option Int)->Bool->(Nd->Option Int)->Prop),Inv ns ids->ns.length<=4000->Ok ns f->Ok ns g->Ok ns h->Cond ns f->Kn ns m->
  (∀r ns' ids' full' m',Cho ns ids full f g h r ns' ids' full'->Kn ns' m'->K r ns' ids' full' m')->Vx ns ids full f g h m K:=by
 intro ns ids full f g h m K hI hl hf hg hh hc hm hK X hX
 have key: ∀(k:Nat) (ns:List Nd) (ids:Nd->Option Int) (full:Bool) (f g h:Int) (m:Nd->Option Int) (K:Int->List Nd->(Nd->Option Int)->Bool->(Nd->Option Int)->Prop),(1001 - mtop ns f g h).toNat<=k->Inv ns ids->ns.length<=4000->Ok ns f->Ok ns g->Ok ns h->Cond ns f->Kn ns m->
   (∀r ns' ids' full' m',Cho ns ids full f g h r ns' ids' full'->Kn ns' m'->K r ns' ids' full' m')->X ns ids full f g h m K:=by
  intro k
  induction k with
  |zero=>
   intro ns ids full f g h m K hk hI hl hf hg hh hc hm hK
   refine hX _ _ _ _ _ _ _ _ ?_
   have ht:=(q3v hI.nod hf.2)
   have hn:f<0:=by
    refine Int.not_le.1 fun h0=> ?_
    have:=ht.2.2 h0
    unfold mtop at hk;omega
   exact z4j hI hl hf hg hh hc hm hn hK
  |succ k ih=>
   intro ns ids full f g h m K hk hI hl hf hg hh hc hm hK
   refine hX _ _ _ _ _ _ _ _ ?_
   by_cases hn:f<0
   ·exact z4j hI hl hf hg hh hc hm hn hK
   have same: ∀r,(g=h/\r=g)->Cho ns ids full f g h r ns ids full:=by
    rintro r ⟨rfl,rfl⟩
    exact Cho.stay hI hl (.inr ⟨hg,fun v=>by simp,by unfold mtop;omega⟩)
   unfold Wb
   refine Cnd.no (by omega) ⟨fun hgh=>hK _ _ _ _ _ (same g ⟨hgh,rfl⟩) hm,fun hgh=>Cnd.no (by omega) ⟨fun hs=> ?_,fun _=> ?_⟩⟩
   ·obtain⟨id,hid⟩:=Option.isSome_iff_exists.1 hs
    rw[hid]
    refine hK _ _ _ _ _ (Cho.stay hI hl ?_) hm
    rcases hm f g h id hid with h1|⟨_,_,_,h4,h5,h6⟩
    ·exact .inl h1
    ·exact .inr ⟨h4,h5,h6⟩
   have t0:=q3v hI.nod hf.2
   have t1:=q3v hI.nod hg.2
   have t2:=q3v hI.nod hh.2
   have hft:=t0.2.2 (by omega)
   have ht:mtop ns f g h<=1000:=by unfold mtop;omega
   have ht0:0<=mtop ns f g h:=by unfold mtop;omega
   refine q2x hf (q2x hg (q2x hh ?_))
   rw[show min (min (top ns f) (top ns g)) (top ns h)=mtop ns f g h from rfl]
   refine q88 hf ht (q88 hg ht (q88 hh ht ?_))
   obtain⟨fa,fb,fc,fd,fe⟩:=q5m hI.nod hf ht (by unfold mtop;omega)
   obtain⟨ga,gb,gc,gd,ge⟩:=q5m hI.nod hg ht (by unfold mtop;omega)
   obtain⟨ha,hb,hc',hd,he⟩:=q5m hI.nod hh ht (by unfold mtop;omega)
   have cy:Cond ns (sd ns f (mtop ns f g h)).1:=fun v=>by
    have:=hc (setB v (mtop ns f g h) true)
    rw[fe] at this
    simp only[setB,if_true] at this
    rw[q3w hI.nod fa fc] at this
    exact this
   have cn:Cond ns (sd ns f (mtop ns f g h)).2:=fun v=>by
    have:=hc (setB v (mtop ns f g h) false)
    rw[fe] at this
    simp only[setB,if_true,Bool.false_eq_true,if_false] at this
    rw[q3w hI.nod fb fd] at this
    exact this
   have hty:mtop ns f g h<mtop ns (sd ns f (mtop ns f g h)).1 (sd ns g (mtop ns f g h)).1 (sd ns h (mtop ns f g h)).1:=by
    show _<min (min _ _) _;omega
   have htn:mtop ns f g h<mtop ns (sd ns f (mtop ns f g h)).2 (sd ns g (mtop ns f g h)).2 (sd ns h (mtop ns f g h)).2:=by
    show _<min (min _ _) _;omega
   refine ih _ _ _ _ _ _ _ _ (by omega) hI hl fa ga ha cy hm fun r1 ns1 ids1 full1 m1 C1 hm1=> ?_
   have hp1:=C1.grew.pre
   have hN1:=C1.grew.inv.nod
   have htn1:mtop ns1 (sd ns f (mtop ns f g h)).2 (sd ns g (mtop ns f g h)).2 (sd ns h (mtop ns f g h)).2=mtop ns (sd ns f (mtop ns f g h)).2 (sd ns g (mtop ns f g h)).2 (sd ns h (mtop ns f g h)).2:=z0r hp1 fb gb hb
   refine ih _ _ _ _ _ _ _ _ (by rw[htn1];omega) C1.grew.inv C1.grew.len (fb.pre hp1) (gb.pre hp1) (hb.pre hp1) (fun v=>by rw[Ze hI.nod hN1 hp1 fb];exact cn v) hm1 fun r2 ns2 ids2 full2 m2 C2 hm2=> ?_
   have hp2:=C2.grew.pre
   have hN2:=C2.grew.inv.nod
   have hp:=hp1.trans hp2
   have few2: ∀b,Tb ns b->Tb ns2 b/\ns2.length+2<=ns.length+2 ^ (b - mtop ns f g h).toNat:=fun b hb0=>by
    obtain⟨a1,a2⟩:=C1.few b hb0
    obtain⟨a3,a4⟩:=C2.few b a1
    rw[htn1] at a4
    have hlt:mtop ns f g h<b:=by
     have hq:=hb0 f (by omega) hf.2
     have:top ns f=(nd ns f).1:=by simp only[top,if_neg hn]
     unfold mtop;omega
    refine⟨a3,?_⟩
    have e:2 ^ (b - mtop ns f g h).toNat=2*2 ^ (b - mtop ns f g h - 1).toNat:=by
     rw[show (b - mtop ns f g h).toNat=(b - mtop ns f g h - 1).toNat+1 by omega,Nat.pow_succ];omega
    have p1:=Nat.pow_le_pow_right (show 0<2 by omega) (show (b - mtop ns (sd ns f (mtop ns f g h)).1 (sd ns g (mtop ns f g h)).1 (sd ns h (mtop ns f g h)).1).toNat<=(b - mtop ns f g h - 1).toNat by omega)
    have p2:=Nat.pow_le_pow_right (show 0<2 by omega) (show (b - mtop ns (sd ns f (mtop ns f g h)).2 (sd ns g (mtop ns f g h)).2 (sd ns h (mtop ns f g h)).2).toNat<=(b - mtop ns f g h - 1).toNat by omega)
    omega
   have gr2:Grew ns ids full 4000 ns2 ids2 full2:=by
    have:=C1.grew.trans C2.grew (Nat.le_refl _)
    exact⟨this.inv,this.pre,this.len,this.room,by have:=this.len;omega⟩
   have sid:=Sid.two hI.nod hf hg hh ht C1 C2
   have bad:ns2.length=4000->Cho ns ids full f g h (-1002) ns2 ids2 full2:=fun hb0=>⟨gr2,fun b hb1=>⟨(few2 b hb1).1,by have:=(few2 b hb1).2;omega⟩,.inl ⟨rfl,hb0⟩,fun S d1 d2 d3=>by have:=sid.dep S d1 d2 d3;omega,sid.cof⟩
   have full1:r1= -1002->ns2.length=4000:=fun e=>by
    rcases C1.res with h1|h1
    ·have:=hp2.length_le
     have:=C2.grew.len
     omega
    ·have:=h1.1.1;omega
   have full2':r2= -1002->ns2.length=4000:=fun e=>by
    rcases C2.res with h1|h1
    ·exact h1.2
    ·have:=h1.1.1;omega
   have hbad:ns2.length=4000->Kn ns2 (Fl.put m2 (f,g,h) (-1002)):=fun hb0=>hm2.put (.inl ⟨rfl,hb0⟩)
   refine Jn4.mk (fun a b c d=>K a b d c (put m2 (f,g,h) a)) ?_ fun _ _ _ _ h=>h
   refine⟨fun e1=>hK _ _ _ _ _ (bad (full1 e1)) (hbad (full1 e1)),fun e1=>⟨fun e2=>hK _ _ _ _ _ (bad (full2' e2)) (hbad (full2' e2)),fun e2=> ?_⟩⟩
   have o1:Ok ns1 r1/\Cse ns1 (sd ns f (mtop ns f g h)).1 (sd ns g (mtop ns f g h)).1 (sd ns h (mtop ns f g h)).1 r1/\mtop ns (sd ns f (mtop ns f g h)).1 (sd ns g (mtop ns f g h)).1 (sd ns h (mtop ns f g h)).1<=top ns1 r1:=by
    rcases C1.res with h1|h1
    ·exact absurd h1.1 e1
    ·exact h1
   have o2:Ok ns2 r2/\Cse ns2 (sd ns f (mtop ns f g h)).2 (sd ns g (mtop ns f g h)).2 (sd ns h (mtop ns f g h)).2 r2/\mtop ns1 (sd ns f (mtop ns f g h)).2 (sd ns g (mtop ns f g h)).2 (sd ns h (mtop ns f g h)).2<=top ns2 r2:=by
    rcases C2.res with h1|h1
    ·exact absurd h1.1 e2
    ·exact h1
   have o1t:top ns2 r1=top ns1 r1:=q0f hp2 o1.1.2
   have hO:q2w ns2 (mtop ns f g h) r1 r2:=⟨ht0,ht,o1.1.pre hp2,o2.1,by rw[o1t];have:=o1.2.2;omega,by have:=o2.2.2;rw[htn1] at this;omega⟩
   refine z63 C2.grew.len ?_
   obtain⟨hg3,htb,hres⟩:=z16 C2.grew.inv C2.grew.len hO (r:=(node ns2 ids2 full2 (mtop ns f g h) r1 r2).1) (ns':=(node ns2 ids2 full2 (mtop ns f g h) r1 r2).2.1) (ids':=(node ns2 ids2 full2 (mtop ns f g h) r1 r2).2.2.1) (full':=(node ns2 ids2 full2 (mtop ns f g h) r1 r2).2.2.2) rfl
   have hne:node ns2 ids2 full2 (mtop ns f g h) r1 r2=((node ns2 ids2 full2 (mtop ns f g h) r1 r2).1,(node ns2 ids2 full2 (mtop ns f g h) r1 r2).2.1,(node ns2 ids2 full2 (mtop ns f g h) r1 r2).2.2.1,(node ns2 ids2 full2 (mtop ns f g h) r1 r2).2.2.2):=rfl
   generalize (node ns2 ids2 full2 (mtop ns f g h) r1 r2).1=r3 at hg3 htb hres hne
   generalize (node ns2 ids2 full2 (mtop ns f g h) r1 r2).2.1=ns3 at hg3 htb hres hne
   generalize (node ns2 ids2 full2 (mtop ns f g h) r1 r2).2.2.1=ids3 at hg3 htb hres hne
   generalize (node ns2 ids2 full2 (mtop ns f g h) r1 r2).2.2.2=full3 at hg3 htb hres hne
   have hp3:=hp.trans hg3.pre
   have hN3:=hg3.inv.nod
   have hr3:(r3= -1002/\ns3.length=4000)∨(Ok ns3 r3/\Cse ns3 f g h r3/\mtop ns f g h<=top ns3 r3):=by
    rcases hres with h1|⟨_,h1,h2,h3⟩
    ·exact .inl ⟨h1.1,h1.2.1⟩
    ·refine .inr ⟨h1,fun v=> ?_,h2⟩
     rw[h3,Ze hI.nod hN3 hp3 hf,Ze hI.nod hN3 hp3 hg,Ze hI.nod hN3 hp3 hh,fe,ge,he]
     cases v (mtop ns f g h) with
     |true=>
      simp only[if_true]
      rw[Ze hN1 hN2 hp2 o1.1,o1.2.1,Ze hI.nod hN1 hp1 fa,Ze hI.nod hN1 hp1 ga,Ze hI.nod hN1 hp1 ha]
     |false=>
      simp only[Bool.false_eq_true,if_false]
      rw[o2.2.1,Ze hI.nod hN2 hp fb,Ze hI.nod hN2 hp gb,Ze hI.nod hN2 hp hb]
   have hcho:Cho ns ids full f g h r3 ns3 ids3 full3:=by
    have sn:=Sid.node hI.nod hf hg hh sid hN2 hN3 hg3.pre hp3 hne hg3.most hr3
    refine⟨?_,fun b hb0=>⟨?_,?_⟩,hr3,sn.1,sn.2⟩
    ·have:=gr2.trans hg3 (Nat.le_refl _)
     exact⟨this.inv,this.pre,this.len,this.room,by have:=this.len;omega⟩
    ·have hlt:mtop ns f g h<b:=by
      have hq:=hb0 f (by omega) hf.2
      have:top ns f=(nd ns f).1:=by simp only[top,if_neg hn]
      unfold mtop;omega
     exact htb b (few2 b hb0).1 hlt
    ·have:=(few2 b hb0).2
     have:=hg3.most
     omega
   refine hK _ _ _ _ _ hcho (Kn.put (hm2.pre hN2 hN3 hg3.pre hg3.len) ?_)
   rcases hr3 with h1|⟨h1,h2,h3⟩
   ·exact .inl h1
   ·exact .inr ⟨hf.pre hp3,hg.pre hp3,hh.pre hp3,h1,h2,by rw[z0r hp3 hf hg hh];exact h3⟩
 exact key _ ns ids full f g h m K (Nat.le_refl _) hI hl hf hg hh hc hm hK
inductive Rch(ns:List Nd):Int->Int->Prop
 |self (a:Int):Rch ns a a
 |yes {a x:Int}:0<=a->Rch ns (nd ns a).2.1 x->Rch ns a x
 |no {a x:Int}:0<=a->Rch ns (nd ns a).2.2 x->Rch ns a x
theorem Rch.step{ns:List Nd}{a b c:Int}(h:Rch ns a b)(k:Rch ns b c):Rch ns a c:=by
 induction h with
 |self=>exact k
 |yes h0 _ ih=>exact .yes h0 (ih k)
 |no h0 _ ih=>exact .no h0 (ih k)
theorem kids{ns:List Nd}(hN:Nod ns){a:Int}(h:Ok ns a)(h0:0<=a):Ok ns (nd ns a).2.1/\Ok ns (nd ns a).2.2/\(nd ns a).2.1<a/\(nd ns a).2.2<a:=by
 have h2:=h.2
 obtain⟨_,_,a1,a2,a3,a4,_⟩:=hN.nod a h0 h.2
 exact⟨⟨a1,by omega⟩,⟨a3,by omega⟩,a2,a4⟩
theorem Rch.ok{ns:List Nd}(hN:Nod ns){a x:Int}(h:Rch ns a x):Ok ns a->Ok ns x:=by
 induction h with
 |self=>exact id
 |yes h0 _ ih=>exact fun h=>ih (kids hN h h0).1
 |no h0 _ ih=>exact fun h=>ih (kids hN h h0).2.1
def Tr(F:Int->Option Bool):Prop:= ∀x,F x=none∨F x=some true
theorem Tr.get{F:Int->Option Bool}(h:Tr F){x:Int}:(F x).getD false=true↔(F x).isSome=true:=by
 rcases h x with e|e<;>simp[e]
theorem Tr.nil:Tr fun _=>none:=fun _=> .inl rfl
theorem Tr.put{F:Int->Option Bool}(h:Tr F)(x:Int):Tr (put F x true):=fun y=>by
 unfold Fl.put
 split
 ·exact .inr rfl
 ·exact h y
theorem Zp{F:Int->Option Bool}{x y:Int}:(put F x true y).isSome=true↔y=x∨(F y).isSome=true:=by
 unfold Fl.put
 split
 ·rename_i h;simp[h]
 ·rename_i h;simp[h]
theorem Rch.sub{ns:List Nd}{F:Int->Option Bool}{id x:Int}(h:Rch ns id x)(i:(F id).isSome=true)(c: ∀x,(F x).isSome=true->0<=x->(F (nd ns x).2.1).isSome=true/\(F (nd ns x).2.2).isSome=true):(F x).isSome=true:=by
 induction h with
 |self=>exact i
 |yes h0 _ ih=>exact ih (c _ i h0).1
 |no h0 _ ih=>exact ih (c _ i h0).2
def Rc(ns:List Nd)(id:Int)(F:Int->Option Bool):Prop:=Tr F/\ ∀x,(F x).isSome=true↔Rch ns id x
def univ(ns:List Nd):List Int:=(List.range (ns.length+1001)).map fun (i:Nat)=>(i:Int) - 1001
def left(ns:List Nd)(F:Int->Option Bool):Nat:=(univ ns).countP fun x=>(F x).isNone
theorem z64{ns:List Nd}{x:Int}(h:Ok ns x):x∈univ ns:=by
 obtain⟨h1,h2⟩:=h
 exact List.mem_map.2 ⟨(x+1001).toNat,List.mem_range.2 (by omega),by omega⟩
theorem j06{l:List Int}{F:Int->Option Bool}{x:Int}(hx:x∈l)(hn:F x=none):(l.countP fun y=>(put F x true y).isNone)<l.countP fun y=>(F y).isNone:=by
 induction l with
 |nil=>cases hx
 |cons a l ih=>
  have le:(l.countP fun y=>(put F x true y).isNone)<=l.countP fun y=>(F y).isNone:=by
   refine List.countP_mono_left fun y _ h=> ?_
   unfold Fl.put at h
   split at h
   ·cases h
   ·exact h
  rw[List.countP_cons,List.countP_cons]
  by_cases ha:a=x
  ·subst ha
   simp only[Fl.put,if_true,Option.isNone_some,Bool.false_eq_true,if_false,hn,Option.isNone_none]
   simp only[Fl.put] at le
   omega
  ·have:=ih ((List.mem_cons.1 hx).resolve_left fun e=>ha e.symm)
   have e:put F x true a=F a:=by simp[Fl.put,ha]
   rw[e]
   omega
theorem j30{ns:List Nd}{F:Int->Option Bool}{x:Int}(h:Ok ns x)(hn:F x=none):left ns (put F x true)<left ns F:=j06 (z64 h) hn
theorem j65{ns:List Nd}{F:Int->Option Bool}:left ns F<=ns.length+1001:=by
 have:=List.countP_le_length (p:=fun x=>(F x).isNone) (l:=univ ns)
 simpa [left,univ] using this
theorem j07{ns:List Nd}{ids:Nd->Option Int}{full:Bool}{id:Int}{K:(Int->Option Bool)->List Nd->(Nd->Option Int)->Bool->Prop}(hN:Nod ns)(hl:ns.length<=4000)(hid:Ok ns id)(h: ∀F,Rc ns id F->K F ns ids full):
  Ug ns ids full id K:=by
 unfold Ug
 refine Lp2.ind (fun todo F=>Tr F/\(∀x∈todo,Ok ns x/\Rch ns id x)/\(∀x,(F x).isSome=true->Ok ns x/\Rch ns id x)/\((F id).isSome=true∨id∈todo)/\
  (∀x,(F x).isSome=true->0<=x->((F (nd ns x).2.1).isSome=true∨(nd ns x).2.1∈todo)/\((F (nd ns x).2.2).isSome=true∨(nd ns x).2.2∈todo))/\todo.length+3*left ns F<=15004)
  (fun todo F=>todo.length+3*left ns F) (fun todo F hI _=> ?_) ⟨Tr.nil,by simpa using ⟨hid,.self _⟩,by simp,.inr (by simp),by simp,by have:=j65 (ns:=ns) (F:=fun _=>none);simp;omega⟩
 obtain⟨i1,i2,i3,i4,i5,i6⟩:=hI
 refine⟨fun hpos=>fun _=>⟨⟨by omega,by omega⟩,⟨by omega,by omega⟩,fun y hy _=>⟨⟨by omega,by omega⟩,⟨by omega,by omega⟩,?_⟩⟩,fun hpos=> ?_⟩
 ·have ht:((todo.length:Int) - 1).toNat=todo.length - 1:=by omega
  rw[ht] at hy⊢
  have hne:todo≠[]:=fun e=>by subst e;simp at hpos
  have hsp:todo=todo.take (todo.length - 1)++[y]:=by
   have h1:todo.getLast hne=y:=by
    rw[List.getLast_eq_getElem]
    rw[List.getElem?_eq_getElem (by omega)] at hy
    exact Option.some.inj hy
   rw[←h1,←List.dropLast_eq_take,List.dropLast_concat_getLast]
  generalize hA:todo.take (todo.length - 1)=A at hsp⊢
  have hlen:todo.length=A.length+1:=by rw[hsp];simp
  obtain⟨hy1,hy2⟩:=i2 y (by rw[hsp];simp)
  have sub: ∀x,x∈todo->x∈A∨x=y:=fun x hx=>by rw[hsp] at hx;simpa using hx
  refine⟨fun hs=>⟨⟨i1,fun x hx=>i2 x (by rw[hsp];simp[hx]),i3,?_,fun x hx h0=> ?_,by omega⟩,by omega⟩,fun hs=> ?_⟩
  ·have hs:=(i1.get).1 hs
   rcases i4 with h|h
   ·exact .inl h
   ·rcases sub _ h with h|rfl
    ·exact .inr h
    ·exact .inl hs
  ·have hs:=(i1.get).1 hs
   obtain⟨a,b⟩:=i5 x hx h0
   refine⟨a.elim .inl fun h=> ?_,b.elim .inl fun h=> ?_⟩
   ·rcases sub _ h with h|h
    ·exact .inr h
    ·exact .inl (by rw[h];exact hs)
   ·rcases sub _ h with h|h
    ·exact .inr h
    ·exact .inl (by rw[h];exact hs)
  ·have hn:F y=none:=by
    rcases i1 y with e|e
    ·exact e
    ·rw[e] at hs;simp at hs
   have hlt:=j30 hy1 hn
   refine⟨fun h0=>⟨⟨h0,hy1.2⟩,fun z hz=>⟨⟨h0,hy1.2⟩,fun z' hz'=> ?_⟩⟩,fun h0=>⟨⟨i1.put y,fun x hx=>i2 x (by rw[hsp];simp[hx]),fun x hx=> ?_,?_,fun x hx hx0=> ?_,by omega⟩,by omega⟩⟩
   ·rw[hz] at hz'
    cases hz'
    have ez:=z0u hz
    obtain⟨k1,k2,_⟩:=kids hN hy1 h0
    rw[ez] at k1 k2
    refine⟨by unfold Sml;simp;omega,⟨i1.put y,fun x hx=> ?_,fun x hx=> ?_,?_,fun x hx hx0=> ?_,by simp;omega⟩,by simp;omega⟩
    ·simp only[List.mem_append,List.mem_cons,List.not_mem_nil,or_false] at hx
     rcases hx with hx|rfl|rfl
     ·exact i2 x (by rw[hsp];simp[hx])
     ·exact⟨k1,hy2.step (.yes h0 (by rw[ez];exact .self _))⟩
     ·exact⟨k2,hy2.step (.no h0 (by rw[ez];exact .self _))⟩
    ·rcases Zp.1 hx with rfl|hx
     ·exact⟨hy1,hy2⟩
     ·exact i3 x hx
    ·rcases i4 with h|h
     ·exact .inl (Zp.2 (.inr h))
     ·rcases sub _ h with h|rfl
      ·exact .inr (by simp[h])
      ·exact .inl (Zp.2 (.inl rfl))
    ·have mv: ∀q,(F q).isSome=true∨q∈todo->(put F y true q).isSome=true∨q∈A++[z.2.1,z.2.2]:=fun q hq=>by
      rcases hq with h|h
      ·exact .inl (Zp.2 (.inr h))
      ·rcases sub _ h with h|rfl
       ·exact .inr (by simp[h])
       ·exact .inl (Zp.2 (.inl rfl))
     rcases Zp.1 hx with rfl|hx
     ·rw[ez];exact⟨.inr (by simp),.inr (by simp)⟩
     ·obtain⟨a,b⟩:=i5 x hx hx0
      exact⟨mv _ a,mv _ b⟩
   ·rcases Zp.1 hx with rfl|hx
    ·exact⟨hy1,hy2⟩
    ·exact i3 x hx
   ·rcases i4 with h|h
    ·exact .inl (Zp.2 (.inr h))
    ·rcases sub _ h with h|rfl
     ·exact .inr h
     ·exact .inl (Zp.2 (.inl rfl))
   ·have mv: ∀q,(F q).isSome=true∨q∈todo->(put F y true q).isSome=true∨q∈A:=fun q hq=>by
     rcases hq with h|h
     ·exact .inl (Zp.2 (.inr h))
     ·rcases sub _ h with h|rfl
      ·exact .inr h
      ·exact .inl (Zp.2 (.inl rfl))
    rcases Zp.1 hx with rfl|hx
    ·exact absurd hx0 h0
    ·obtain⟨a,b⟩:=i5 x hx hx0
     exact⟨mv _ a,mv _ b⟩
 ·have hnil:todo=[]:=List.eq_nil_of_length_eq_zero (by omega)
  subst hnil
  refine h F ⟨i1,fun x=>⟨fun hx=>(i3 x hx).2,fun hx=> ?_⟩⟩
  have i4:(F id).isSome=true:=i4.resolve_right (by simp)
  exact hx.sub i4 fun x hx h0=>⟨(i5 x hx h0).1.resolve_right (by simp),(i5 x hx h0).2.resolve_right (by simp)⟩
theorem z18{α:Type}[DecidableEq α]{l l':List α}(h:l.Nodup)(hs: ∀x∈l,x∈l'):l.length<=l'.length:=by
 induction l generalizing l' with
 |nil=>simp
 |cons a l ih=>
  rw[List.nodup_cons] at h
  have:=ih (l':=l'.erase a) h.2 fun x hx=>by
   have hne:x≠a:=fun e=>h.1 (e▸hx)
   exact (List.mem_erase_of_ne hne).2 (hs x (by simp[hx]))
  rw[List.length_erase_of_mem (hs a (by simp))] at this
  have hp:=List.length_pos_of_mem (hs a (by simp))
  simp only[List.length_cons]
  omega
def Lvs(ns:List Nd)(id:Int)(l:List Int):Prop:=l.Pairwise (· < ·)/\ ∀n,n∈l↔Ok ns id/\0<=n/\Rch ns id (-1 - n)
theorem z8d{ns:List Nd}{ids:Nd->Option Int}{full:Bool}{id:Int}{K:List Int->List Nd->(Nd->Option Int)->Bool->Prop}(hN:Nod ns)(hl:ns.length<=4000)(h: ∀l,Lvs ns id l->K l ns ids full):Vw ns ids full id K:=by
 unfold Vw
 by_cases hid:Ok ns id
 ·refine q3x (Cnd.yes (decide_eq_true hid) (j07 hN hl hid fun F hF=> ?_))
  refine Lp2.ind (fun l n=>0<=n/\n<=1001/\l.length<=n/\l.Pairwise (· < ·)/\ ∀x,x∈l↔0<=x/\x<n/\Rch ns id (-1 - x)) (fun _ n=>(1001 - n).toNat) (fun l n hI=> ?_) ⟨by omega,by omega,by simp,by simp,fun x=>by simp;omega⟩
  obtain⟨h0,h1,h2,h3,h4⟩:=hI
  refine⟨fun hn=>⟨⟨by omega,by omega⟩,fun hs=> ?_,fun hs=> ?_⟩,fun hn=> ?_⟩
  ·have hs:=(hF.2 _).1 ((hF.1.get).1 hs)
   refine⟨by unfold Sml;simp;omega,⟨by omega,by omega⟩,⟨by omega,by omega,by simp;omega,?_,fun x=> ?_⟩,by omega⟩
   ·rw[List.pairwise_append]
    exact⟨h3,by simp,fun a ha b hb=>by simp at hb;subst hb;exact ((h4 a).1 ha).2.1⟩
   ·simp only[List.mem_append,List.mem_singleton,h4]
    constructor
    ·rintro (⟨a,b,c⟩|rfl)
     ·exact⟨a,by omega,c⟩
     ·exact⟨h0,by omega,hs⟩
    ·rintro⟨a,b,c⟩
     by_cases hx:x=n
     ·exact .inr hx
     ·exact .inl ⟨a,by omega,c⟩
  ·have hs: ¬Rch ns id (-1 - n):=fun hr=>hs ((hF.1.get).2 ((hF.2 _).2 hr))
   refine⟨⟨by omega,by omega⟩,⟨by omega,by omega,by omega,h3,fun x=> ?_⟩,by omega⟩
   rw[h4]
   constructor
   ·rintro⟨a,b,c⟩;exact⟨a,by omega,c⟩
   ·rintro⟨a,b,c⟩
    refine⟨a,?_,c⟩
    by_cases hx:x=n
    ·subst hx;exact absurd c hs
    ·omega
  ·refine h l ⟨h3,fun x=> ?_⟩
   rw[h4]
   constructor
   ·rintro⟨a,_,c⟩;exact⟨hid,a,c⟩
   ·rintro⟨_,a,c⟩
    have:=(c.ok hN hid).1
    exact⟨a,by omega,c⟩
 ·exact q3x (Cnd.no (by simpa using hid) (h [] ⟨by simp,fun n=>by simp[hid]⟩))
theorem z65{ns:List Nd}(hN:Nod ns){id:Int}(hid:Ok ns id)(n:Int)(hn:0<=n):Rch ns id (-1 - n)↔ ∃v,ev ns v id=n:=by
 constructor
 ·intro h
  generalize hx: -1 - n=x at h
  induction h with
  |self a=>exact⟨fun _=>true,by rw[Zd (by omega)];omega⟩
  | @yes a x h0 _ ih=>
   obtain⟨v,hv⟩:=ih (kids hN hid h0).1 hx
   exact⟨setB v (nd ns a).1 true,by rw[z4g hN h0 hid.2];exact hv⟩
  | @no a x h0 _ ih=>
   obtain⟨v,hv⟩:=ih (kids hN hid h0).2.1 hx
   exact⟨setB v (nd ns a).1 false,by rw[j03 hN h0 hid.2];exact hv⟩
 ·rintro⟨v,hv⟩
  revert hv
  refine ind hN (p:=fun id=>ev ns v id=n->Rch ns id (-1 - n)) (fun id h1 h2 he=> ?_) (fun id h1 h2 i1 i2 he=> ?_) hid
  ·rw[Zd h2] at he
   rw[show -1 - n=id by omega];exact .self _
  ·rw[G5 hN h1 h2] at he
   split at he
   ·exact .yes h1 (i1 he)
   ·exact .no h1 (i2 he)
theorem j08{ns:List Nd}(hN:Nod ns){id:Int}(hid:Ok ns id)(v:Int->Bool):0<=ev ns v id:=by
 refine ind hN (p:=fun id=>0<=ev ns v id) (fun id h1 h2=> ?_) (fun id h1 h2 i1 i2=> ?_) hid
 ·rw[Zd h2];omega
 ·rw[G5 hN h1 h2];split<;>assumption
theorem z66{ns:List Nd}(hN:Nod ns){id:Int}(hid:Ok ns id){l:List Int}(hl:Lvs ns id l):Cond ns id↔ ∀n∈l,n<=1:=by
 constructor
 ·intro h n hn
  obtain⟨_,h0,hr⟩:=(hl.2 n).1 hn
  obtain⟨v,hv⟩:=(z65 hN hid n h0).1 hr
  have:=h v
  omega
 ·intro h v
  have h0:=j08 hN hid v
  have:=h (ev ns v id) ((hl.2 _).2 ⟨hid,h0,(z65 hN hid _ h0).2 ⟨v,rfl⟩⟩)
  omega
def OpR(p:Prop)(ns:List Nd)(ids:Nd->Option Int)(full:Bool)(f g h r:Int)(ns':List Nd)(ids':Nd->Option Int)(full':Bool):Prop:=
 (p/\Cho ns ids full f g h r ns' ids' full')∨(¬p/\r= -1002/\ns'=ns/\ids'=ids/\full'=full)
def ChR(ns:List Nd)(ids:Nd->Option Int)(full:Bool)(f g h r:Int)(ns':List Nd)(ids':Nd->Option Int)(full':Bool):Prop:=
 (Ok ns f/\Cond ns f/\Ok ns g/\Ok ns h/\Cho ns ids full f g h r ns' ids' full')∨(¬(Ok ns f/\Cond ns f/\Ok ns g/\Ok ns h)/\r= -1002/\ns'=ns/\ids'=ids/\full'=full)
theorem z19{ns:List Nd}{ids:Nd->Option Int}{full:Bool}{id:Int}{K:Bool->List Nd->(Nd->Option Int)->Bool->Prop}(hN:Nod ns)(hl:ns.length<=4000)(h: ∀b,(b=true↔Ok ns id/\Cond ns id)->K b ns ids full):Zw ns ids full id K:=by
 unfold Zw
 by_cases hid:Ok ns id
 ·refine q3x (Cnd.yes (decide_eq_true hid) (z8d hN hl fun l hL=> ?_))
  have hc:=z66 hN hid hL
  refine Lp1.ind (fun i:Int=>0<=i/\i<=l.length/\ ∀j:Nat,j<i.toNat-> ∀n,l[j]? =some n->n<=1) (fun i:Int=>l.length - i.toNat) (fun i hi hlen=> ?_) ⟨by omega,by omega,fun j hj=>by omega⟩
  obtain⟨h0,h1,h2⟩:=hi
  refine⟨fun hlt=>⟨⟨h0,hlt⟩,fun y hy=>⟨fun h3=>h false ⟨fun e=>(by cases e),fun a=> ?_⟩,fun h3=>⟨⟨by omega,by omega⟩,⟨by omega,by omega,fun j hj n hn=> ?_⟩,by omega⟩⟩⟩,fun hlt=>h true ⟨fun _=>⟨hid,hc.2 fun n hn=> ?_⟩,fun _=>rfl⟩⟩
  ·have:=hc.1 a.2 y (List.mem_of_getElem? hy);omega
  ·by_cases hji:j=i.toNat
   ·subst hji;rw[hy] at hn;cases hn;omega
   ·exact h2 j (by omega) n hn
  ·obtain⟨j,hj⟩:=List.mem_iff_getElem?.1 hn
   exact h2 j (by have:=(List.getElem?_eq_some_iff.1 hj).1;omega) n hj
 ·exact q3x (Cnd.no (by simpa using hid) (h false ⟨fun e=>(by cases e),fun a=>absurd a.1 hid⟩))
theorem q6o{ns:List Nd}{ids:Nd->Option Int}{full:Bool}{f g h:Int}{K:Int->List Nd->(Nd->Option Int)->Bool->Prop}(hI:Inv ns ids)(hl:ns.length<=4000)
  (hK: ∀r ns' ids' full',ChR ns ids full f g h r ns' ids' full'->K r ns' ids' full'):Jg ns ids full f g h K:=by
 unfold Jg
 refine z19 hI.nod hl fun b hb=>⟨fun hbt=> ?_,fun hbt=> ?_⟩
 ·obtain⟨hf,hc⟩:=hb.1 hbt
  refine q3x ⟨fun hg=>q3x ⟨fun hh=> ?_,fun hh=> ?_⟩,fun hg=> ?_⟩
  ·exact z8c _ _ _ _ _ _ _ _ hI hl hf (of_decide_eq_true hg) (of_decide_eq_true hh) hc (Kn.nil ns) fun r ns' ids' full' m' C _=>hK _ _ _ _ (.inl ⟨hf,hc,of_decide_eq_true hg,of_decide_eq_true hh,C⟩)
  ·exact hK _ _ _ _ (.inr ⟨fun a=>hh (decide_eq_true a.2.2.2),rfl,rfl,rfl,rfl⟩)
  ·exact hK _ _ _ _ (.inr ⟨fun a=>hg (decide_eq_true a.2.2.1),rfl,rfl,rfl,rfl⟩)
 ·exact hK _ _ _ _ (.inr ⟨fun a=>hbt (hb.2 ⟨a.1,a.2.1⟩),rfl,rfl,rfl,rfl⟩)
theorem j66{ns:List Nd}{ids:Nd->Option Int}{full:Bool}{f g:Int}{K:Int->List Nd->(Nd->Option Int)->Bool->Prop}(hI:Inv ns ids)(hl:ns.length<=4000)
  (hK: ∀r ns' ids' full',OpR (Ok ns f/\Cond ns f/\Ok ns g/\Cond ns g) ns ids full f g (-1) r ns' ids' full'->K r ns' ids' full'):J5 ns ids full f g K:=by
 unfold J5
 refine z19 hI.nod hl fun b hb=>⟨fun hbt=> ?_,fun hbt=> ?_⟩
 ·refine q6o hI hl fun r ns' ids' full' C=>hK _ _ _ _ ?_
  rcases C with ⟨a1,a2,a3,a4,a5⟩|⟨a1,a2⟩
  ·exact .inl ⟨⟨a1,a2,hb.1 hbt⟩,a5⟩
  ·exact .inr ⟨fun a=>a1 ⟨a.1,a.2.1,a.2.2.1,⟨by omega,by omega⟩⟩,a2⟩
 ·exact hK _ _ _ _ (.inr ⟨fun a=>hbt (hb.2 a.2.2),rfl,rfl,rfl,rfl⟩)
theorem j82{ns:List Nd}{ids:Nd->Option Int}{full:Bool}{f g:Int}{K:Int->List Nd->(Nd->Option Int)->Bool->Prop}(hI:Inv ns ids)(hl:ns.length<=4000)
  (hK: ∀r ns' ids' full',OpR (Ok ns f/\Cond ns f/\Ok ns g/\Cond ns g) ns ids full f (-2) g r ns' ids' full'->K r ns' ids' full'):Jw ns ids full f g K:=by
 unfold Jw
 refine z19 hI.nod hl fun b hb=>⟨fun hbt=> ?_,fun hbt=> ?_⟩
 ·refine q6o hI hl fun r ns' ids' full' C=>hK _ _ _ _ ?_
  rcases C with ⟨a1,a2,a3,a4,a5⟩|⟨a1,a2⟩
  ·exact .inl ⟨⟨a1,a2,hb.1 hbt⟩,a5⟩
  ·exact .inr ⟨fun a=>a1 ⟨a.1,a.2.1,⟨by omega,by omega⟩,a.2.2.1⟩,a2⟩
 ·exact hK _ _ _ _ (.inr ⟨fun a=>hbt (hb.2 a.2.2),rfl,rfl,rfl,rfl⟩)
theorem j67{ns:List Nd}{ids:Nd->Option Int}{full:Bool}{f:Int}{K:Int->List Nd->(Nd->Option Int)->Bool->Prop}(hI:Inv ns ids)(hl:ns.length<=4000)
  (hK: ∀r ns' ids' full',OpR (Ok ns f/\Cond ns f) ns ids full f (-1) (-2) r ns' ids' full'->K r ns' ids' full'):J4 ns ids full f K:=by
 unfold J4
 refine q6o hI hl fun r ns' ids' full' C=>hK _ _ _ _ ?_
 rcases C with ⟨a1,a2,a3,a4,a5⟩|⟨a1,a2⟩
 ·exact .inl ⟨⟨a1,a2⟩,a5⟩
 ·exact .inr ⟨fun a=>a1 ⟨a.1,a.2,⟨by omega,by omega⟩,⟨by omega,by omega⟩⟩,a2⟩
end Go.En
end
noncomputable section
set_option maxRecDepth 100000
namespace Go.En
open Go Go.Fl Go.Fl.Lk Go.Fx Go.Dg
structure Dgm(ns:List Nd)(F:(Int->Bool)->Bool)(S:List Int)(id:Int):Prop where
 ok:Ok ns id
 ev: ∀v,ev ns v id=if F v=true then 1 else 0
 dep: ∀v v':Int->Bool,(∀x∈S,v x=v' x)->F v=F v'
theorem Dgm.cond{ns:List Nd}{F:(Int->Bool)->Bool}{S:List Int}{id:Int}(h:Dgm ns F S id):Cond ns id:=fun v=>by
 rw[h.ev]
 cases F v
 ·exact .inl rfl
 ·exact .inr rfl
theorem Dgm.wide{ns:List Nd}{F:(Int->Bool)->Bool}{S S':List Int}{id:Int}(h:Dgm ns F S id)(hs: ∀x∈S,x∈S'):Dgm ns F S' id:=⟨h.ok,h.ev,fun v v' e=>h.dep v v' fun x hx=>e x (hs x hx)⟩
theorem Dgm.pre{ns ns':List Nd}{F:(Int->Bool)->Bool}{S:List Int}{id:Int}(h:Dgm ns F S id)(hN:Nod ns)(hN':Nod ns')(hp:ns<+:ns'):Dgm ns' F S id:=⟨h.ok.pre hp,fun v=>by rw[Ze hN hN' hp h.ok];exact h.ev v,h.dep⟩
theorem Dgm.tru{ns:List Nd}{S:List Int}:Dgm ns (fun _=>true) S (-2):=⟨⟨by omega,by omega⟩,fun v=>by rw[Zd (by omega)];rfl,fun _ _ _=>rfl⟩
theorem Dgm.fls{ns:List Nd}{S:List Int}:Dgm ns (fun _=>false) S (-1):=⟨⟨by omega,by omega⟩,fun v=>by rw[Zd (by omega)];rfl,fun _ _ _=>rfl⟩
theorem Dgm.dp{ns:List Nd}{F:(Int->Bool)->Bool}{S:List Int}{id:Int}(h:Dgm ns F S id):Dep S fun v=>Go.Dg.ev ns v id:=fun v v' e=>by
 show Go.Dg.ev ns v id=Go.Dg.ev ns v' id
 rw[h.ev,h.ev,h.dep v v' e]
theorem q89{n m:Nat}(h:n<=m):2 ^ n<=2 ^ m:=Nat.pow_le_pow_right (by omega) h
end Go.En
end
noncomputable section
set_option maxRecDepth 100000
namespace Go.En
open Go Go.Fl Go.Fl.Lk Go.Fx Go.Dg
theorem j09:Inv [] fun _=>none:=⟨⟨fun i h0 hl=>by simp at hl;omega,fun i j h0 hl=>by simp at hl;omega⟩,fun n id=>by simp;omega⟩
end Go.En
end
noncomputable section
set_option maxRecDepth 100000
namespace Go.En
open Go Go.Fl Go.Fl.Lk Go.Fx Go.Dg
mutual
def bev(L:Ex->Bool):Ex->Bool
 |⟨op,kind,name,values,kids⟩=>if op=1 then true else if op=2 then bevA L kids else if op=3 then bevO L kids else if op=4 then bevN L kids else L ⟨op,kind,name,values,kids⟩
def bevA(L:Ex->Bool):List Ex->Bool
 |[]=>true
 |k::l=>bev L k && bevA L l
def bevO(L:Ex->Bool):List Ex->Bool
 |[]=>false
 |k::l=>bev L k||bevO L l
def bevN(L:Ex->Bool):List Ex->Bool
 |[]=>false
 |k::_=> !(bev L k)
end
theorem j1a(L:Ex->Bool)(e:Ex):bev L e=if e.1=1 then true else if e.1=2 then bevA L e.5 else if e.1=3 then bevO L e.5 else if e.1=4 then bevN L e.5 else L e:=by
 cases e;rfl
mutual
def lvE:Ex->List Ex
 |⟨op,kind,name,values,kids⟩=>if op=1 then [] else if op=2∨op=3∨op=4 then lvEL kids else [⟨op,kind,name,values,kids⟩]
def lvEL:List Ex->List Ex
 |[]=>[]
 |k::l=>lvE k++lvEL l
end
theorem Bw(e:Ex):lvE e=if e.1=1 then [] else if e.1=2∨e.1=3∨e.1=4 then lvEL e.5 else [e]:=by
 cases e;rfl
theorem q5n{a:Ex}{l:List Ex}:a∈lvEL l↔ ∃k∈l,a∈lvE k:=by
 induction l with
 |nil=>simp[lvEL]
 |cons k l ih=>simp[lvEL,ih]
mutual
def cst:Ex->Nat
 |⟨op,_,_,_,kids⟩=>if op=1 then 0 else if op=2∨op=3∨op=4 then cstL kids+kids.length*2 ^ (lvEL kids).length else 1
def cstL:List Ex->Nat
 |[]=>0
 |k::l=>cst k+cstL l
end
theorem z0v(e:Ex):cst e=if e.1=1 then 0 else if e.1=2∨e.1=3∨e.1=4 then cstL e.5+e.5.length*2 ^ (lvEL e.5).length else 1:=by
 cases e;rfl
theorem z67(l m:List Ex):cstL (l++m)=cstL l+cstL m:=by
 induction l with
 |nil=>simp[cstL]
 |cons k l ih=>simp only[List.cons_append,cstL,ih];omega
theorem j1b(L:Ex->Bool)(l:List Ex)(k:Ex):bevA L (l++[k])=(bevA L l && bev L k):=by
 induction l with
 |nil=>simp[bevA]
 |cons a l ih=>simp only[List.cons_append,bevA,ih,Bool.and_assoc]
theorem j1c(L:Ex->Bool)(l:List Ex)(k:Ex):bevO L (l++[k])=(bevO L l||bev L k):=by
 induction l with
 |nil=>simp[bevO]
 |cons a l ih=>simp only[List.cons_append,bevO,ih,Bool.or_assoc]
open Classical in
def ixL:List Ex->Ex->Nat
 |[],_=>0
 |a::l,e=>if a=e then 0 else ixL l e+1
theorem j1d: ∀{l:List Ex} {r:Nat} {e:Ex},l[r]? =some e->e∉l.take r->ixL l e=r
 |[],r,e,h,_=>by simp at h
 |a::l,r,e,h,hn=>by
  cases r with
  |zero=>
   rw[List.getElem?_cons_zero] at h
   unfold ixL;rw[if_pos (Option.some.inj h)]
  |succ r=>
   rw[List.getElem?_cons_succ] at h
   rw[List.take_succ_cons,List.mem_cons,not_or] at hn
   unfold ixL
   rw[if_neg (fun e'=>hn.1 e'.symm),j1d h hn.2]
def lvs(ats:List Ex)(e:Ex):List Int:=(lvE e).map fun x=>(ixL ats x:Int)
def sem(ats:List Ex)(e:Ex)(v:Int->Bool):Bool:=bev (fun x=>v (ixL ats x)) e
end Go.En
end
noncomputable section
set_option maxRecDepth 100000
namespace Go.Sg
open Go
abbrev bts(s:ByteArray):List UInt8:=s.data.toList
theorem get!_of{s:ByteArray}{i:Nat}(h:i<s.size):(bts s)[i]? =some (s.get! i):=by
 have h':i<s.data.size:=h
 show s.data.toList[i]? =some (s.data[i]!)
 rw[Array.getElem?_toList,Array.getElem?_eq_getElem h',getElem!_pos s.data i h']
theorem j1e{s:ByteArray}{i:Nat}(h:(s.get! i).toNat<128):Utf8.decode s i=((s.get! i).toNat,1):=by
 unfold Utf8.decode
 simp only[Nat.add_zero]
 rw[if_pos h]
theorem j1f{s:ByteArray}{i:Nat}(h:128<=(s.get! i).toNat):128<=(Utf8.decode s i).1/\1<=(Utf8.decode s i).2/\ ∀k,k<(Utf8.decode s i).2->128<=(s.get! (i+k)).toNat:=by
 have k1: ∀k,k<1->128<=(s.get! (i+k)).toNat:=fun k hk=>by rw[show k=0 by omega];exact h
 have bad:128<=(Utf8.runeError,1).1/\1<=(Utf8.runeError,1).2/\ ∀k,k<(Utf8.runeError,1).2->128<=(s.get! (i+k)).toNat:=⟨by decide,by decide,k1⟩
 unfold Utf8.decode
 simp only[Nat.add_zero]
 rw[if_neg (by omega)]
 split
 ·rename_i hc
  simp only[Bool.and_eq_true,beq_iff_eq,decide_eq_true_eq] at hc
  split
  ·rename_i h2
   refine⟨h2,by simp,fun k hk=> ?_⟩
   have:k=0∨k=1:=by simp only at hk;omega
   rcases this with rfl|rfl
   ·exact h
   ·omega
  ·exact bad
 ·split
  ·rename_i _ hc
   simp only[Bool.and_eq_true,beq_iff_eq,decide_eq_true_eq] at hc
   split
   ·rename_i h2
    simp only[Bool.and_eq_true,decide_eq_true_eq] at h2
    refine⟨by simp only;omega,by simp,fun k hk=> ?_⟩
    have:k=0∨k=1∨k=2:=by simp only at hk;omega
    rcases this with rfl|rfl|rfl
    ·exact h
    ·omega
    ·omega
   ·exact bad
  ·split
   ·rename_i _ _ hc
    simp only[Bool.and_eq_true,beq_iff_eq,decide_eq_true_eq] at hc
    split
    ·rename_i h2
     simp only[Bool.and_eq_true,decide_eq_true_eq] at h2
     refine⟨by simp only;omega,by simp,fun k hk=> ?_⟩
     have:k=0∨k=1∨k=2∨k=3:=by simp only at hk;omega
     rcases this with rfl|rfl|rfl|rfl
     ·exact h
     ·omega
     ·omega
     ·omega
    ·exact bad
   ·exact bad
structure RuneP(p:Nat->Prop):Prop where
 hi: ∀n,128<=n->(p n↔p 128)
def Clr(p:Nat->Prop)(s:ByteArray)(k:Nat):Prop:= ∀i,i<k->i<s.size-> ¬p (s.get! i).toNat
theorem Clr.zero{p:Nat->Prop}{s:ByteArray}:Clr p s 0:=fun _ h=>absurd h (Nat.not_lt_zero _)
theorem j68(s:ByteArray)(k:Nat):1<=(Utf8.decode s k).2:=by
 rcases Nat.lt_or_ge (s.get! k).toNat 128 with h|h
 ·rw[j1e h];exact Nat.le_refl 1
 ·exact (j1f h).2.1
theorem Clr.step{p:Nat->Prop}(hp:RuneP p){s:ByteArray}{k:Nat}(h:Clr p s k)(hk: ¬p (Utf8.decode s k).1):Clr p s (k+(Utf8.decode s k).2):=by
 intro i hi hs
 rcases Nat.lt_or_ge i k with h1|h1
 ·exact h i h1 hs
 rcases Nat.lt_or_ge (s.get! k).toNat 128 with h2|h2
 ·rw[j1e h2] at hk hi
  simp only at hk hi
  rw[show i=k by omega];exact hk
 ·obtain⟨a,_,c⟩:=j1f h2
  have:=c (i - k) (by omega)
  rw[show k+(i - k)=i by omega] at this
  rw[hp.hi _ this,←hp.hi _ a];exact hk
theorem z68{p:Nat->Prop}(hp:RuneP p){s:ByteArray}{k:Nat}(hk:p (Utf8.decode s k).1):p (s.get! k).toNat:=by
 rcases Nat.lt_or_ge (s.get! k).toNat 128 with h2|h2
 ·rw[j1e h2] at hk;exact hk
 ·rw[hp.hi _ h2,←hp.hi _ (j1f h2).1];exact hk
theorem Clr.all{p:Nat->Prop}{s:ByteArray}{k:Nat}(h:Clr p s k)(hk:s.size<=k): ∀c∈bts s,¬p c.toNat:=by
 intro c hc
 obtain⟨i,hi⟩:=List.mem_iff_getElem?.1 hc
 have hl:i<s.size:=(List.getElem?_eq_some_iff.1 hi).1
 have:=get!_of hl
 rw[hi] at this
 cases this
 exact h i (by omega) hl
theorem j1g{s:ByteArray}{k:Nat}(h:k<s.size):s.get! k∈bts s:=List.mem_of_getElem? (get!_of h)
def good(c:UInt8):Bool:=decide (32<=c.toNat) && decide (c.toNat≠127)
def vld(s:ByteArray):Bool:=decide (s.size<=200) && Go.Lib.validD (bts s) && (bts s).all good
def isD(c:UInt8):Bool:=decide (48<=c.toNat) && decide (c.toNat<=57)
def w0x(n:Nat)(c:UInt8):Nat:=10*n+(c.toNat - 48)
def valD(n:Nat)(l:List UInt8):Nat:=l.foldl w0x n
def digs(s:ByteArray):ByteArray:=if s[0]? =some 45 then s.extract 1 s.size else s
def pnum(s:ByteArray):Int×Int:=
 if (bts (digs s)).all isD=false then (0,1)
 else if (digs s).size=0∨((digs s)[0]? =some 48/\s≠ByteArray.mk (Array.mk [48])) then (0,1)
 else if 1099511627776<valD 0 (bts (digs s)) then (0,3)
 else (if (digs s).size<s.size then -(valD 0 (bts (digs s)):Int) else valD 0 (bts (digs s)),0)
def dot(s:ByteArray)(k:Nat):Nat:=k+((bts s).drop k).idxOf 46
def okp(p:Int×Int):Bool:=decide (p.2=0) && decide (0<=p.1) && decide (p.1<=999999)
def j69(s:ByteArray)(k:Nat):Int×Int:=pnum (s.extract k (dot s k))
def j83(s:ByteArray):Prop:=(dot s 0<s.size/\okp (j69 s 0)=true)/\(dot s (dot s 0+1)<s.size/\okp (j69 s (dot s 0+1))=true)/\ ¬dot s (dot s (dot s 0+1)+1)<s.size/\okp (j69 s (dot s (dot s 0+1)+1))=true
instance (s:ByteArray):Decidable (j83 s):=by unfold j83;infer_instance
end Go.Sg
end
noncomputable section
set_option maxRecDepth 100000
namespace Go.En
open Go Go.Fl Go.Fl.Lk Go.Fx Go.Sg
theorem j7a{s:ByteArray}{K:Bool->Prop}(hs:s.size<=1000)(h:K (Go.Lib.validD (bts s))):Vg s K:=⟨by omega,h⟩
theorem badP:RuneP fun n=>n<32∨n=127:=⟨fun n h=>by omega⟩
theorem z69{s:ByteArray}(h:200<s.size∨Go.Lib.validD (bts s)=false∨ ∃c∈bts s,c.toNat<32∨c.toNat=127):vld s=false:=by
 unfold vld
 rcases h with h|h|⟨c,hc,h⟩
 ·rw[decide_eq_false (by omega)];rfl
 ·rw[h];simp
 ·have:(bts s).all good=false:=by
   rw[List.all_eq_false]
   refine⟨c,hc,?_⟩
   unfold good
   simp only[Bool.and_eq_true,decide_eq_true_eq]
   omega
  rw[this];simp
theorem j7b{s:ByteArray}(h1: ¬200<s.size)(h2:Go.Lib.validD (bts s)=true)(h3: ∀c∈bts s,¬(c.toNat<32∨c.toNat=127)):vld s=true:=by
 unfold vld
 rw[h2,decide_eq_true (show s.size<=200 by omega)]
 simp only[Bool.and_true,Bool.true_and,List.all_eq_true]
 intro c hc
 have:=h3 c hc
 unfold good
 simp only[Bool.and_eq_true,decide_eq_true_eq]
 omega
end Go.En
end
noncomputable section
set_option maxRecDepth 100000
namespace Go.En
open Go Go.Fl Go.Fl.Lk Go.Fx Go.Sg
theorem z2a{s:ByteArray}{K:Bool->Prop}(h:K (vld s)):Bo s K:=by
 unfold Bo q2d
 refine Cnd.mk (fun h1=>by rwa [z69 (.inl (by omega))] at h) fun h1=>j7a (by omega) (Cnd.mk (fun h2=> ?_) fun h2=>by rwa [z69 (.inr (.inl (by simpa using h2)))] at h)
 refine Lp1.ind (fun (x:ByteArray×Nat)=>x.1=s/\Clr (fun n=>n<32∨n=127) s x.2) (fun x=>s.size - x.2) ?_ ⟨rfl,Clr.zero⟩
 rintro⟨s',p⟩ ⟨rfl,hc⟩
 dsimp only at hc⊢
 refine Cnd.mk (fun h3=>Cnd.mk (fun h4=> ?_) fun h4=>Cnd.mk (fun h5=> ?_) fun h5=>⟨⟨rfl,hc.step badP (fun e=>by rcases e with e|e<;>omega)⟩,by have:=j68 s' p;omega⟩) fun h3=>by rwa [j7b (by omega) h2 (hc.all (by omega))] at h
 ·rwa [z69 (.inr (.inr ⟨_,j1g h3,z68 badP (.inl (by omega))⟩))] at h
 ·rwa [z69 (.inr (.inr ⟨_,j1g h3,z68 badP (.inr (by omega))⟩))] at h
end Go.En
end
noncomputable section
set_option maxRecDepth 100000
namespace Go.En
open Go Go.Fl Go.Fl.Lk Go.Fx Go.Sg
theorem q9y{v:Val}{K:Val->Prop}(hv:v.list.length<=2000000)(h:K v):Vu v K:=by
 unfold Vu
 refine fun b hb=>Cnd.mk (fun e=> ?_) fun _=>⟨by unfold Sml;simp only[List.nil_append];omega,h⟩
 have:=hb e
 cases v
 simp only at this
 subst this
 exact h
end Go.En
end
noncomputable section
set_option maxRecDepth 100000
namespace Go.En
open Go Go.Fl Go.Fl.Lk Go.Fx Go.Sg
open Classical in
def dec(p:Prop):Bool:=decide p
theorem q9a{a b:List ByteArray}{K:Bool->Prop}(h: ∀r,(r=true↔a=b)->K r):Zg a b K:=by
 unfold Zg
 intro ha hb
 refine Cnd.mk (fun hl _=> ?_) fun hl=>h _ ⟨fun h=>(by cases h),fun e=>by rw[e] at hl;exact absurd rfl hl⟩
 refine Lp1.ind (fun (i:Int)=>0<=i/\i<=a.length/\a.take i.toNat=b.take i.toNat) (fun (i:Int)=>(a.length - i).toNat) ?_ ⟨by omega,by omega,by simp⟩
 rintro i ⟨i0,i1,he⟩
 refine Cnd.mk (fun hc=>⟨by omega,fun x hx=>⟨by omega,fun y hy=>Cnd.mk (fun hc=>⟨by unfold InI;omega,⟨by omega,by omega,?_⟩,by omega⟩) fun hc=>h _ ⟨fun h=>(by cases h),fun h=> ?_⟩⟩⟩) fun hc=>h _ ⟨fun _=> ?_,fun _=>rfl⟩
 ·rw[show (i+1).toNat=i.toNat+1 by omega,List.take_add_one,List.take_add_one,he,hx,hy,hc]
 ·subst h;rw[hx] at hy;cases hy;exact absurd rfl hc
 ·rwa [List.take_of_length_le (by omega),List.take_of_length_le (by omega)] at he
def cnt(v w:Val):Bool:=if w.1=3 then (if v.1=5 then dec (w.3∈v.4) else if v.1=3 then Go.Lib.contains (bts v.3) (bts w.3) else false) else false
def ValB(w:Val):Prop:=w.3.size<=2000000/\w.4.length<=2000000
theorem q9z{op:Int}{K:Bool->Prop}(h: ∀r,(r=true↔6<=op/\op<=15)->K r):Vt op K:=by
 unfold Vt
 exact Cnd.mk (fun h6=>h _ ⟨fun a=>⟨h6,of_decide_eq_true a⟩,fun a=>decide_eq_true a.2⟩) fun h6=>h _ ⟨fun a=>(by cases a),fun a=>absurd a.1 h6⟩
end Go.En
end
noncomputable section
set_option maxRecDepth 100000
namespace Go.Gr
open Go.Fl Go.Fl.Lk
abbrev E2:=ByteArray×ByteArray
variable {ns ms:List ByteArray}{E D:List E2}{o o':List ByteArray}{x y:ByteArray}
def Rch(E:List E2)(x y:ByteArray):Prop:= ∀p:ByteArray->Prop,(∀e∈E,e.1=x∨p e.1->p e.2)->p y
theorem Rch.step{e:E2}(h:Rch E x e.1)(he:e∈E):Rch E x e.2:=fun p hp=>hp e he (.inr (h p hp))
def nd(E:List E2)(x:ByteArray):List ByteArray:=(E.filter fun e=>decide (e.1=x)).map (·.2)
end Go.Gr
end
noncomputable section
set_option maxRecDepth 100000
namespace Go.En
open Go Go.Fl Go.Fl.Lk Go.Fx Go.Sg
mutual
def evl(T:Ex->Bool)(I:ByteArray->Bool):Ex->Bool
 |⟨op,kind,name,values,kids⟩=>if op=1 then true else if op=2 then evlA T I kids else if op=3 then evlO T I kids else if op=4 then evlN T I kids else if op=5 then I name else T ⟨op,kind,name,values,kids⟩
def evlA(T:Ex->Bool)(I:ByteArray->Bool):List Ex->Bool
 |[]=>true
 |k::l=>if evl T I k=true then evlA T I l else false
def evlO(T:Ex->Bool)(I:ByteArray->Bool):List Ex->Bool
 |[]=>false
 |k::l=>if evl T I k=true then true else evlO T I l
def evlN(T:Ex->Bool)(I:ByteArray->Bool):List Ex->Bool
 |[]=>false
 |k::_=> !(evl T I k)
end
mutual
def subs:Ex->List Ex
 |⟨op,kind,name,values,kids⟩=>⟨op,kind,name,values,kids⟩::z8e kids
def z8e:List Ex->List Ex
 |[]=>[]
 |k::l=>subs k++z8e l
end
theorem Be(e:Ex):subs e=e::z8e e.5:=by cases e;rfl
theorem Gl{a:Ex}{l:List Ex}:a∈z8e l↔ ∃k∈l,a∈subs k:=by
 induction l with
 |nil=>simp[z8e]
 |cons k l ih=>simp[z8e,ih]
mutual
def wt:Ex->Nat
 |⟨_,_,_,values,kids⟩=>1+wtV values+wtL kids
def wtL:List Ex->Nat
 |[]=>0
 |k::l=>wt k+wtL l
def wtV:List Val->Nat
 |[]=>0
 |v::l=>1+v.4.length+wtV l
end
theorem z2b(e:Ex):wt e=1+wtV e.4+wtL e.5:=by cases e;rfl
theorem z0w(e:Ex):1<=wt e:=by rw[z2b];omega
theorem j7c(l:List Ex):l.length<=wtL l:=by
 induction l with
 |nil=>simp
 |cons k l ih=>have:=z0w k;simp only[List.length_cons,wtL];omega
theorem j7d{k:Ex}{l:List Ex}(h:k∈l):wt k<=wtL l:=by
 induction l with
 |nil=>simp at h
 |cons a l ih=>
  simp only[wtL]
  rcases List.mem_cons.1 h with rfl|h
  ·omega
  ·have:=ih h;omega
theorem j7e(l:List Val):l.length<=wtV l:=by
 induction l with
 |nil=>simp
 |cons k l ih=>simp only[List.length_cons,wtV];omega
theorem j7f{v:Val}{l:List Val}(h:v∈l):v.4.length<wtV l:=by
 induction l with
 |nil=>simp at h
 |cons a l ih=>
  simp only[wtV]
  rcases List.mem_cons.1 h with rfl|h
  ·omega
  ·have:=ih h;omega
theorem z7a{e k:Ex}(h:k∈e.5):wt k<wt e:=by have:=j7d h;rw[z2b e];omega
theorem j1h{e:Ex}:e.5.length<wt e:=by have:=j7c e.5;rw[z2b e];omega
theorem j7g{e:Ex}:e.4.length<wt e:=by have:=j7e e.4;rw[z2b e];omega
theorem j84{e:Ex}{v:Val}(h:v∈e.4):v.4.length<wt e:=by have:=j7f h;rw[z2b e];omega
def EvB(e:Ex):Prop:= ∀a∈subs e,∀w∈a.4,ValB w
end Go.En
end
noncomputable section
set_option maxRecDepth 100000
namespace Go.En
open Go Go.Fl Go.Fl.Lk Go.Fx Go.Sg
theorem z2c{a b:Val}{K:Bool->Prop}(h: ∀r,(r=true↔a=b)->K r):Uv a b K:=by
 unfold Uv q2b
 have no:(a≠b)->K false:=fun hn=>h _ ⟨fun h=>(by cases h),fun e=>absurd e hn⟩
 refine Cnd.mk (fun h1=>Cnd.mk (fun h2=>Cnd.mk (fun h3=>q9a fun r hr=>h r (hr.trans ⟨fun h4=> ?_,fun e=>by rw[e]⟩)) fun h=>no fun e=>h (by rw[e])) fun h=>no fun e=>h (by rw[e])) fun h=>no fun e=>h (by rw[e])
 cases a;cases b;simp_all
theorem q63: ∀(n:Nat) {a b:Ex} {K:Bool->Prop},wt b<=n->(∀r,(r=true↔a=b)->K r)->Jk a b K:=by
 intro n a b K hn h X hX
 induction n generalizing a b K with
 |zero=>have:=z0w b;omega
 |succ n ih=>
 refine hX _ _ _ ?_
 unfold q33
 have no:(a≠b)->K false:=fun hn=>h _ ⟨fun h=>(by cases h),fun e=>absurd e hn⟩
 refine Cnd.mk (fun h1=>Cnd.mk (fun h2=>Cnd.mk (fun h3 ha4 _=>Cnd.mk (fun hl _=> ?_) fun h=>no fun e=>h (by rw[e])) fun h=>no fun e=>h (by rw[e])) fun h=>no fun e=>h (by rw[e])) fun h=>no fun e=>h (by rw[e])
 refine Lp1.ind (fun (i:Int)=>0<=i/\i<=a.4.length/\a.4.take i.toNat=b.4.take i.toNat) (fun (i:Int)=>(a.4.length - i).toNat) ?_ ⟨by omega,by omega,by simp⟩
 rintro i ⟨i0,i1,he⟩
 refine Cnd.mk (fun hc=>⟨by omega,fun x hx=>⟨by omega,fun y hy=>z2c fun r hr=>Cnd.mk (fun hb=>⟨by unfold InI;omega,⟨by omega,by omega,?_⟩,by omega⟩) fun hb=>no fun e=> ?_⟩⟩) fun hc ha5 _=>Cnd.mk (fun hl5 _=> ?_) fun h=>no fun e=>h (by rw[e])
 ·rw[show (i+1).toNat=i.toNat+1 by omega,List.take_add_one,List.take_add_one,he,hx,hy,hr.1 hb]
 ·subst e;rw[hx] at hy;cases hy;exact hb (hr.2 rfl)
 rw[List.take_of_length_le (by omega),List.take_of_length_le (by omega)] at he
 refine Lp1.ind (fun (i:Int)=>0<=i/\i<=a.5.length/\a.5.take i.toNat=b.5.take i.toNat) (fun (i:Int)=>(a.5.length - i).toNat) ?_ ⟨by omega,by omega,by simp⟩
 rintro i ⟨i0,i1,he5⟩
 refine Cnd.mk (fun hc=>⟨by omega,fun x hx=>⟨by omega,fun y hy=> ?_⟩⟩) fun hc=>h _ ⟨fun _=> ?_,fun _=>rfl⟩
 ·dsimp only;rw[Uu,Uu]
  have hkid:=z7a (getm hy)
  refine ih (by omega) fun r hr=>Cnd.mk (fun hb=>⟨by unfold InI;omega,⟨by omega,by omega,?_⟩,by omega⟩) fun hb=>no fun e=> ?_
  ·rw[show (i+1).toNat=i.toNat+1 by omega,List.take_add_one,List.take_add_one,he5,hx,hy,hr.1 hb]
  ·subst e;rw[hx] at hy;cases hy;exact hb (hr.2 rfl)
 ·rw[List.take_of_length_le (by omega),List.take_of_length_le (by omega)] at he5
  cases a;cases b;simp_all
theorem z2d: ∀(n:Nat) {e:Ex} {K:Ex->Prop},wt e<=n->wt e<=2000000->K e->Bk e K:=by
 intro n e K hn hw h X hX
 induction n generalizing e K with
 |zero=>have:=z0w e;omega
 |succ n ih=>
 refine hX _ _ ?_
 unfold q2c
 have h4:=j7g (e:=e)
 have h5:=j1h (e:=e)
 refine fun _=>⟨⟨by omega,by omega,by unfold Sml;omega⟩,fun _=> ?_⟩
 refine Lp2.ind (fun (r:List Val) (i:Int)=>0<=i/\i<=e.4.length/\r=e.4.take i.toNat) (fun _ (i:Int)=>(e.4.length - i).toNat) ?_ ⟨by omega,by omega,rfl⟩
 rintro r i ⟨i0,i1,rfl⟩
 refine Cnd.mk (fun hc=>⟨by omega,fun y hy=>q9y (by have:=j84 (getm hy);omega) ⟨?_,by unfold InI;omega,⟨by omega,by omega,?_⟩,by omega⟩⟩) fun hc _=>⟨⟨by omega,by omega,by unfold Sml;omega⟩,fun _=> ?_⟩
 ·unfold Sml;simp only[List.length_append,List.length_take,List.length_cons,List.length_nil];omega
 ·rw[show (i+1).toNat=i.toNat+1 by omega,List.take_add_one,hy];rfl
 rw[List.take_of_length_le (by omega)]
 refine Lp2.ind (fun (r:List Ex) (i:Int)=>0<=i/\i<=e.5.length/\r=e.5.take i.toNat) (fun _ (i:Int)=>(e.5.length - i).toNat) ?_ ⟨by omega,by omega,rfl⟩
 rintro r i ⟨i0,i1,rfl⟩
 refine Cnd.mk (fun hc=>⟨by omega,fun y hy=> ?_⟩) fun hc=> ?_
 ·have hkid:=z7a (getm hy)
  dsimp only;rw[Uu]
  refine ih (by omega) (by omega) ?_
  rw[Uu]
  refine⟨?_,by unfold InI;omega,⟨by omega,by omega,?_⟩,by omega⟩
  ·unfold Sml;simp only[List.length_append,List.length_take,List.length_cons,List.length_nil];omega
  ·rw[show (i+1).toNat=i.toNat+1 by omega,List.take_add_one,hy];rfl
 ·rw[List.take_of_length_le (by omega)]
  cases e;exact h
def nms(e:Ex):List ByteArray:=((subs e).filter fun a=>decide (a.1=5)).map Ex.name
theorem z5v{e:Ex}{x:ByteArray}:x∈nms e↔ ∃a∈subs e,a.1=5/\a.3=x:=by
 unfold nms
 simp only[List.mem_map,List.mem_filter,decide_eq_true_eq]
 exact⟨fun ⟨a,⟨h1,h2⟩,h3⟩=>⟨a,h1,h2,h3⟩,fun ⟨a,h1,h2,h3⟩=>⟨a,⟨h1,h2⟩,h3⟩⟩
theorem z7b(e:Ex)(x:ByteArray):x∈nms e↔(e.1=5/\e.3=x)∨ ∃k∈e.5,x∈nms k:=by
 rw[z5v,Be]
 constructor
 ·rintro⟨a,ha,h⟩
  rcases List.mem_cons.1 ha with rfl|ha
  ·exact .inl h
  ·obtain⟨k,hk,ha⟩:=Gl.1 ha
   exact .inr ⟨k,hk,z5v.2 ⟨a,ha,h⟩⟩
 ·rintro (h|⟨k,hk,h⟩)
  ·exact⟨e,List.mem_cons_self,h⟩
  ·obtain⟨a,ha,h⟩:=z5v.1 h
   exact⟨a,List.mem_cons_of_mem _ (Gl.2 ⟨k,hk,ha⟩),h⟩
end Go.En
end
noncomputable section
set_option maxRecDepth 100000
namespace Go.En
open Go Go.Fl Go.Fl.Lk Go.Fx Go.Sg
structure ClE(segs:List ByteArray)(Q:Nat->Ex->Prop):Prop where
 hT: ∀k,Q k (Ex.mk 1 (ByteArray.mk (Array.mk [])) (ByteArray.mk (Array.mk [])) [] [])
 hS: ∀k b,b∈segs->Q k (Ex.mk 5 (ByteArray.mk (Array.mk [])) b [] [])
 ht: ∀k e,ExS 0 e->6<=e.1/\e.1<=15->Q k e
 hN: ∀k e,Q k e->Q (k+1) (Ex.mk 4 (ByteArray.mk (Array.mk [])) (ByteArray.mk (Array.mk [])) [] [e])
 hA: ∀k op l,op=2∨op=3->l.length<=3->l≠[]->(∀e∈l,Q k e∨ ∃e',Q k e'/\e=Ex.mk 4 (ByteArray.mk (Array.mk [])) (ByteArray.mk (Array.mk [])) [] [e'])->Q (k+1) (Ex.mk op (ByteArray.mk (Array.mk [])) (ByteArray.mk (Array.mk [])) [] l)
theorem ClE.and{segs:List ByteArray}{Q R:Nat->Ex->Prop}(a:ClE segs Q)(b:ClE segs R):ClE segs fun k e=>Q k e/\R k e:=
 ⟨fun k=>⟨a.hT k,b.hT k⟩,fun k x hx=>⟨a.hS k x hx,b.hS k x hx⟩,fun k e h1 h2=>⟨a.ht k e h1 h2,b.ht k e h1 h2⟩,fun k e h=>⟨a.hN k e h.1,b.hN k e h.2⟩,
  fun k op l h1 h2 h3 h=>⟨a.hA k op l h1 h2 h3 fun e he=>(h e he).imp (·.1) fun ⟨e',h,h'⟩=>⟨e',h.1,h'⟩,b.hA k op l h1 h2 h3 fun e he=>(h e he).imp (·.2) fun ⟨e',h,h'⟩=>⟨e',h.2,h'⟩⟩⟩
theorem z8f{list:List Int}{segs:List ByteArray}{Q:Nat->Ex->Prop}(c:ClE segs Q):
  ∀(k:Nat) {at_ levels:Int} {K:Ex->Int->Prop},k<=100->levels<=k+1->1<=levels->DS list at_->(∀r a,Q k r->DS list a->K r a)->q4y list at_ segs levels K:=by
 obtain⟨hT,hS,ht,hN,hA⟩:=c
 intro k at_ levels K hk0 hk hl hD h X hX
 induction k generalizing at_ levels K with
 |zero=>
  refine hX _ _ _ _ _ ?_
  unfold q7w
  refine Zz hD (by decide) fun r a r0 r1 hD=>Jn1.mk (fun x=>0<=x/\x<=3) (Cnd.mk (fun _=>Cnd.mk (fun _=>⟨by unfold InI;omega,by omega,by omega⟩) fun _=>⟨by omega,by omega⟩) fun _=>by omega) fun x hx=> ?_
  have t:=z4h (K:=fun r a=>K (Ex.mk r.1 r.2 r.3 r.4 r.5) a) hD fun r a hr h6 hD=>h _ a (by rw[Uu];exact ht 0 r hr h6) hD
  refine Cnd.mk (fun _=>h _ _ (hT 0) hD) fun _=>Cnd.mk (fun _ _=>Cnd.mk (fun hc _=> ?_) fun _=>t) fun _=>Cnd.mk (fun hc=>by omega) fun _=> ?_
  ·exact Zz hD (by omega) fun r a r0 r1 hD=>⟨⟨r0,r1⟩,fun y hy=>h _ _ (hS 0 y (getm hy)) hD⟩
  ·exact Jn1.mk (fun x=>x=false) (Cnd.mk (fun hc=>by omega) fun _=>decide_eq_false (by omega)) fun x hx=>Cnd.mk (fun hc=>by rw[hx] at hc;cases hc) fun _=>t
 |succ k ih=>
  refine hX _ _ _ _ _ ?_
  unfold q7w
  have go: ∀{at_:Int} {K:Ex->Int->Prop},1<=levels - 1->DS list at_->(∀r a,Q k r->DS list a->K r a)->X list at_ segs (levels - 1) K:=fun h1 hD hK=>ih (by omega) (by omega) h1 hD hK
  refine Zz hD (by decide) fun r a r0 r1 hD=>Jn1.mk (fun x=>0<=x/\x<=7/\(levels<=1->x<=3)) (Cnd.mk (fun _=>Cnd.mk (fun _=>⟨by unfold InI;omega,by omega,by omega,by omega⟩) fun _=>⟨by omega,by omega,by omega⟩) fun _=>by omega) fun x hx=> ?_
  have t:=z4h (K:=fun r a=>K (Ex.mk r.1 r.2 r.3 r.4 r.5) a) hD fun r a hr h6 hD=>h _ a (by rw[Uu];exact ht _ r hr h6) hD
  refine Cnd.mk (fun _=>h _ _ (hT _) hD) fun _=>Cnd.mk (fun _ _=>Cnd.mk (fun hc _=> ?_) fun _=>t) fun _=>Cnd.mk (fun hc=> ?_) fun _=> ?_
  ·exact Zz hD (by omega) fun r a r0 r1 hD=>⟨⟨r0,r1⟩,fun y hy=>h _ _ (hS _ y (getm hy)) hD⟩
  ·refine⟨by unfold InI;omega,go (by omega) hD fun e a he hD=>h _ _ ?_ hD⟩
   rw[Uu];exact hN k e he
  refine Jn1.mk (fun y=>y=true->2<=levels) (Cnd.mk (fun hc _=>by omega) fun _ hc=>by have:=of_decide_eq_true hc;omega) fun y hy=>Cnd.mk (fun hc=> ?_) fun _=>t
  have hy:=hy hc
  refine Zz hD (by decide) fun r a r0 r1 hD=>⟨by unfold InI;omega,Zz hD (by decide) fun q a q0 q1 hD=>⟨by unfold InI;omega,?_⟩⟩
  refine LpH.ind (fun x=>0<=x.1/\x.1<=2+q/\DS list x.2.1/\x.2.2=(2+r,ByteArray.mk (Array.mk []),ByteArray.mk (Array.mk []),[],x.2.2.2.2.2.2.1,())/\(x.2.2.2.2.2.2.1.length:Int)=x.1/\ ∀e∈x.2.2.2.2.2.2.1,Q k e∨ ∃e',Q k e'/\e=Ex.mk 4 (ByteArray.mk (Array.mk [])) (ByteArray.mk (Array.mk [])) [] [e']) (fun x=>(3 - x.1).toNat) ?_ ⟨Int.le_refl 0,by simp only;omega,hD,rfl,rfl,by simp⟩
  rintro⟨i,a,x⟩ ⟨i0,i1,hD,hx,hl,he⟩
  simp only at i0 i1 hD hx hl he
  generalize x.2.2.2.2.1=l at*
  subst hx
  simp only at hl he⊢
  refine Cnd.mk (fun hc=>⟨by unfold InI;omega,go (by omega) hD fun e a hk hD=> ?_⟩) fun hc=>h _ _ (hA k (2+r) l (by omega) (by omega) (fun e=>by rw[e] at hl;simp at hl;omega) he) hD
  refine Jn1.mk (fun z=>(fun e=>Q k e∨ ∃e',Q k e'/\e=Ex.mk 4 (ByteArray.mk (Array.mk [])) (ByteArray.mk (Array.mk [])) [] [e']) (Ex.mk z.1 z.2.1 z.2.2.1 z.2.2.2.1 z.2.2.2.2.1)) (Cnd.mk (fun _=> .inr ⟨e,hk,by simp only;rw[Uu]⟩) fun _=> .inl (by simp only;rw[Uu];exact hk)) fun z hz=> ?_
  exact⟨by unfold Sml;simp;omega,by unfold InI;omega,⟨by omega,by omega,hD,trivial,by simp;omega,z62 he hz⟩,by omega⟩
structure DrE(segs:List ByteArray)(w:Nat)(e:Ex):Prop where
 wt:wt e<=w
 nms: ∀x∈nms e,x∈segs
 ev:EvB e
theorem EvB.mk'{e:Ex}(h: ∀w∈e.4,ValB w)(hk: ∀k∈e.5,EvB k):EvB e:=fun a ha=>by
 rw[Be] at ha
 rcases List.mem_cons.1 ha with rfl|ha
 ·exact h
 ·obtain⟨k,hk',ha⟩:=Gl.1 ha
  exact hk k hk' a ha
theorem j85{l:List Val}{b:Nat}(h: ∀v∈l,v.4.length<=b):wtV l<=l.length*(1+b):=by
 induction l with
 |nil=>simp[wtV]
 |cons v l ih=>
  have h1:=h v List.mem_cons_self
  have h2:=ih fun v hv=>h v (List.mem_cons_of_mem _ hv)
  simp only[wtV,List.length_cons,Nat.add_mul,Nat.one_mul] at*
  omega
theorem j86{l:List Ex}{b:Nat}(h: ∀e∈l,wt e<=b):wtL l<=l.length*b:=by
 induction l with
 |nil=>simp[wtL]
 |cons v l ih=>
  have h1:=h v List.mem_cons_self
  have h2:=ih fun v hv=>h v (List.mem_cons_of_mem _ hv)
  simp only[wtL,List.length_cons,Nat.add_mul,Nat.one_mul] at*
  omega
def lvl:Nat->Nat
 |0=>45
 |k+1=>4+3*lvl k
theorem j1i(k:Nat):45<=lvl k:=by
 induction k with
 |zero=>exact Nat.le_refl _
 |succ k ih=>simp only[lvl];omega
theorem j87{segs:List ByteArray}:ClE segs fun k e=>DrE segs (lvl k) e:=by
 have leaf: ∀{e:Ex} {x:ByteArray},e.5=[]->x∈nms e->e.1=5/\e.3=x:=fun {e x} h5 hx=>by
  rw[z7b,h5] at hx
  exact hx.elim id fun ⟨k,hk,_⟩=>by simp at hk
 refine⟨fun k=>⟨?_,fun x hx=> ?_,EvB.mk' (by simp) (by simp)⟩,fun k b hb=>⟨?_,fun x hx=> ?_,EvB.mk' (by simp) (by simp)⟩,fun k e he h6=>⟨?_,fun x hx=> ?_,EvB.mk' (fun w hw=> ?_) (by rw[he.2.2.2];simp)⟩,fun k e he=>⟨?_,fun x hx=> ?_,EvB.mk' (by simp) (by simpa using he.ev)⟩,fun k op l hop h3 hne he=>⟨?_,fun x hx=> ?_,EvB.mk' (by simp) fun e hm=> ?_⟩⟩
 ·have:=j1i k;simp only[wt,wtV,wtL];omega
 ·have:=(leaf rfl hx).1;simp at this
 ·have:=j1i k;simp only[wt,wtV,wtL];omega
 ·rw[←(leaf rfl hx).2];exact hb
 ·have h1:=j1i k
  have h2:=j85 (l:=e.4) (b:=10) fun v hv=>(he.vals.all v hv).len
  have h3:=he.vals.len
  rw[z2b,he.2.2.2]
  simp only[wtL];omega
 ·have:=(leaf he.2.2.2 hx).1;omega
 ·exact⟨Nat.le_trans (he.vals.all w hw).txt (by decide),Nat.le_trans (he.vals.all w hw).len (by decide)⟩
 ·have:=he.wt;simp only[wt,wtV,wtL,lvl];omega
 ·rw[z7b] at hx
  rcases hx with hx|⟨k,hk,hx⟩
  ·simp at hx
  ·have:k=e:=by simpa using hk
   rw[this] at hx;exact he.nms x hx
 ·rw[z2b]
  have:wtL l<=l.length*(1+lvl k):=j86 fun e hm=>by
   rcases he e hm with h|⟨e',h,rfl⟩
   ·have:=h.wt;omega
   ·have:=h.wt;simp only[wt,wtV,wtL];omega
  have h4:l.length*(1+lvl k)<=3*(1+lvl k):=Nat.mul_le_mul_right _ h3
  simp only[wtV,lvl];omega
 ·rw[z7b] at hx
  rcases hx with hx|⟨q,hq,hx⟩
  ·simp only at hx;omega
  ·rcases he q hq with h|⟨e',h,rfl⟩
   ·exact h.nms x hx
   ·rw[z7b] at hx
    rcases hx with hx|⟨k,hk,hx⟩
    ·simp at hx
    ·have:k=e':=by simpa using hk
     rw[this] at hx;exact h.nms x hx
 ·rcases he e hm with h|⟨e',h,rfl⟩
  ·exact h.ev
  ·exact EvB.mk' (by simp) (by simpa using h.ev)
theorem j1j{segs:List ByteArray}(hs: ∀s∈segs,s.size<=100):ClE segs fun k e=>ExS (2*k) e:=
 ⟨fun k=>ExS.le (n:=0) ⟨.nil,⟨sz0,sz0⟩,opl (by simp),rfl⟩ (by omega),fun k b hb=>ExS.le (n:=0) ⟨.nil,⟨hs _ hb,sz0⟩,opl (by simp),rfl⟩ (by omega),fun k e he _=>he.le (by omega),fun k e he=>(j81 he sz0 sz0).le (by omega),
  fun k op l hop h3 hne he=>⟨.nil,⟨sz0,sz0⟩,⟨InI.mk (by simp only;omega) (by simp only;omega),fun _ _=>hne⟩,h3,fun e hm=>by
   rcases he e hm with h|⟨e',h,rfl⟩
   ·exact h.up
   ·exact j81 h sz0 sz0⟩⟩
def Byts(l:List Int):Prop:= ∀x∈l,0<=x/\x<256
theorem j31{l:List Int}{most:Int}{K:List Int->Int->Prop}(hb:Byts l)(h0:0<=most)(h1:most<=1000)(h: ∀r,DS r 0->K r 0):z1f l most K:=by
 unfold z1f
 refine Jn1.mk (fun r=>DS r 0) ?_ h
 refine fun _=>Cnd.mk (fun hc=>⟨by omega,?_⟩) fun hc=>⟨by omega,by omega,by omega,hb⟩
 rw[show List.drop (Int.toNat 0) (List.take most.toNat l)=l.take most.toNat from rfl]
 exact⟨by rw[List.length_take];omega,by omega,by omega,fun x hx=>hb x (List.mem_of_mem_take hx)⟩
end Go.En
end
noncomputable section
set_option maxRecDepth 100000
namespace Go.En
open Go Go.Fl Go.Fl.Lk Go.Fx Go.Dg
def WfX(e:Ex):Prop:= ∀a∈subs e,1<=a.1/\a.1<=15/\(a.1=1∨5<=a.1->a.5=[])
theorem WfX.self{e:Ex}(h:WfX e):1<=e.1/\e.1<=15/\(e.1=1∨5<=e.1->e.5=[]):=h e (by rw[Be];exact List.mem_cons_self)
theorem WfX.kid{e k:Ex}(h:WfX e)(hk:k∈e.5):WfX k:=fun a ha=>h a (by rw[Be];exact List.mem_cons_of_mem _ (Gl.2 ⟨k,hk,ha⟩))
theorem WfX.mk'{e:Ex}(h:1<=e.1/\e.1<=15/\(e.1=1∨5<=e.1->e.5=[]))(hk: ∀k∈e.5,WfX k):WfX e:=fun a ha=>by
 rw[Be] at ha
 rcases List.mem_cons.1 ha with rfl|ha
 ·exact h
 ·obtain⟨k,hk',ha⟩:=Gl.1 ha
  exact hk k hk' a ha
def CC:Nat->Nat
 |0=>1
 |k+1=>3*(CC k+2 ^ (3 ^ k))+3*2 ^ (3 ^ (k+1))
theorem j88(k:Nat):1<=CC k:=by
 cases k with
 |zero=>exact Nat.le_refl _
 |succ k=>have:=Nat.two_pow_pos (3 ^ (k+1));unfold CC;omega
structure DrC(k:Nat)(e:Ex):Prop where
 w:WfX e
 n:(lvE e).length<=3 ^ k
 c:cst e<=CC k
theorem z2e{m:Nat}{l:List Ex}(h: ∀e∈l,(lvE e).length<=m):(lvEL l).length<=l.length*m:=by
 induction l with
 |nil=>simp[lvEL]
 |cons a l ih=>
  have h1:=h a List.mem_cons_self
  have h2:=ih fun e he=>h e (List.mem_cons_of_mem _ he)
  simp only[lvEL,List.length_append,List.length_cons,Nat.add_mul,Nat.one_mul];omega
theorem j1k{m:Nat}{l:List Ex}(h: ∀e∈l,cst e<=m):cstL l<=l.length*m:=by
 induction l with
 |nil=>simp[cstL]
 |cons a l ih=>
  have h1:=h a List.mem_cons_self
  have h2:=ih fun e he=>h e (List.mem_cons_of_mem _ he)
  simp only[cstL,List.length_cons,Nat.add_mul,Nat.one_mul];omega
theorem z7c{k:Nat}{e:Ex}(h0:e.5=[])(h1:5<=e.1)(h2:e.1<=15):DrC k e where
 w:=WfX.mk' ⟨by omega,h2,fun _=>h0⟩ fun x hx=>by rw[h0] at hx;cases hx
 n:=by
  rw[Bw,if_neg (by omega),if_neg (by omega)]
  exact Nat.one_le_pow _ _ (by decide)
 c:=by
  rw[z0v,if_neg (by omega),if_neg (by omega)]
  exact j88 k
theorem j1l{k:Nat}{e:Ex}(h:DrC k e):WfX (Ex.mk 4 (ByteArray.mk (Array.mk [])) (ByteArray.mk (Array.mk [])) [] [e])/\(lvE (Ex.mk 4 (ByteArray.mk (Array.mk [])) (ByteArray.mk (Array.mk [])) [] [e])).length<=3 ^ k/\cst (Ex.mk 4 (ByteArray.mk (Array.mk [])) (ByteArray.mk (Array.mk [])) [] [e])<=CC k+2 ^ (3 ^ k):=by
 have hn:=h.n
 have hc:=h.c
 have e1:lvE (Ex.mk 4 (ByteArray.mk (Array.mk [])) (ByteArray.mk (Array.mk [])) [] [e])=lvE e:=by rw[Bw];simp[lvEL]
 have e2:cst (Ex.mk 4 (ByteArray.mk (Array.mk [])) (ByteArray.mk (Array.mk [])) [] [e])=cst e+1*2 ^ (lvE e).length:=by rw[z0v];simp[lvEL,cstL]
 have:=q89 hn
 refine⟨WfX.mk' ⟨by show (1:Int)<=4;decide,by show (4:Int)<=15;decide,fun o=>o.elim (fun e=>absurd e (by show ¬(4:Int)=1;decide)) fun e=>absurd e (by show ¬(5:Int)<=4;decide)⟩ fun x hx=> ?_,by rw[e1];exact hn,by rw[e2];omega⟩
 rw[List.mem_singleton.1 hx];exact h.w
theorem j89{segs:List ByteArray}:ClE segs DrC where
 hT k:=⟨WfX.mk' ⟨by show (1:Int)<=1;decide,by show (1:Int)<=15;decide,fun _=>rfl⟩ fun x hx=>(by cases hx),by rw[Bw,if_pos rfl];exact Nat.zero_le _,by rw[z0v,if_pos rfl];exact Nat.zero_le _⟩
 hS k b _:=z7c rfl (by show (5:Int)<=5;decide) (by show (5:Int)<=15;decide)
 ht k e h h6:=z7c h.2.2.2 (by omega) h6.2
 hN k e h:=by
  obtain⟨a,b,c⟩:=j1l h
  have h3:3 ^ k<=3 ^ (k+1):=Nat.pow_le_pow_right (by decide) (by omega)
  exact⟨a,Nat.le_trans b h3,Nat.le_trans c (by show _<=3*(CC k+2 ^ (3 ^ k))+3*2 ^ (3 ^ (k+1));omega)⟩
 hA k op l ho hl hne h:=by
  have hh: ∀e∈l,WfX e/\(lvE e).length<=3 ^ k/\cst e<=CC k+2 ^ (3 ^ k):=fun e he=>by
   rcases h e he with h|⟨e',h,rfl⟩
   ·exact⟨h.w,h.n,Nat.le_trans h.c (Nat.le_add_right _ _)⟩
   ·exact j1l h
  have n1:=z2e fun e he=>(hh e he).2.1
  have c1:=j1k fun e he=>(hh e he).2.2
  have m1:l.length*3 ^ k<=3*3 ^ k:=Nat.mul_le_mul_right _ hl
  have m2:l.length*(CC k+2 ^ (3 ^ k))<=3*(CC k+2 ^ (3 ^ k)):=Nat.mul_le_mul_right _ hl
  have p1:3 ^ (k+1)=3*3 ^ k:=by rw[Nat.pow_succ,Nat.mul_comm]
  have n2:(lvEL l).length<=3 ^ (k+1):=by omega
  have m3:l.length*2 ^ (lvEL l).length<=3*2 ^ (3 ^ (k+1)):=Nat.mul_le_mul hl (q89 n2)
  have o1: ¬op=1:=by omega
  have o2:op=2∨op=3∨op=4:=by omega
  refine⟨WfX.mk' ⟨by show 1<=op;omega,by show op<=15;omega,fun o=>by (have o:op=1∨5<=op:=o);omega⟩ fun x hx=>(hh x hx).1,?_,?_⟩
  ·rw[Bw,if_neg o1,if_pos o2];exact n2
  ·rw[z0v,if_neg o1,if_pos o2]
   show cstL l+l.length*2 ^ (lvEL l).length<=3*(CC k+2 ^ (3 ^ k))+3*2 ^ (3 ^ (k+1))
   omega
theorem z2f(l m:List Ex):lvEL (l++m)=lvEL l++lvEL m:=by
 induction l with
 |nil=>simp[lvEL]
 |cons k l ih=>simp[lvEL,ih]
end Go.En
end
noncomputable section
set_option maxRecDepth 100000
namespace Go.En
open Go Go.Fl Go.Fl.Lk Go.Fx Go.Dg
def Hol(ms:List Nd)(F:(Int->Bool)->Int):Prop:= ∃j,Ok ms j/\ ∀v,ev ms v j=F v
theorem Hol.pre{ms ms':List Nd}{F:(Int->Bool)->Int}(h:Hol ms F)(hN:Nod ms)(hN':Nod ms')(hp:ms<+:ms'):Hol ms' F:=by
 obtain⟨j,ok,e⟩:=h
 exact⟨j,ok.pre hp,fun v=>by rw[Ze hN hN' hp ok];exact e v⟩
theorem Hol.cof{ms:List Nd}{F G:(Int->Bool)->Int}(h:Hol ms F)(hN:Nod ms)(hc:Cof F G):Hol ms G:=by
 obtain⟨j,ok,e⟩:=h
 obtain⟨t,p,hg⟩:=hc
 exact Cof.node hN ok ⟨t,p,fun v=>by rw[hg];exact (e _).symm⟩
theorem z4k{α:Type}(l:List α)(p:α->Bool):l.length=(l.filter p).length+(l.filter fun x=> !p x).length:=by
 induction l with
 |nil=>rfl
 |cons a l ih=>
  cases h:p a with
  |true=>rw[List.filter_cons_of_pos h,List.filter_cons_of_neg (by rw[h];simp)];simp only[List.length_cons];omega
  |false=>rw[List.filter_cons_of_neg (by rw[h];simp),List.filter_cons_of_pos (by rw[h];rfl)];simp only[List.length_cons];omega
theorem j1m{ns ms:List Nd}(hN:Nod ns)(_:Nod ms){X:List Int}(h: ∀i:Int,0<=i->i<ns.length->i∈X∨Hol ms fun v=>ev ns v i):ns.length<=ms.length+X.length:=by
 classical
 let R:List Int:=(List.range ns.length).map fun i:Nat=>(i:Int)
 have hR:R.Nodup:=(List.nodup_range (n:=ns.length)).map (fun i:Nat=>(i:Int)) (fun a b hab e=>hab (by have:(a:Int)=b:=e;omega))
 have hRl:R.length=ns.length:=by show (List.map _ _).length=_;rw[List.length_map,List.length_range]
 have hRm: ∀i∈R,0<=i/\i<ns.length:=fun i hi=>by
  obtain⟨n,hn,rfl⟩:=List.mem_map.1 hi
  have:=List.mem_range.1 hn
  exact⟨by omega,by omega⟩
 have sp:=z4k R fun i=>decide (i∈X)
 have a1:(R.filter fun i=>decide (i∈X)).length<=X.length:=z18 (hR.filter _) fun i hi=>of_decide_eq_true (List.mem_filter.1 hi).2
 have hol: ∀i∈R.filter fun i=> !decide (i∈X),Hol ms fun v=>ev ns v i:=fun i hi=>by
  obtain⟨hm,hx⟩:=List.mem_filter.1 hi
  obtain⟨b0,b1⟩:=hRm i hm
  exact (h i b0 b1).resolve_left fun hX=>by rw[decide_eq_true hX] at hx;cases hx
 let f:Int->Int:=fun i=>if q:Hol ms fun v=>ev ns v i then Classical.choose q else 0
 have hf: ∀i∈R.filter fun i=> !decide (i∈X),Ok ms (f i)/\ ∀v,ev ms v (f i)=ev ns v i:=fun i hi=>by
  have q:=hol i hi
  show Ok ms (if q:Hol ms fun v=>ev ns v i then Classical.choose q else 0)/\ ∀v,ev ms v (if q:Hol ms fun v=>ev ns v i then Classical.choose q else 0)=_
  rw[dif_pos q]
  exact Classical.choose_spec q
 have okn: ∀i∈R.filter fun i=> !decide (i∈X),Ok ns i/\0<=i:=fun i hi=>by
  obtain⟨b0,b1⟩:=hRm i (List.mem_filter.1 hi).1
  exact⟨⟨by omega,b1⟩,b0⟩
 have hf0: ∀i∈R.filter fun i=> !decide (i∈X),0<=f i:=fun i hi=>by
  obtain⟨ok,e⟩:=hf i hi
  obtain⟨oi,i0⟩:=okn i hi
  refine Int.not_lt.1 fun hlt=> ?_
  have okl:Ok ns (f i):=⟨ok.1,by omega⟩
  have:=j3w hN oi okl fun v=>by rw[←e v,Zd hlt,Zd hlt]
  omega
 have a2:((R.filter fun i=> !decide (i∈X)).map f).Nodup:=by
  refine List.pairwise_map.2 ?_
  have hnd:(R.filter fun i=> !decide (i∈X)).Pairwise fun a b=>a≠b:=hR.filter _
  refine hnd.imp_of_mem fun {a b} ha hb hab e=>hab ?_
  refine j3w hN (okn a ha).1 (okn b hb).1 fun v=> ?_
  rw[←(hf a ha).2 v,←(hf b hb).2 v,e]
 have a3:((R.filter fun i=> !decide (i∈X)).map f).length<=((List.range ms.length).map fun i:Nat=>(i:Int)).length:=z18 a2 fun y hy=>by
  obtain⟨i,hi,rfl⟩:=List.mem_map.1 hy
  have h0:=hf0 i hi
  have h1:=(hf i hi).1.2
  exact List.mem_map.2 ⟨(f i).toNat,List.mem_range.2 (by omega),by omega⟩
 rw[List.length_map,List.length_map,List.length_range] at a3
 omega
end Go.En
end
noncomputable section
set_option maxRecDepth 100000
namespace Go.En
open Go Go.Fl Go.Fl.Lk Go.Fx Go.Dg
structure Any_(ns ns':List Nd)(ids':Nd->Option Int):Prop where
 inv:Inv ns' ids'
 pre:ns<+:ns'
 len:ns'.length<=4000
theorem Any_.refl{ns:List Nd}{ids:Nd->Option Int}(hI:Inv ns ids)(hl:ns.length<=4000):Any_ ns ns ids:=⟨hI,List.prefix_refl _,hl⟩
theorem Any_.trans{a b c:List Nd}{i j:Nd->Option Int}(h:Any_ a b i)(k:Any_ b c j):Any_ a c j:=⟨k.inv,h.pre.trans k.pre,k.len⟩
theorem z5w{ns:List Nd}{ids:Nd->Option Int}{full:Bool}{f g h r:Int}{ns':List Nd}{ids':Nd->Option Int}{full':Bool}(C:Cho ns ids full f g h r ns' ids' full')(hI:Inv ns ids){F G H:(Int->Bool)->Bool}{S:List Int}(hf:Dgm ns F S f)(hg:Dgm ns G S g)(hh:Dgm ns H S h):
  Any_ ns ns' ids'/\(r= -1002∨Dgm ns' (fun v=>if F v=true then G v else H v) S r):=by
 have hp:=C.grew.pre
 have hN:=hI.nod
 have hN':=C.grew.inv.nod
 refine⟨⟨C.grew.inv,hp,C.grew.len⟩,?_⟩
 rcases C.res with ⟨e,_⟩|⟨ok,hs,_⟩
 ·exact .inl e
 ·refine .inr ⟨ok,fun v=> ?_,fun v v' e=>by show (if F v=true then G v else H v)=if F v'=true then G v' else H v';rw[hf.dep v v' e,hg.dep v v' e,hh.dep v v' e]⟩
  rw[hs v,(hf.pre hN hN' hp).ev,(hg.pre hN hN' hp).ev,(hh.pre hN hN' hp).ev]
  show (if (if F v=true then (1:Int) else 0)=1 then (if G v=true then (1:Int) else 0) else if H v=true then 1 else 0)=if (if F v=true then G v else H v)=true then 1 else 0
  by_cases hF:F v=true
  ·rw[if_pos hF,if_pos hF,if_pos rfl]
  ·rw[if_neg hF,if_neg hF,if_neg (by decide)]
def Mb(ns:List Nd)(F:(Int->Bool)->Bool)(S:List Int)(id:Int):Prop:=id= -1002∨Dgm ns F S id
theorem Mb.pre{ns ns':List Nd}{F:(Int->Bool)->Bool}{S:List Int}{id:Int}(h:Mb ns F S id)(hN:Nod ns)(hN':Nod ns')(hp:ns<+:ns'):Mb ns' F S id:=h.imp (fun e=>e) fun h=>h.pre hN hN' hp
theorem Mb.wide{ns:List Nd}{F:(Int->Bool)->Bool}{S S':List Int}{id:Int}(h:Mb ns F S id)(hs: ∀x∈S,x∈S'):Mb ns F S' id:=h.imp (fun e=>e) fun h=>h.wide hs
theorem Mb.eq{ns:List Nd}{F G:(Int->Bool)->Bool}{S:List Int}{id:Int}(h:Mb ns F S id)(e: ∀v,G v=F v):Mb ns G S id:=h.imp (fun e=>e) fun h=>⟨h.ok,fun v=>by rw[e];exact h.ev v,fun v v' k=>by rw[e,e];exact h.dep v v' k⟩
theorem q2y{ns:List Nd}: ¬Ok ns (-1002):=fun h=>by have:=h.1;omega
theorem j32{ns:List Nd}{ids:Nd->Option Int}{full:Bool}{f g:Int}{F G:(Int->Bool)->Bool}{S:List Int}{K:Int->List Nd->(Nd->Option Int)->Bool->Prop}(hI:Inv ns ids)(hl:ns.length<=4000)(hf:Mb ns F S f)(hg:Mb ns G S g)
  (hK: ∀r ns' ids' full',Any_ ns ns' ids'->(r= -1002∨(f≠ -1002/\g≠ -1002/\Dgm ns' (fun v=>F v && G v) S r))->K r ns' ids' full'):J5 ns ids full f g K:=by
 refine j66 hI hl fun r ns' ids' full' C=> ?_
 rcases C with ⟨⟨a1,_,a3,_⟩,C⟩|⟨_,e,rfl,rfl,_⟩
 ·have f0:f≠ -1002:=fun e=>q2y (e▸a1)
  have g0:g≠ -1002:=fun e=>q2y (e▸a3)
  have hf:=hf.resolve_left f0
  have hg:=hg.resolve_left g0
  obtain⟨a,b⟩:=z5w C hI hf hg Dgm.fls
  refine hK _ _ _ _ a (b.imp id fun b=>⟨f0,g0,b.ok,fun v=> ?_,fun v v' e=> ?_⟩)
  ·rw[b.ev];show (if (if F v=true then G v else false)=true then _ else _)=if (F v && G v)=true then _ else _;cases F v<;>simp
  ·show (F v && G v)=(F v' && G v');rw[hf.dep v v' e,hg.dep v v' e]
 ·exact hK _ _ _ _ (Any_.refl hI hl) (.inl e)
theorem j1n{ns:List Nd}{ids:Nd->Option Int}{full:Bool}{f g:Int}{F G:(Int->Bool)->Bool}{S:List Int}{K:Int->List Nd->(Nd->Option Int)->Bool->Prop}(hI:Inv ns ids)(hl:ns.length<=4000)(hf:Mb ns F S f)(hg:Mb ns G S g)
  (hK: ∀r ns' ids' full',Any_ ns ns' ids'->(r= -1002∨(f≠ -1002/\g≠ -1002/\Dgm ns' (fun v=>F v||G v) S r))->K r ns' ids' full'):Jw ns ids full f g K:=by
 refine j82 hI hl fun r ns' ids' full' C=> ?_
 rcases C with ⟨⟨a1,_,a3,_⟩,C⟩|⟨_,e,rfl,rfl,_⟩
 ·have f0:f≠ -1002:=fun e=>q2y (e▸a1)
  have g0:g≠ -1002:=fun e=>q2y (e▸a3)
  have hf:=hf.resolve_left f0
  have hg:=hg.resolve_left g0
  obtain⟨a,b⟩:=z5w C hI hf Dgm.tru hg
  refine hK _ _ _ _ a (b.imp id fun b=>⟨f0,g0,b.ok,fun v=> ?_,fun v v' e=> ?_⟩)
  ·rw[b.ev];show (if (if F v=true then true else G v)=true then _ else _)=if (F v||G v)=true then _ else _;cases F v<;>simp
  ·show (F v||G v)=(F v'||G v');rw[hf.dep v v' e,hg.dep v v' e]
 ·exact hK _ _ _ _ (Any_.refl hI hl) (.inl e)
theorem j33{ns:List Nd}{ids:Nd->Option Int}{full:Bool}{f:Int}{F:(Int->Bool)->Bool}{S:List Int}{K:Int->List Nd->(Nd->Option Int)->Bool->Prop}(hI:Inv ns ids)(hl:ns.length<=4000)(hf:Mb ns F S f)
  (hK: ∀r ns' ids' full',Any_ ns ns' ids'->(r= -1002∨(f≠ -1002/\Dgm ns' (fun v=> !F v) S r))->K r ns' ids' full'):J4 ns ids full f K:=by
 refine j67 hI hl fun r ns' ids' full' C=> ?_
 rcases C with ⟨⟨a1,_⟩,C⟩|⟨_,e,rfl,rfl,_⟩
 ·have f0:f≠ -1002:=fun e=>q2y (e▸a1)
  have hf:=hf.resolve_left f0
  obtain⟨a,b⟩:=z5w C hI hf Dgm.fls Dgm.tru
  refine hK _ _ _ _ a (b.imp id fun b=>⟨f0,b.ok,fun v=> ?_,fun v v' e=> ?_⟩)
  ·rw[b.ev];show (if (if F v=true then false else true)=true then _ else _)=if (!F v)=true then _ else _;cases F v<;>simp
  ·show (!F v)=(!F v');rw[hf.dep v v' e]
 ·exact hK _ _ _ _ (Any_.refl hI hl) (.inl e)
def WfN(e:Ex):Prop:= ∀a∈subs e,a.1=4->a.5.length=1
theorem WfN.self{e:Ex}(h:WfN e):e.1=4->e.5.length=1:=h e (by rw[Be];exact List.mem_cons_self)
theorem WfN.kid{e k:Ex}(h:WfN e)(hk:k∈e.5):WfN k:=fun a ha=>h a (by rw[Be];exact List.mem_cons_of_mem _ (Gl.2 ⟨k,hk,ha⟩))
theorem WfN.mk'{e:Ex}(h:e.1=4->e.5.length=1)(hk: ∀k∈e.5,WfN k):WfN e:=fun a ha=>by
 rw[Be] at ha
 rcases List.mem_cons.1 ha with rfl|ha
 ·exact h
 ·obtain⟨k,hk',ha⟩:=Gl.1 ha
  exact hk k hk' a ha
theorem j9a{segs:List ByteArray}:ClE segs fun _ e=>WfN e where
 hT k:=WfN.mk' (fun h=>absurd h (by show ¬(1:Int)=4;decide)) fun x hx=>by cases hx
 hS k b _:=WfN.mk' (fun h=>absurd h (by show ¬(5:Int)=4;decide)) fun x hx=>by cases hx
 ht k e h h6:=WfN.mk' (fun h4=>by omega) fun x hx=>by
  have h0:e.5=[]:=h.2.2.2
  rw[h0] at hx;cases hx
 hN k e h:=WfN.mk' (fun _=>rfl) fun x hx=>by rw[List.mem_singleton.1 hx];exact h
 hA k op l ho hl hne h:=WfN.mk' (fun h4=>by (have h4:op=4:=h4);omega) fun x hx=>by
  rcases h x hx with h|⟨e',h,rfl⟩
  ·exact h
  ·exact WfN.mk' (fun _=>rfl) fun x hx=>by rw[List.mem_singleton.1 hx];exact h
end Go.En
end
noncomputable section
set_option maxRecDepth 100000
namespace Go.En
open Go Go.Fl Go.Fl.Lk Go.Fx Go.Dg
def semI(ats:List Ex)(a:Ex)(v:Int->Bool):Int:=if sem ats a v=true then 1 else 0
def HolS(ats:List Ex)(ms:List Nd)(e:Ex):Prop:= ∀a∈subs e,Hol ms (semI ats a)
theorem HolS.pre{ats:List Ex}{ms ms':List Nd}{e:Ex}(h:HolS ats ms e)(hN:Nod ms)(hN':Nod ms')(hp:ms<+:ms'):HolS ats ms' e:=fun a ha=>(h a ha).pre hN hN' hp
theorem HolS.mk'{ats:List Ex}{ms:List Nd}{e:Ex}(h:Hol ms (semI ats e))(hk: ∀k∈e.5,HolS ats ms k):HolS ats ms e:=fun a ha=>by
 rw[Be] at ha
 rcases List.mem_cons.1 ha with rfl|ha
 ·exact h
 ·obtain⟨k,hk',ha⟩:=Gl.1 ha
  exact hk k hk' a ha
theorem Dgm.hol{ats:List Ex}{ms:List Nd}{e:Ex}{S:List Int}{r:Int}(h:Dgm ms (sem ats e) S r):Hol ms (semI ats e):=⟨r,h.ok,h.ev⟩
def Mc(ats:List Ex)(ns:List Nd)(e:Ex)(r:Int):Prop:=r= -1002∨Dgm ns (sem ats e) (lvs ats e) r/\HolS ats ns e
theorem Mc.mb{ats:List Ex}{ns:List Nd}{e:Ex}{r:Int}(h:Mc ats ns e r):Mb ns (sem ats e) (lvs ats e) r:=h.imp (fun e=>e) fun h=>h.1
theorem q6p{ats:List Ex}(ha: ∀x∈ats,ExS 5 x)(hal:ats.length<=1000): ∀(n:Nat) {ns:List Nd} {ids:Nd->Option Int} {full:Bool} {e:Ex} {K:Int->List Nd->(Nd->Option Int)->Bool->Prop},ExS n e->WfX e->WfN e->(∀x∈lvE e,x∈ats)->Inv ns ids->ns.length<=4000->
  (∀r ns' ids' full',Any_ ns ns' ids'->Mc ats ns' e r->K r ns' ids' full')->Gf ns ids full ats e K:=by
 intro n ns ids full e K he hw hwn hin hI hl h X hX
 induction n using Nat.strongRecOn generalizing ns ids full e K with
 |_ n ih=>
 refine hX _ _ _ _ _ _ ?_
 unfold R8
 rw[Uu]
 have hop:=he.opK
 obtain⟨w1,w2,w3⟩:=hw.self
 have zero:2<=e.op->e.op<=4->(0:Int)<(e.kids.length:Int):=fun a b=>by have:=List.length_pos_iff.2 (hop a b);omega
 have kid: ∀{y:Ex} {ns ids full} {K:Int->List Nd->(Nd->Option Int)->Bool->Prop},y∈e.kids->(∀x∈lvE y,x∈ats)->Inv ns ids->ns.length<=4000->(∀r ns' ids' full',Any_ ns ns' ids'->Mc ats ns' y r->K r ns' ids' full')->X ns ids full ats (Ex.mk y.1 y.2 y.3 y.4 y.5) K:=fun hy hi hI hr hK=>by
  obtain⟨m,hm,hk⟩:=he.kid hy
  rw[Uu]
  exact ih m (by omega) hk (hw.kid hy) (hwn.kid hy) hi hI hr hK
 have hse: ∀v,sem ats e v=if e.1=1 then true else if e.1=2 then bevA (fun x=>v (ixL ats x)) e.5 else if e.1=3 then bevO (fun x=>v (ixL ats x)) e.5 else if e.1=4 then bevN (fun x=>v (ixL ats x)) e.5 else v (ixL ats e):=fun v=>j1a _ e
 have hle:=Bw e
 have hls:lvs ats e=(lvE e).map fun x=>(ixL ats x:Int):=rfl
 have nod2:2<=e.op->e.op<=4-> ∀y∈e.kids,(∀x∈lvE y,x∈ats)/\ ∀i∈lvs ats y,i∈lvs ats e:=fun a b=>by
  have n1: ¬e.1=1:=by show ¬e.op=1;omega
  have n2:e.1=2∨e.1=3∨e.1=4:=by show e.op=2∨e.op=3∨e.op=4;omega
  rw[if_neg n1,if_pos n2] at hle
  refine fun y hy=>⟨fun x hx=>hin x (by rw[hle];exact q5n.2 ⟨y,hy,hx⟩),fun i hi=> ?_⟩
  obtain⟨x,hx,rfl⟩:=List.mem_map.1 hi
  rw[hls,hle]
  exact List.mem_map.2 ⟨x,q5n.2 ⟨y,hy,hx⟩,rfl⟩
 refine Cnd.mk (fun h1=> ?_) fun h1=>Cnd.mk (fun h4=> ?_) fun h4=> ?_
 ·have d:Dgm ns (sem ats e) (lvs ats e) (-2):=⟨⟨by omega,by omega⟩,fun v=>by rw[hse,if_pos h1,Zd (by omega)];rfl,fun v v' _=>by rw[hse,hse,if_pos h1,if_pos h1]⟩
  exact h _ _ _ _ (Any_.refl hI hl) (.inr ⟨d,HolS.mk' d.hol fun k hk=>by rw[w3 (.inl h1)] at hk;cases hk⟩)
 ·have k1:=nod2 (by omega) (by omega)
  refine⟨⟨by omega,zero (by omega) (by omega)⟩,fun y hy=> ?_⟩
  have hy0:e.kids[0]? =some y:=hy
  obtain⟨q1,q2⟩:=k1 y (getm hy)
  have hl1:e.5=[y]:=by
   have hn:=hwn.self h4
   cases hk:e.5 with
   |nil=>rw[hk] at hy0;cases hy0
   |cons a l=>
    rw[hk] at hn hy0
    have:l=[]:=List.length_eq_zero_iff.1 (by simpa using hn)
    rw[this,Option.some.inj hy0]
  refine kid (getm hy) q1 hI hl fun r ns1 ids1 full1 g1 m1=> ?_
  refine j33 (S:=lvs ats e) g1.inv g1.len (m1.mb.wide q2) fun r2 ns2 ids2 full2 g2 m2=>h _ _ _ _ (g1.trans g2) (m2.imp (fun e=>e) fun ⟨f0,d2⟩=> ?_)
  have hs1:=(m1.resolve_left f0).2
  have e1: ∀v,sem ats e v= !(sem ats y v):=fun v=>by
   rw[hse,if_neg h1,if_neg (show ¬e.1=2 by omega),if_neg (show ¬e.1=3 by omega),if_pos h4,hl1];rfl
  have d:Dgm ns2 (sem ats e) (lvs ats e) r2:=⟨d2.ok,fun v=>by rw[e1];exact d2.ev v,fun v v' ee=>by rw[e1,e1];exact d2.dep v v' ee⟩
  refine⟨d,HolS.mk' d.hol fun k hk=> ?_⟩
  rw[hl1] at hk
  rw[List.mem_singleton.1 hk]
  exact hs1.pre g1.inv.nod g2.inv.nod g2.pre
 refine Jn1.mk (fun b=>(b=true->e.op=2∨e.op=3)/\(b=false->e.op≠2/\e.op≠3)) (Cnd.mk (fun hc=>⟨fun _=> .inl hc,fun hb=>absurd hc (of_decide_eq_false hb)⟩) fun hc=>⟨fun hd=> .inr (of_decide_eq_true hd),fun hd=>⟨hc,of_decide_eq_false hd⟩⟩) fun b hb=>Cnd.mk (fun hc=> ?_) fun hc=> ?_
 ·have h23:=hb.1 hc
  have o1:2<=e.op:=by omega
  have o2:e.op<=4:=by omega
  have k1:=nod2 o1 o2
  refine⟨⟨by omega,zero o1 o2⟩,fun y hy=> ?_⟩
  have hy0:e.kids[0]? =some y:=hy
  have hlen:=Qe hy0
  obtain⟨q1,q2⟩:=k1 y (getm hy)
  refine kid (getm hy) q1 hI hl fun r ns1 ids1 full1 g1 m1=> ?_
  have t1:e.kids.take 1=[y]:=by
   cases hk:e.kids with
   |nil=>rw[hk] at hy0;cases hy0
   |cons a l=>rw[hk] at hy0;rw[←Option.some.inj hy0];rfl
  let FF:List Ex->(Int->Bool)->Bool:=fun l v=>if e.1=2 then bevA (fun x=>v (ixL ats x)) l else bevO (fun x=>v (ixL ats x)) l
  have f1: ∀v,FF (e.kids.take 1) v=sem ats y v:=fun v=>by
   show (if e.1=2 then bevA _ (e.kids.take 1) else bevO _ (e.kids.take 1))=_
   rw[t1]
   by_cases h2:e.1=2
   ·rw[if_pos h2];simp[bevA,sem]
   ·rw[if_neg h2];simp[bevO,sem]
  refine Lp5.ind (fun (f i:Int) ns2 _ ids2=> ∃j:Nat,i=(j:Int)/\1<=j/\j<=e.kids.length/\Any_ ns ns2 ids2/\Mb ns2 (FF (e.kids.take j)) (lvs ats e) f/\(f≠ -1002-> ∀y∈e.kids.take j,HolS ats ns2 y)) (fun _ (i:Int) _ _ _=>(e.kids.length - i).toNat) ?_ ⟨1,rfl,by omega,by omega,g1,(m1.mb.wide q2).eq f1,fun f0 z hz=>by rw[t1] at hz;rw[List.mem_singleton.1 hz];exact (m1.resolve_left f0).2⟩
  rintro f i ns2 full2 ids2 ⟨j,rfl,j1,j2,g2,d2,s2⟩ _
  refine Cnd.mk (fun hc2=>⟨by omega,fun z hz=> ?_⟩) fun hc2=> ?_
  ·have hz:e.kids[j]? =some z:=hz
   obtain⟨z1,z2⟩:=k1 z (getm hz)
   have tk:e.kids.take (j+1)=e.kids.take j++[z]:=by rw[List.take_add_one,hz];rfl
   have hk3:=he.kids
   refine kid (getm hz) z1 g2.inv g2.len fun r3 ns3 ids3 full3 g3 m3=> ?_
   have d2':=d2.pre g2.inv.nod g3.inv.nod g3.pre
   have fin: ∀{G:(Int->Bool)->Bool} {r4:Int} {ns4:List Nd} {ids4:Nd->Option Int},(∀v,FF (e.kids.take (j+1)) v=G v)->Any_ ns3 ns4 ids4->(r4= -1002∨(f≠ -1002/\r3≠ -1002/\Dgm ns4 G (lvs ats e) r4))->InI ((j:Int)+1)/\(∃j':Nat,(j:Int)+1=(j':Int)/\1<=j'/\j'<=e.kids.length/\Any_ ns ns4 ids4/\Mb ns4 (FF (e.kids.take j')) (lvs ats e) r4/\(r4≠ -1002-> ∀y∈e.kids.take j',HolS ats ns4 y))/\(e.kids.length - ((j:Int)+1)).toNat<(e.kids.length - (j:Int)).toNat:=fun hG g4 m4=>by
    refine⟨by unfold InI;omega,⟨j+1,by omega,by omega,by omega,(g2.trans g3).trans g4,Mb.eq (m4.imp (fun e=>e) fun q=>q.2.2) hG,fun r0 y hy=> ?_⟩,by omega⟩
    obtain⟨f0,r30,_⟩:=m4.resolve_left r0
    rw[tk] at hy
    rcases List.mem_append.1 hy with hy|hy
    ·exact ((s2 f0 y hy).pre g2.inv.nod g3.inv.nod g3.pre).pre g3.inv.nod g4.inv.nod g4.pre
    ·rw[List.mem_singleton.1 hy]
     exact (m3.resolve_left r30).2.pre g3.inv.nod g4.inv.nod g4.pre
   refine Cnd.mk (fun h2=>j32 (S:=lvs ats e) g3.inv g3.len d2' (m3.mb.wide z2) fun r4 ns4 ids4 full4 g4 m4=>fin (fun v=> ?_) g4 m4) fun h2=>j1n (S:=lvs ats e) g3.inv g3.len d2' (m3.mb.wide z2) fun r4 ns4 ids4 full4 g4 m4=>fin (fun v=> ?_) g4 m4
   ·show (if e.1=2 then bevA _ (e.kids.take (j+1)) else _)=((if e.1=2 then bevA _ (e.kids.take j) else _) && _)
    rw[if_pos h2,if_pos h2,tk,j1b];rfl
   ·show (if e.1=2 then _ else bevO _ (e.kids.take (j+1)))=((if e.1=2 then _ else bevO _ (e.kids.take j))||_)
    rw[if_neg h2,if_neg h2,tk,j1c];rfl
  ·have hj:j=e.kids.length:=by omega
   subst hj
   rw[List.take_of_length_le (Nat.le_refl _)] at d2 s2
   have es: ∀v,sem ats e v=FF e.kids v:=fun v=>by
    rw[hse,if_neg h1]
    show _=if e.1=2 then bevA _ e.kids else bevO _ e.kids
    by_cases h2:e.1=2
    ·rw[if_pos h2,if_pos h2]
    ·rw[if_neg h2,if_neg h2,if_pos (h23.resolve_left h2)]
   refine h _ _ _ _ g2 ?_
   by_cases f0:f= -1002
   ·exact .inl f0
   ·have d:=(d2.eq es).resolve_left f0
    exact .inr ⟨d,HolS.mk' d.hol (s2 f0)⟩
 ·obtain⟨n2,n3⟩:=hb.2 (by simpa using hc)
  have nn: ¬(e.1=2∨e.1=3∨e.1=4):=fun o=>o.elim n2 fun o=>o.elim n3 h4
  have n5:5<=e.1:=by omega
  rw[if_neg h1,if_neg nn] at hle
  refine q62 ha fun r hr=> ?_
  rcases hr with ⟨rfl,hne⟩|⟨r0,hr,hnt⟩
  ·exact absurd (hin e (by rw[hle];exact List.mem_singleton.2 rfl)) hne
  have hix:=j1d hr hnt
  have hrl:=Qe hr
  have hr2:((ixL ats e:Nat):Int)=r:=by rw[hix];omega
  have es: ∀v,sem ats e v=v r:=fun v=>by rw[hse,if_neg h1,if_neg n2,if_neg n3,if_neg h4,hr2]
  have hO:q2w ns r (-2) (-1):=⟨r0,by omega,⟨by omega,by omega⟩,⟨by omega,by omega⟩,by show r<if (-2:Int)<0 then 1001 else _;rw[if_pos (by decide)];omega,by show r<if (-1:Int)<0 then 1001 else _;rw[if_pos (by decide)];omega⟩
  refine Cnd.no (by omega) (z63 hl ?_)
  obtain⟨g,_,q⟩:=z16 (r:=(node ns ids full r (-2) (-1)).1) (ns':=(node ns ids full r (-2) (-1)).2.1) (ids':=(node ns ids full r (-2) (-1)).2.2.1) (full':=(node ns ids full r (-2) (-1)).2.2.2) hI hl hO rfl
  refine h _ _ _ _ ⟨g.inv,g.pre,g.len⟩ ?_
  rcases q with ⟨e,_,_⟩|⟨_,ok,_,hev⟩
  ·exact .inl e
  ·have d:Dgm (node ns ids full r (-2) (-1)).2.1 (sem ats e) (lvs ats e) (node ns ids full r (-2) (-1)).1:=⟨ok,fun v=>by rw[hev v,Zd (by omega),Zd (by omega),es];rfl,fun v v' ee=>by
    rw[es,es]
    refine ee r ?_
    rw[hls,hle,←hr2];exact List.mem_singleton.2 rfl⟩
   exact .inr ⟨d,HolS.mk' d.hol fun k hk=>by rw[w3 (.inr n5)] at hk;cases hk⟩
end Go.En
end
