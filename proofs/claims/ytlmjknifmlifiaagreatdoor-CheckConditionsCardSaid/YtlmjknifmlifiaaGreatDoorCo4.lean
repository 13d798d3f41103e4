/- CheckConditions: the diagram of a condition stands for its truth by the atoms This is part 4 of 9. Conditions: those in the statements. -/
import Derived.Test.YtlmjknifmlifiaaGreatDoorCo3
import Derived.KernelRfl
import Derived.Conc.MuLone
import Derived.RangeFuncMany
import Derived.Sort.MapsRangeIn
import Derived.WalkKit
import Derived.OwnWalkIn
import Derived.TacticsInMore
import Derived.RegionIn
import Derived.LoopNIn
import Derived.LoopIn
import Derived.RangeFuncLeaves
import Derived.Shelf.SlIter.Collect
import Derived.Sort.OwnSortedInts
import GoSem.Core.Utf8
import Derived.Lib.ValidU
noncomputable section
set_option maxRecDepth 100000
namespace Go.Proofs.YtlmjknifmlifiaaGreatDoor
open Go Go.Proofs Go.RowKit Go.Fl
set_option maxHeartbeats 2000000 in
theorem z1g{σ:Hv}{w:World}(edges_p:(List (ByteArray×ByteArray)))(v1:Value){K:(ByteArray->Option (List ByteArray))->Prop}(hV:View σ w)(hr1:RSl 2 (REnc j5i) σ v1 edges_p)(hP:H9 edges_p K):
    Calls Tryz.prog 113 #[v1] w (fun e w1=> ∃(r1:(ByteArray->Option (List ByteArray))) (v2:Value) (σ1:Hv),e= .returned v2/\Grow [] σ w σ1 w1/\RMp (RSl 1 (REnc Qt)) σ1 v2 r1/\K r1):=by
 unfold H9 at hP
 obtain⟨a1,cap1,rfl⟩:=hr1.shape
 refine enter Tryz.func113 rfl rfl rfl ?_
 have hS:=St.start hV
 refine Q9 (Zp (v:=(.map none)) rfl (wpList_nil (Qx (Q9 (z7g 9 1 Qt hS ?_)))))
 intro b1 w1 hS1
 refine Zp (v:=(.map (some b1))) rfl (wpList_nil (Qx (wp_seq (Q9 (Zr (v:=(.slice a1 edges_p.length cap1)) rfl (q3t rfl Tryz.underlying113 ?_))))))
 have hlen1:=RSl.len63 hr1
 replace hP:=hP hlen1
 refine Zr (v:=(.int .i64 (0:Int))) rfl (wpList_nil (Qx (wp_block ?_)))
 refine z0u (fun k_3 F_2 f z=> ∃(es2:EL ByteArray) (σ1:Hv) (g:Fr),f=(upd (upd (upd (upd g 3 (.map (some b1))) 7 (.slice a1 edges_p.length cap1)) 8 (.int .i64 ((edges_p.length:Nat):Int))) 9 (.int .i64 ((k_3:Nat):Int)))/\St ⟨w,σ,[]⟩ z σ1 (smap b1 (asl es2)::U5 9 1 Qt es2)/\Sub σ σ1/\ELF es2 F_2) hP ⟨[],σ,_,(Q1 rfl (Q1 rfl (Q1 rfl (Q1 rfl rfl)))),hS1,(Sub.refl _),ELF.nil⟩ ?_
 clear hP
 rintro k_3 F_2 Y1 hP f w2 ⟨es2,σ1,g,rfl,hS2,hsub1,hF2⟩
 refine Q9 (j47 (r:=(decide (((k_3:Nat):Int)<((edges_p.length:Nat):Int)))) rfl rfl rfl (wpList_nil (Qx (wp_seq ?_))))
 refine if_d (((k_3:Nat):Int)<((edges_p.length:Nat):Int)) rfl (fun ht1=> ?_) (fun ht1=> ?_)
 ·
  replace hP:=hP.1 ht1
  refine wp_skip (Qx (wp_seq (wp_block (Q9 ?_))))
  obtain⟨x1_,hx1⟩:=getq (l:=edges_p) (k:=k_3) (by have:=ht1;omega)
  replace hP:=hP x1_ hx1
  obtain⟨ad1,cs1,ha1,hl1,hr3,hR1,hlt1⟩:=RSl.at hr1 hx1
  cases hR1
  refine H5 (k:=k_3) (a':=(ad1.add (k_3*2))) (congrArg (fun z=>Value.slice z _ _) ha1) rfl rfl hlt1 Tryz.underlying113 Tryz.sizeOf118 rfl (j48 (cs:=[(.string x1_.1),(.string x1_.2)]) rfl Tryz.isAgg118 Tryz.sizeOf118 rfl (hr3.row (View.of hsub1 hS2.view)) (j5a (cs:=[(.string (⟨#[]⟩:ByteArray)),(.string (⟨#[]⟩:ByteArray))]) hS2 Tryz.zeroValue118 rfl ?_))
  intro b2 w3 hS3
  refine j49 (T:=118) (vs:=[(.string x1_.1),(.string x1_.2)]) (cs':=[(.string x1_.1),(.string x1_.2)]) (ms':=(blk b2 118 [(.string x1_.1),(.string x1_.2)]::smap b1 (asl es2)::U5 9 1 Qt es2)) (i:=0) hS3 rfl rfl rfl Tryz.sizeOf118 rfl (ones rfl) rfl (Nat.le_of_ble_eq_true rfl) rfl rfl ?_
  intro w4 hS4
  refine wpList_nil (Qx (dr (fun z=>St ⟨w,σ,[]⟩ z σ1 [blk b2 118 [(.string x1_.1),(.string x1_.2)]]) (by kernel_rfl) rfl ?_))
  have hS5:=hS4.drew
  refine dt 0 1 (v:=(.map (some b1))) (by kernel_rfl) rfl rfl (fun _ _ _ h=>h) (hS5.sublist (.cons_cons _ (List.nil_sublist _))) (fun _ _ _ hK=>Zr (v:=(.map (some b1))) rfl ⟨rfl,hK⟩) (dt 1 3 (v:=(.pointer (some ⟨b2,0,none⟩))) (by kernel_rfl) rfl rfl (fun _ _ _ h=>h) (hS5.sublist (.cons_cons _ (List.nil_sublist _))) (fun _ _ _ hK=>z4i (a':=⟨b2,0,none⟩) rfl Tryz.underlying118 rfl Tryz.sizeOf9 rfl ⟨rfl,hK⟩) (dt 2 7 (v:=(.string x1_.1)) (by kernel_rfl) rfl rfl (fun _ _ _ h=>h) (hS5.sublist (.cons_cons _ (List.nil_sublist _))) (fun _ hJ _ hK=>q91 (v:=(.string x1_.1)) rfl Tryz.isAgg9 (hJ.cell (i:=0) rfl rfl) ⟨rfl,hK⟩) (dt 3 15 (v:=(.map (some b1))) (by kernel_rfl) rfl rfl (fun _ _ _ h=>h) (hS5.sublist (.cons_cons _ (List.nil_sublist _))) (fun _ _ _ hK=>Zr (v:=(.map (some b1))) rfl ⟨rfl,hK⟩) (dt 4 31 (v:=(.pointer (some ⟨b2,0,none⟩))) (by kernel_rfl) rfl rfl (fun _ _ _ h=>h) (hS5.sublist (.cons_cons _ (List.nil_sublist _))) (fun _ _ _ hK=>z4i (a':=⟨b2,0,none⟩) rfl Tryz.underlying118 rfl Tryz.sizeOf9 rfl ⟨rfl,hK⟩) (dt 5 63 (v:=(.string x1_.1)) (by kernel_rfl) rfl rfl (fun _ _ _ h=>h) (hS5.sublist (.cons_cons _ (List.nil_sublist _))) (fun _ hJ _ hK=>q91 (v:=(.string x1_.1)) rfl Tryz.isAgg9 (hJ.cell (i:=0) rfl rfl) ⟨rfl,hK⟩) (dt 7 191 (v:=(.pointer (some ⟨b2,1,none⟩))) (by kernel_rfl) rfl rfl (fun _ _ _ h=>h) (hS5.sublist (.cons_cons _ (List.nil_sublist _))) (fun _ _ _ hK=>z4i (a':=⟨b2,1,none⟩) rfl Tryz.underlying118 rfl Tryz.sizeOf9 rfl ⟨rfl,hK⟩) (dt 8 447 (v:=(.string x1_.2)) (by kernel_rfl) rfl rfl (fun _ _ _ h=>h) (hS5.sublist (.cons_cons _ (List.nil_sublist _))) (fun _ hJ _ hK=>q91 (v:=(.string x1_.2)) rfl Tryz.isAgg9 (hJ.cell (i:=0) rfl rfl) ⟨rfl,hK⟩) ?_)))))))
  refine d2 6 9 511 959 (by kernel_rfl) rfl rfl rfl rfl ?_ ?_
  ·
   obtain⟨v3,hv1⟩: ∃v,(asl es2 x1_.1).getD (.slice none 0 0)=v:=⟨_,rfl⟩
   refine z8q (i:=1) (v:=v3) hS5 rfl rfl rfl Tryz.underlying176 Tryz.underlying9 Tryz.zeroValue72 hv1 (wpList_nil ?_)
   refine⟨rfl,(hS5.sublist (.cons_cons _ (List.nil_sublist _))),?_⟩
   refine d1 9 1023 (by kernel_rfl) rfl (q4g (cs:=[(.string x1_.2)]) (e:=9) hS5 (fun _=>by kernel_rfl) ?_)
   intro b3 w5 hS6
   refine wpList_nil ?_
   refine⟨rfl,(hS6.sublist (.cons _ (.cons_cons _ (List.nil_sublist _)))),?_⟩
   refine d1 10 2047 (by kernel_rfl) rfl ?_
   obtain⟨es3,hS7,hL1,hl2⟩:=St.borrow (ms:=[blk b3 9 [(.string x1_.2)],blk b2 118 [(.string x1_.1),(.string x1_.2)],smap b1 (asl es2)]) hS6 hF2 x1_.1 hv1
   obtain⟨hsm1,hP⟩:=hP
   refine j2a (Ms:=fun v4=>(vec v4 9 1 ((((F_2 x1_.1).getD [])++[x1_.2]).length) ((((F_2 x1_.1).getD [])++[x1_.2]).flatMap Qt)::blk b3 9 [(.string x1_.2)]::blk b2 118 [(.string x1_.1),(.string x1_.2)]::smap b1 (asl es2)::U5 9 1 Qt es3)) (k':=(((F_2 x1_.1).getD [])++[x1_.2]).length) (xs':=(((F_2 x1_.1).getD [])++[x1_.2]).flatMap Qt) Tryz.underlying72 Tryz.type9 rfl rfl (bytes:=16) rfl rfl (Nat.succ_pos _) hS7 rfl (q:=0) rfl rfl rfl (Rq (hS7.get (i:=1) rfl)) (ones rfl) hsm1 (by omega) (by first|rfl|exact List.length_append.symm|simp) (by simp[Qt]) (fun _=>rfl) ?_
   intro v4 w6 ho1 hS8
   have hS9:=hS8.drop 1 (ms':=(vec v4 9 1 ((((F_2 x1_.1).getD [])++[x1_.2]).length) ((((F_2 x1_.1).getD [])++[x1_.2]).flatMap Qt)::blk b2 118 [(.string x1_.1),(.string x1_.2)]::smap b1 (asl es2)::U5 9 1 Qt es3)) rfl
   refine wpList_nil ?_
   refine⟨rfl,(hS9.sublist (.cons _ (.cons_cons _ (List.nil_sublist _)))),?_⟩
   refine d1 11 4095 (by kernel_rfl) rfl (j5g (v:=v4) (i:=2) (ms':=(vec v4 9 1 ((((F_2 x1_.1).getD [])++[x1_.2]).length) ((((F_2 x1_.1).getD [])++[x1_.2]).flatMap Qt)::blk b2 118 [(.string x1_.1),(.string x1_.2)]::smap b1 (fun k'=>if k'=x1_.1 then some v4 else asl es2 k')::U5 9 1 Qt es3)) hS9 rfl rfl rfl rfl Tryz.underlying176 Tryz.underlying9 rfl ?_)
   intro w7 hS10
   have hS12:=St.giveback (ms:=[blk b2 118 [(.string x1_.1),(.string x1_.2)],smap b1 (fun k'=>if k'=x1_.1 then some v4 else asl es2 k')]) (ms':=[blk b2 118 [(.string x1_.1),(.string x1_.2)],smap b1 (asl ((x1_.1,v4,((F_2 x1_.1).getD [])++[x1_.2])::es3))]) (i:=1) hS10 hL1 rfl rfl
   have hF3:=ELF.put (v:=v4) hF2 hL1 hsm1
   refine wpList_nil ?_
   refine⟨rfl,(hS12.sublist (.cons_cons _ (List.nil_sublist _))),z0s (J':=fun z=>St ⟨w,σ,[]⟩ z σ1 (blk b2 118 [(.string x1_.1),(.string x1_.2)]::smap b1 (asl ((x1_.1,v4,((F_2 x1_.1).getD [])++[x1_.2])::es3))::U5 9 1 Qt ((x1_.1,v4,((F_2 x1_.1).getD [])++[x1_.2])::es3))) (fun w h=>h.sublist (.cons_cons _ (List.nil_sublist _))) _ _ _ _ ?_⟩
   refine dz (by kernel_rfl) (z4k (Qx (q11 (z7c (r:=((k_3+1:Nat):Int)) rfl rfl (nw (by omega) (by omega) (by have:=hlen1;omega)) (Zr (v:=(.int .i64 ((k_3+1:Nat):Int))) rfl (wpList_nil (Qx ?_)))))))
   exact⟨k_3+1,(put F_2 x1_.1 (((F_2 x1_.1).getD [])++[x1_.2])),_,rfl,hP,((x1_.1,v4,((F_2 x1_.1).getD [])++[x1_.2])::es3),σ1,_,(Q1 rfl (Q1 rfl (Q1 rfl (Q1 rfl rfl)))),(hS12.sublist (ms':=(smap b1 (asl ((x1_.1,v4,((F_2 x1_.1).getD [])++[x1_.2])::es3))::U5 9 1 Qt ((x1_.1,v4,((F_2 x1_.1).getD [])++[x1_.2])::es3))) (.cons _ (List.Sublist.refl _))),hsub1,hF3⟩
  ·
   refine q4g (cs:=[(.string x1_.2)]) (e:=9) hS5 (fun _=>by kernel_rfl) ?_
   intro b3 w5 hS6
   refine wpList_nil ?_
   refine⟨rfl,(hS6.sublist (.cons _ (.cons_cons _ (List.nil_sublist _)))),?_⟩
   refine d1 6 1023 (by kernel_rfl) rfl ?_
   obtain⟨v3,hv1⟩: ∃v,(asl es2 x1_.1).getD (.slice none 0 0)=v:=⟨_,rfl⟩
   refine z8q (i:=2) (v:=v3) hS6 rfl rfl rfl Tryz.underlying176 Tryz.underlying9 Tryz.zeroValue72 hv1 (wpList_nil ?_)
   refine⟨rfl,(hS6.sublist (.cons _ (.cons_cons _ (List.nil_sublist _)))),?_⟩
   refine d1 10 2047 (by kernel_rfl) rfl ?_
   obtain⟨es3,hS7,hL1,hl2⟩:=St.borrow (ms:=[blk b3 9 [(.string x1_.2)],blk b2 118 [(.string x1_.1),(.string x1_.2)],smap b1 (asl es2)]) hS6 hF2 x1_.1 hv1
   obtain⟨hsm1,hP⟩:=hP
   refine j2a (Ms:=fun v4=>(vec v4 9 1 ((((F_2 x1_.1).getD [])++[x1_.2]).length) ((((F_2 x1_.1).getD [])++[x1_.2]).flatMap Qt)::blk b3 9 [(.string x1_.2)]::blk b2 118 [(.string x1_.1),(.string x1_.2)]::smap b1 (asl es2)::U5 9 1 Qt es3)) (k':=(((F_2 x1_.1).getD [])++[x1_.2]).length) (xs':=(((F_2 x1_.1).getD [])++[x1_.2]).flatMap Qt) Tryz.underlying72 Tryz.type9 rfl rfl (bytes:=16) rfl rfl (Nat.succ_pos _) hS7 rfl (q:=0) rfl rfl rfl (Rq (hS7.get (i:=1) rfl)) (ones rfl) hsm1 (by omega) (by first|rfl|exact List.length_append.symm|simp) (by simp[Qt]) (fun _=>rfl) ?_
   intro v4 w6 ho1 hS8
   have hS9:=hS8.drop 1 (ms':=(vec v4 9 1 ((((F_2 x1_.1).getD [])++[x1_.2]).length) ((((F_2 x1_.1).getD [])++[x1_.2]).flatMap Qt)::blk b2 118 [(.string x1_.1),(.string x1_.2)]::smap b1 (asl es2)::U5 9 1 Qt es3)) rfl
   refine wpList_nil ?_
   refine⟨rfl,(hS9.sublist (.cons _ (.cons_cons _ (List.nil_sublist _)))),?_⟩
   refine d1 11 4095 (by kernel_rfl) rfl (j5g (v:=v4) (i:=2) (ms':=(vec v4 9 1 ((((F_2 x1_.1).getD [])++[x1_.2]).length) ((((F_2 x1_.1).getD [])++[x1_.2]).flatMap Qt)::blk b2 118 [(.string x1_.1),(.string x1_.2)]::smap b1 (fun k'=>if k'=x1_.1 then some v4 else asl es2 k')::U5 9 1 Qt es3)) hS9 rfl rfl rfl rfl Tryz.underlying176 Tryz.underlying9 rfl ?_)
   intro w7 hS10
   have hS12:=St.giveback (ms:=[blk b2 118 [(.string x1_.1),(.string x1_.2)],smap b1 (fun k'=>if k'=x1_.1 then some v4 else asl es2 k')]) (ms':=[blk b2 118 [(.string x1_.1),(.string x1_.2)],smap b1 (asl ((x1_.1,v4,((F_2 x1_.1).getD [])++[x1_.2])::es3))]) (i:=1) hS10 hL1 rfl rfl
   have hF3:=ELF.put (v:=v4) hF2 hL1 hsm1
   refine wpList_nil ?_
   refine⟨rfl,(hS12.sublist (.cons_cons _ (List.nil_sublist _))),z0s (J':=fun z=>St ⟨w,σ,[]⟩ z σ1 (blk b2 118 [(.string x1_.1),(.string x1_.2)]::smap b1 (asl ((x1_.1,v4,((F_2 x1_.1).getD [])++[x1_.2])::es3))::U5 9 1 Qt ((x1_.1,v4,((F_2 x1_.1).getD [])++[x1_.2])::es3))) (fun w h=>h.sublist (.cons_cons _ (List.nil_sublist _))) _ _ _ _ ?_⟩
   refine dz (by kernel_rfl) (z4k (Qx (q11 (z7c (r:=((k_3+1:Nat):Int)) rfl rfl (nw (by omega) (by omega) (by have:=hlen1;omega)) (Zr (v:=(.int .i64 ((k_3+1:Nat):Int))) rfl (wpList_nil (Qx ?_)))))))
   exact⟨k_3+1,(put F_2 x1_.1 (((F_2 x1_.1).getD [])++[x1_.2])),_,rfl,hP,((x1_.1,v4,((F_2 x1_.1).getD [])++[x1_.2])::es3),σ1,_,(Q1 rfl (Q1 rfl (Q1 rfl (Q1 rfl rfl)))),(hS12.sublist (ms':=(smap b1 (asl ((x1_.1,v4,((F_2 x1_.1).getD [])++[x1_.2])::es3))::U5 9 1 Qt ((x1_.1,v4,((F_2 x1_.1).getD [])++[x1_.2])::es3))) (.cons _ (List.Sublist.refl _))),hsub1,hF3⟩
 ·
  replace hP:=hP.2 ht1
  refine wp_exit (q6q (q6q (z0r (Qx (Q9 (Zr (v:=(.map (some b1))) rfl (Zp (v:=(.map (some b1))) rfl (wpList_nil (Qx (wp_ret (ret1 rfl (show ev _ _ _=(.map (some b1)) from rfl) ?_)))))))))))
  obtain⟨σ2,hS13,hsub2,hr4⟩:=St.freezeL (ms:=[smap b1 (asl es2)]) (ms':=[]) (i:=0) hS2 hF2 q4j rfl rfl
  exact⟨F_2,(.map (some b1)),σ2,rfl,hS13.done,hr4,hP⟩
set_option maxHeartbeats 2000000 in
theorem z1h{σ:Hv}{w:World}(needs_p:(ByteArray->Option (List ByteArray)))(node_p:ByteArray)(v1:Value){K:(ByteArray->Option Bool)->Prop}(hV:View σ w)(hr1:RMp (RSl 1 (REnc Qt)) σ v1 needs_p)(hP:q06 needs_p node_p K):
    Calls Tryz.prog 116 #[v1,(.string node_p)] w (fun e w1=> ∃(r1:(ByteArray->Option Bool)) (b1:Nat),e= .returned (.map (some b1))/\St ⟨w,σ,[]⟩ w1 σ [emap b1 (fun y:Bool=>(Value.bool (y))) r1]/\K r1):=by
 unfold q06 at hP
 obtain⟨b2,rfl⟩:=hr1.shape
 refine enter Tryz.func116 rfl rfl rfl ?_
 have hS:=St.start hV
 refine Q9 (Zp (v:=(.map none)) rfl (wpList_nil (Qx (Q9 (j5h (fun y:Bool=>(Value.bool (y))) hS ?_)))))
 intro b3 w1 hS1
 refine Zp (v:=(.map (some b3))) rfl (wpList_nil (Qx (Q9 (Zr (v:=(.string node_p)) rfl (q4g (cs:=[(.string node_p)]) (e:=9) hS1 (fun _=>by kernel_rfl) ?_)))))
 intro b4 w2 hS2
 refine Zp (v:=(.slice (some ⟨b4,0,none⟩) 1 1)) rfl (wpList_nil (Qx (wp_seq (wp_block ?_))))
 have hS3:=hS2.asVec (i:=0) (ms':=[vec (.slice (some ⟨b4,0,none⟩) 1 1) 9 1 1 (([node_p]).flatMap Qt),emap b3 (fun y:Bool=>(Value.bool (y))) (fun _=>none)]) (size:=1) rfl rfl (by unfold maxLen;omega) rfl
 refine z0u (fun open_3 F_2 f z=> ∃(v4:Value) (σ1:Hv) (g:Fr),f=(upd (upd (upd g 0 (.map (some b2))) 5 (.map (some b3))) 6 v4)/\St ⟨w,σ,[]⟩ z σ1 [vec v4 9 1 open_3.length ((open_3).flatMap Qt),emap b3 (fun y:Bool=>(Value.bool (y))) F_2]/\Sub σ σ1/\v4.oneCell'=true/\Sml open_3.length) hP ⟨(.slice (some ⟨b4,0,none⟩) 1 1),σ,_,(Q1 rfl (Q1 rfl (Q1 rfl rfl))),hS3,(Sub.refl _),rfl,(by simp[Sml])⟩ ?_
 clear hP
 rintro open_3 F_2 Y1 hP f w3 ⟨v4,σ1,g,rfl,hS4,hsub1,ho3,hl3⟩
 refine wp_seq (Q9 (Zr (v:=v4) rfl (q4h hS4 rfl (i:=0) rfl Tryz.underlying72 ?_)))
 have hlen1:open_3.length<=9223372036854775807:=by have:=hl3;unfold Sml at this;omega
 replace hP:=hP hlen1
 refine j90 (r:=(decide ((0:Int)<((open_3.length:Nat):Int)))) rfl rfl rfl (wpList_nil (Qx ?_))
 refine if_d ((0:Int)<((open_3.length:Nat):Int)) rfl (fun ht1=> ?_) (fun ht1=> ?_)
 ·
  replace hP:=hP.1 ht1
  refine wp_skip (Qx (wp_block (Q9 (Zr (v:=v4) rfl (Zr (v:=v4) rfl (q4h hS4 rfl (i:=0) rfl Tryz.underlying72 ?_))))))
  obtain⟨hi1,hP⟩:=hP
  refine j73 (r:=(((open_3.length:Nat):Int) - (1:Int))) rfl rfl (nwi rfl hi1) ?_
  obtain⟨j1_,hj1,hP⟩:=hP
  obtain⟨x1_,hx1,hP⟩:=hP
  obtain⟨g1,cp1,hv1⟩:=z5z (hS4.get (i:=0) rfl) (Qe hx1)
  refine H5 (k:=j1_) (a':=⟨g1,j1_*1,none⟩) hv1 rfl hj1 (Qe hx1) Tryz.underlying72 Tryz.sizeOf9 (by simp[Wm]) (q91 (v:=(.string x1_)) rfl Tryz.isAgg9 (z2n q4j (j:=0) hv1 (hS4.get (i:=0) rfl) hx1 rfl) (Zp (v:=(.string x1_)) rfl (wpList_nil (Qx (Q9 (Zr (v:=v4) rfl (Zr (v:=v4) rfl (q4h hS4 rfl (i:=0) rfl Tryz.underlying72 ?_))))))))
  obtain⟨hi2,hP⟩:=hP
  refine j73 (r:=(((open_3.length:Nat):Int) - (1:Int))) rfl rfl (nwi rfl hi2) ?_
  obtain⟨j2_,hj2,hP⟩:=hP
  obtain⟨hle1,hP⟩:=hP
  obtain⟨a1,cap1,hv2,hv2c⟩:=q7g (hS4.get (i:=0) rfl)
  subst hv2
  refine j12 (r:=j2_) rfl Tryz.underlying72 Tryz.sizeOf9 (congrArg (Value.int .i64) hj2) (by omega) ?_
  have hS5:=St.cut (ms':=[vec (.slice a1 j2_ cap1) 9 1 ((open_3.take j2_).length) (((open_3.take j2_)).flatMap Qt),emap b3 (fun y:Bool=>(Value.bool (y))) F_2]) (i:=0) hS4 rfl q4j hle1 rfl
  refine Zp (v:=(.slice a1 j2_ cap1)) rfl (wpList_nil (Qx (Q9 (Zr (v:=(.map (some b2))) rfl (Zr (v:=(.string x1_)) rfl ?_)))))
  obtain⟨v5,hl4,hz1⟩:=RMp.at (z:= .slice none 0 0) (z0:=[]) RSl.nil hr1 x1_
  obtain⟨a2,cap2,rfl⟩:=hz1.shape
  refine j5j (v:=(.slice a2 ((needs_p x1_).getD []).length cap2)) hl4 (View.of hsub1 hS5.view) rfl rfl Tryz.underlying176 Tryz.underlying9 Tryz.zeroValue72 (q3t rfl Tryz.underlying72 ?_)
  have hlen4:=RSl.len63 hz1
  replace hP:=hP hlen4
  refine Zr (v:=(.int .i64 (0:Int))) rfl (wpList_nil (Qx (wp_block ?_)))
  refine j19 (fun open_6 k_3 F_4 f z=> ∃(v8:Value) (σ2:Hv) (g:Fr),f=(upd (upd (upd (upd (upd (upd g 0 (.map (some b2))) 5 (.map (some b3))) 6 v8) 29 (.slice a2 ((needs_p x1_).getD []).length cap2)) 30 (.int .i64 ((((needs_p x1_).getD []).length:Nat):Int))) 31 (.int .i64 ((k_3:Nat):Int)))/\St ⟨w,σ,[]⟩ z σ2 [vec v8 9 1 open_6.length ((open_6).flatMap Qt),emap b3 (fun y:Bool=>(Value.bool (y))) F_4]/\Sub σ1 σ2/\v8.oneCell'=true/\Sml open_6.length) hP ⟨(.slice a1 j2_ cap1),σ1,_,(Q1 rfl (Q1 rfl (Q1 rfl (Q1 rfl (Q1 rfl (Q1 rfl rfl)))))),hS5,(Sub.refl _),rfl,(j2b hl3)⟩ ?_
  clear hP
  rintro open_6 k_3 F_4 Y2 hP f w4 ⟨v8,σ2,g,rfl,hS6,hsub2,ho6,hl7⟩
  refine Q9 (j47 (r:=(decide (((k_3:Nat):Int)<((((needs_p x1_).getD []).length:Nat):Int)))) rfl rfl rfl (wpList_nil (Qx (wp_seq ?_))))
  refine if_d (((k_3:Nat):Int)<((((needs_p x1_).getD []).length:Nat):Int)) rfl (fun ht2=> ?_) (fun ht2=> ?_)
  ·
   replace hP:=hP.1 ht2
   refine wp_skip (Qx (wp_seq (wp_block (Q9 ?_))))
   obtain⟨x2_,hx2⟩:=getq (l:=((needs_p x1_).getD [])) (k:=k_3) (by have:=ht2;omega)
   replace hP:=hP x2_ hx2
   obtain⟨ad1,cs1,ha1,hl8,hr2,hR1,hlt1⟩:=RSl.at hz1 hx2
   cases hR1
   refine H5 (k:=k_3) (a':=(ad1.add (k_3*1))) (congrArg (fun z=>Value.slice z _ _) ha1) rfl rfl hlt1 Tryz.underlying72 Tryz.sizeOf9 rfl (q91 (v:=(.string x2_)) rfl Tryz.isAgg9 (hr2.cell (View.of (Sub.trans hsub1 hsub2) hS6.view) 0 rfl rfl) (Zp (v:=(.string x2_)) rfl (wpList_nil (Qx (Q9 (Zr (v:=(.map (some b3))) rfl (Zr (v:=(.string x2_)) rfl (z8r (v:=(.bool (((F_4 x2_).getD false)))) (i:=1) hS6 rfl rfl rfl Tryz.underlying182 Tryz.underlying9 Tryz.zeroValue4 (z5y (fun y:Bool=>(Value.bool (y))) _ rfl) (j91 (r:=(!((F_4 x2_).getD false))) rfl rfl (wpList_nil (Qx ?_)))))))))))
   refine j94 rfl (fun ht3=> ?_) (fun ht3=> ?_)
   ·
    replace hP:=hP.2 (by first|(rw[ht3];exact Bool.false_ne_true)|simp[ht3])
    refine Q9 (Zr (v:=(.map (some b3))) rfl (Zr (v:=(.string x2_)) rfl (j78 (y0:=true) (i:=1) (ms':=[vec v8 9 1 open_6.length ((open_6).flatMap Qt),emap b3 (fun y:Bool=>(Value.bool (y))) (put F_4 x2_ true)]) hS6 rfl rfl rfl rfl Tryz.underlying182 Tryz.underlying9 rfl ?_)))
    intro w5 hS7
    refine wpList_nil (Qx (q11 (Zr (v:=v8) rfl (Zr (v:=(.string x2_)) rfl (q4g (cs:=[(.string x2_)]) (e:=9) hS7 (fun _=>by kernel_rfl) ?_)))))
    intro b5 w6 hS8
    obtain⟨hsm1,hP⟩:=hP
    refine j2a (Ms:=fun v9=>[blk b5 9 [(.string x2_)],vec v9 9 1 ((open_6++[x2_]).length) ((open_6++[x2_]).flatMap Qt),emap b3 (fun y:Bool=>(Value.bool (y))) (put F_4 x2_ true)]) (k':=(open_6++[x2_]).length) (xs':=(open_6++[x2_]).flatMap Qt) Tryz.underlying72 Tryz.type9 rfl rfl (bytes:=16) rfl rfl (Nat.succ_pos _) hS8 rfl (q:=1) rfl rfl rfl (Rq (hS8.get (i:=0) rfl)) (ones rfl) hsm1 (by omega) (by first|rfl|exact List.length_append.symm|simp) (by simp[Qt]) (fun _=>rfl) ?_
    intro v9 w7 ho7 hS9
    have hS10:=hS9.drop 0 (ms':=[vec v9 9 1 ((open_6++[x2_]).length) ((open_6++[x2_]).flatMap Qt),emap b3 (fun y:Bool=>(Value.bool (y))) (put F_4 x2_ true)]) rfl
    refine Zp (v:=v9) rfl (wpList_nil (z4k (Qx (q11 (z7c (r:=((k_3+1:Nat):Int)) rfl rfl (nw (by omega) (by omega) (by have:=hlen4;omega)) (Zr (v:=(.int .i64 ((k_3+1:Nat):Int))) rfl (wpList_nil (Qx ?_))))))))
    exact⟨open_6++[x2_],k_3+1,put F_4 x2_ true,_,rfl,hP,v9,σ2,_,(Q1 rfl (Q1 rfl (Q1 rfl (Q1 rfl (Q1 rfl (Q1 rfl rfl)))))),hS10,hsub2,ho7,hsm1⟩
   ·
    replace hP:=hP.1 ht3
    refine wp_skip (z4k (Qx (q11 (z7c (r:=((k_3+1:Nat):Int)) rfl rfl (nw (by omega) (by omega) (by have:=hlen4;omega)) (Zr (v:=(.int .i64 ((k_3+1:Nat):Int))) rfl (wpList_nil (Qx ?_)))))))
    exact⟨open_6,k_3+1,F_4,_,rfl,hP,v8,σ2,_,(Q1 rfl (Q1 rfl (Q1 rfl (Q1 rfl (Q1 rfl (Q1 rfl rfl)))))),hS6,hsub2,ho6,hl7⟩
  ·
   replace hP:=hP.2 ht2
   refine wp_exit (q6q (q6q (z0r (z4k (Qx ?_)))))
   exact⟨open_6,F_4,_,rfl,hP,v8,σ2,_,(Q1 rfl (Q1 rfl (Q1 rfl rfl))),hS6,(Sub.trans hsub1 hsub2),ho6,hl7⟩
 ·
  replace hP:=hP.2 ht1
  refine wp_exit (q6q (q6q (z0r (Qx (Q9 (Zr (v:=(.map (some b3))) rfl (Zp (v:=(.map (some b3))) rfl (wpList_nil (Qx (wp_ret (ret1 rfl (show ev _ _ _=(.map (some b3)) from rfl) ?_)))))))))))
  have hS11:=hS4.front 1 rfl (ms':=[emap b3 (fun y:Bool=>(Value.bool (y))) F_2,vec v4 9 1 open_3.length ((open_3).flatMap Qt)]) rfl
  exact⟨F_2,b3,rfl,(St.back (hS11.keep 1 (ms':=[emap b3 (fun y:Bool=>(Value.bool (y))) F_2]) rfl) (Sub.refl _)),hP⟩
set_option maxHeartbeats 2000000 in
theorem w_graph_Cyclic{σ:Hv}{w:World}(nodes_p:(List ByteArray))(edges_p:(List (ByteArray×ByteArray)))(v1:Value)(v2:Value){K:(List ByteArray)->Prop}(hV:View σ w)(hr1:RSl 1 (REnc Qt) σ v1 nodes_p)(hr2:RSl 2 (REnc j5i) σ v2 edges_p)(hP:P_graph_Cyclic nodes_p edges_p K):
    Calls Tryz.prog 55 #[v1,v2] w (fun e w1=> ∃(r1:(List ByteArray)) (v3:Value),e= .returned v3/\St ⟨w,σ,[]⟩ w1 σ [vec v3 9 1 r1.length ((r1).flatMap Qt)]/\Sml r1.length/\K r1):=by
 unfold P_graph_Cyclic at hP
 obtain⟨a1,cap1,rfl⟩:=hr1.shape
 obtain⟨a2,cap2,rfl⟩:=hr2.shape
 refine enter Tryz.func55 rfl rfl rfl ?_
 have hS:=St.start hV
 refine Q9 (Zp (v:=(.slice none 0 0)) rfl (wpList_nil (Qx (Q9 (Zp (v:=(.slice none 0 0)) rfl (wpList_nil (Qx (Q9 (Zr (v:=(.slice a2 edges_p.length cap2)) rfl ?_)))))))))
 obtain⟨Y1,hK1,hc1⟩:=hP
 refine q6p (args:=[(.slice a2 edges_p.length cap2)]) rfl Tryz.call113 (Calls.mono (z1g edges_p (.slice a2 edges_p.length cap2) hS.view hr2 hc1) ?_)
 rintro _ w1 ⟨r1_,v4,σ1,rfl,hg1,hr4,hY1⟩
 refine⟨_,rfl,?_⟩
 have hS1:=hS.grow hg1
 replace hP:=hK1 r1_ hY1
 obtain⟨b1,rfl⟩:=hr4.shape
 refine Zp (v:=(.map (some b1))) rfl (wpList_nil (Qx (wp_seq (Q9 (Zr (v:=(.slice a1 nodes_p.length cap1)) rfl (q6p (args:=[(.slice a1 nodes_p.length cap1)]) rfl Tryz.call115 ?_))))))
 refine enter Tryz.func115 rfl rfl rfl ?_
 refine Q9 (j92 (cs:=[(.slice a1 nodes_p.length cap1)]) hS1 rfl rfl ?_)
 intro b2 w2 hS2
 refine Zp (v:= .nilFunc) rfl (wpList_nil (Qx (Q9 (z7d (la:=[]) (lb:=[(.pointer (some ⟨b2,0,none⟩))]) rfl rfl (Zp (v:=(.func (.func 174) #[] #[(.pointer (some ⟨b2,0,none⟩))])) rfl (wpList_nil (Qx (wp_ret (ret1 rfl (show ev _ _ _=(.func (.func 174) #[] #[(.pointer (some ⟨b2,0,none⟩))]) from rfl) ?_)))))))))
 refine⟨_,rfl,?_⟩
 refine q6p (args:=[(.func (.func 174) #[] #[(.pointer (some ⟨b2,0,none⟩))])]) rfl Tryz.call114 ?_
 refine enter Tryz.func114 rfl rfl rfl ?_
 refine Q9 (Zp (v:=(.slice none 0 0)) rfl (wpList_nil (Qx (Q9 (Zr (v:=(.func (.func 174) #[] #[(.pointer (some ⟨b2,0,none⟩))])) rfl (q6p (args:=[(.func (.func 174) #[] #[(.pointer (some ⟨b2,0,none⟩))])]) rfl Tryz.call173 ?_))))))
 refine enter Tryz.func173 rfl rfl rfl ?_
 refine Q9 (Zp (v:=(.slice none 0 0)) rfl (wpList_nil (Qx (Q9 (Zr (v:=(.func (.func 174) #[] #[(.pointer (some ⟨b2,0,none⟩))])) rfl ?_)))))
 obtain⟨σ2,hS3,hsub1,hfr1⟩:=hS2.freeze' (i:=0) rfl rfl
 have hB1:σ2 b2=some (.cells #[(.slice a1 nodes_p.length cap1)] 72 (0,0)):=(hfr1 _ rfl).trans (hS2.get (i:=0) rfl)
 obtain⟨hsm1,hP⟩:=hP
 refine q6p (args:=[(.slice none 0 0),(.func (.func 174) #[] #[(.pointer (some ⟨b2,0,none⟩))])]) rfl Tryz.call227 (Calls.mono (w0w b2 (.slice a1 nodes_p.length cap1) nodes_p hS3.view hB1 (RSl.menc (Sub.trans hg1.sub hsub1) hr1) hsm1) ?_)
 rintro _ w3 ⟨v5,rfl,hg2,ho1⟩
 refine⟨_,rfl,?_⟩
 have hS4:=hS3.growAdd hg2 (o:=vec v5 9 1 nodes_p.length ((nodes_p).flatMap Qt)) ho1
 refine Zp (v:=v5) rfl (wpList_nil (Qx (wp_ret (ret1 rfl (show ev _ _ _=v5 from rfl) ?_))))
 refine⟨_,rfl,?_⟩
 refine Zp (v:=v5) rfl (wpList_nil (Qx (Q9 (Zr (v:=v5) rfl ?_))))
 refine q6p (args:=[v5]) rfl Tryz.call111 (Calls.mono (j18 Tryz.slices_Sort_string Tryz.slices_Sort_string_none hS4.view (hS4.get (i:=0) rfl) rfl (fun b hb=>hS4.off _ (List.mem_of_getElem? (i:=0) rfl) b hb) (by have:=hsm1;unfold Sml at this;omega)) ?_)
 rintro _ w4 ⟨rfl,hg3,ho2⟩
 refine⟨_,rfl,?_⟩
 have hS5:=hS4.growV (i:=0) (o':=vec v5 9 1 nodes_p.length ((srt nodes_p).flatMap Qt)) rfl hg3 rfl ho2 (ms':=[vec v5 9 1 nodes_p.length ((srt nodes_p).flatMap Qt)]) rfl
 have hS6:=hS5.re (ms':=[vec v5 9 1 ((srt nodes_p).length) ((srt nodes_p).flatMap Qt)]) (by simp only[q5v])
 refine wpList_nil (Qx (Q9 (Zr (v:=v5) rfl (Zp (v:=v5) rfl (wpList_nil (Qx (wp_ret (ret1 rfl (show ev _ _ _=v5 from rfl) ?_))))))))
 refine⟨_,rfl,?_⟩
 obtain⟨hsm2,hP⟩:=hP
 refine q6p (args:=[v5]) rfl Tryz.call112 (Calls.mono (z4o Tryz.slices_Compact_string Tryz.slices_Compact_string_empty hS6.view (hS6.get (i:=0) rfl) rfl (fun b hb=>hS6.off _ (List.mem_of_getElem? (i:=0) rfl) b hb) (by have:=(show Sml (srt nodes_p).length by rw[q5v];exact hsm1);unfold Sml at this;omega)) ?_)
 rintro _ w5 ⟨v6,rfl,hf1,hg4,ho3⟩
 refine⟨_,rfl,?_⟩
 have ho4:=Ho ho3
 have hS7:=hS6.growV (i:=0) (o':=vec v6 9 1 ((cpt (srt nodes_p)).length) ((cpt (srt nodes_p)).flatMap Qt)) rfl hg4 hf1 ho3 (ms':=[vec v6 9 1 ((cpt (srt nodes_p)).length) ((cpt (srt nodes_p)).flatMap Qt)]) rfl
 refine q4h hS7 rfl (i:=0) rfl Tryz.underlying72 ?_
 have hlen1:(cpt (srt nodes_p)).length<=9223372036854775807:=by have:=hsm2;unfold Sml at this;omega
 replace hP:=hP hlen1
 refine Zr (v:=(.int .i64 (0:Int))) rfl (wpList_nil (Qx (wp_block ?_)))
 have hS8:=hS7.addNil 9 1
 refine z0u (fun out_2 k_2 f z=> ∃(v8:Value) (σ3:Hv) (g:Fr),f=(upd (upd (upd (upd (upd g 5 v8) 6 (.map (some b1))) 14 v6) 15 (.int .i64 (((cpt (srt nodes_p)).length:Nat):Int))) 16 (.int .i64 ((k_2:Nat):Int)))/\St ⟨w,σ,[]⟩ z σ3 [vec v8 9 1 out_2.length ((out_2).flatMap Qt),vec v6 9 1 ((cpt (srt nodes_p)).length) ((cpt (srt nodes_p)).flatMap Qt)]/\Sub σ2 σ3/\v8.oneCell'=true/\Sml out_2.length) hP ⟨(.slice none 0 0),σ2,_,(Q1 rfl (Q1 rfl (Q1 rfl (Q1 rfl (Q1 rfl rfl))))),hS8,(Sub.refl _),rfl,(by simp[Sml])⟩ ?_
 clear hP
 rintro out_2 k_2 Y2 hP f w6 ⟨v8,σ3,g,rfl,hS9,hsub2,ho6,hl2⟩
 refine Q9 (j47 (r:=(decide (((k_2:Nat):Int)<(((cpt (srt nodes_p)).length:Nat):Int)))) rfl rfl rfl (wpList_nil (Qx (wp_seq ?_))))
 refine if_d (((k_2:Nat):Int)<(((cpt (srt nodes_p)).length:Nat):Int)) rfl (fun ht1=> ?_) (fun ht1=> ?_)
 ·
  replace hP:=hP.1 ht1
  refine wp_skip (Qx (wp_seq (wp_block (Q9 ?_))))
  obtain⟨x1_,hx1⟩:=getq (l:=cpt (srt nodes_p)) (k:=k_2) (by have:=ht1;omega)
  replace hP:=hP x1_ hx1
  obtain⟨g1,cp1,hv1⟩:=z5z (hS9.get (i:=1) rfl) (Qe hx1)
  refine H5 (k:=k_2) (a':=⟨g1,k_2*1,none⟩) hv1 rfl rfl (Qe hx1) Tryz.underlying72 Tryz.sizeOf9 (by simp[Wm]) (q91 (v:=(.string x1_)) rfl Tryz.isAgg9 (z2n q4j (j:=0) hv1 (hS9.get (i:=1) rfl) hx1 rfl) (Zp (v:=(.string x1_)) rfl (wpList_nil (Qx (Q9 (Zr (v:=(.map (some b1))) rfl (Zr (v:=(.string x1_)) rfl ?_)))))))
  obtain⟨Y3,hK2,hc2⟩:=hP
  refine q6p (args:=[(.map (some b1)),(.string x1_)]) rfl Tryz.call116 (Calls.mono (z1h r1_ x1_ (.map (some b1)) hS9.view (RMp.mono (RSl.mz (Sub.trans hsub1 hsub2)) (Sub.trans hsub1 hsub2) hr4) hc2) ?_)
  rintro _ w7 ⟨r2_,b3,rfl,hg5,hY2⟩
  refine⟨_,rfl,?_⟩
  have hS10:=St.callM (ins:=[]) (rest:=[vec v8 9 1 out_2.length ((out_2).flatMap Qt),vec v6 9 1 ((cpt (srt nodes_p)).length) ((cpt (srt nodes_p)).flatMap Qt)]) (ms':=[emap b3 (fun y:Bool=>(Value.bool (y))) r2_,vec v8 9 1 out_2.length ((out_2).flatMap Qt),vec v6 9 1 ((cpt (srt nodes_p)).length) ((cpt (srt nodes_p)).flatMap Qt)]) hS9 hg5 rfl
  replace hP:=hK2 r2_ hY2
  refine Zr (v:=(.string x1_)) rfl (z8r (v:=(.bool (((r2_ x1_).getD false)))) (i:=0) hS10 rfl rfl rfl Tryz.underlying182 Tryz.underlying9 Tryz.zeroValue4 (z5y (fun y:Bool=>(Value.bool (y))) _ rfl) (wpList_nil (Qx ?_)))
  refine if_b rfl (fun ht2=> ?_) (fun ht2=> ?_)
  ·
   replace hP:=hP.1 ht2
   refine q11 (Zr (v:=v8) rfl (Zr (v:=(.string x1_)) rfl (q4g (cs:=[(.string x1_)]) (e:=9) hS10 (fun _=>by kernel_rfl) ?_)))
   intro b4 w8 hS11
   obtain⟨hsm3,hP⟩:=hP
   refine j2a (Ms:=fun v9=>[blk b4 9 [(.string x1_)],emap b3 (fun y:Bool=>(Value.bool (y))) r2_,vec v9 9 1 ((out_2++[x1_]).length) ((out_2++[x1_]).flatMap Qt),vec v6 9 1 ((cpt (srt nodes_p)).length) ((cpt (srt nodes_p)).flatMap Qt)]) (k':=(out_2++[x1_]).length) (xs':=(out_2++[x1_]).flatMap Qt) Tryz.underlying72 Tryz.type9 rfl rfl (bytes:=16) rfl rfl (Nat.succ_pos _) hS11 rfl (q:=2) rfl rfl rfl (Rq (hS11.get (i:=0) rfl)) (ones rfl) hsm3 (by omega) (by first|rfl|exact List.length_append.symm|simp) (by simp[Qt]) (fun _=>rfl) ?_
   intro v9 w9 ho7 hS12
   have hS13:=hS12.drop 0 (ms':=[emap b3 (fun y:Bool=>(Value.bool (y))) r2_,vec v9 9 1 ((out_2++[x1_]).length) ((out_2++[x1_]).flatMap Qt),vec v6 9 1 ((cpt (srt nodes_p)).length) ((cpt (srt nodes_p)).flatMap Qt)]) rfl
   refine Zp (v:=v9) rfl (wpList_nil (z4k (Qx (q11 (z7c (r:=((k_2+1:Nat):Int)) rfl rfl (nw (by omega) (by omega) (by have:=hlen1;omega)) (Zr (v:=(.int .i64 ((k_2+1:Nat):Int))) rfl (wpList_nil (Qx ?_))))))))
   have hS14:=hS13.front 2 rfl (ms':=[vec v6 9 1 ((cpt (srt nodes_p)).length) ((cpt (srt nodes_p)).flatMap Qt),emap b3 (fun y:Bool=>(Value.bool (y))) r2_,vec v9 9 1 ((out_2++[x1_]).length) ((out_2++[x1_]).flatMap Qt)]) rfl
   have hS15:=hS14.front 2 rfl (ms':=[vec v9 9 1 ((out_2++[x1_]).length) ((out_2++[x1_]).flatMap Qt),vec v6 9 1 ((cpt (srt nodes_p)).length) ((cpt (srt nodes_p)).flatMap Qt),emap b3 (fun y:Bool=>(Value.bool (y))) r2_]) rfl
   exact⟨out_2++[x1_],k_2+1,_,rfl,hP,v9,σ3,_,(Q1 rfl (Q1 rfl (Q1 rfl (Q1 rfl (Q1 rfl rfl))))),(hS15.keep 2 (ms':=[vec v9 9 1 ((out_2++[x1_]).length) ((out_2++[x1_]).flatMap Qt),vec v6 9 1 ((cpt (srt nodes_p)).length) ((cpt (srt nodes_p)).flatMap Qt)]) rfl),hsub2,ho7,hsm3⟩
  ·
   replace hP:=hP.2 (by first|(rw[ht2];exact Bool.false_ne_true)|simp[ht2])
   refine wp_skip (z4k (Qx (q11 (z7c (r:=((k_2+1:Nat):Int)) rfl rfl (nw (by omega) (by omega) (by have:=hlen1;omega)) (Zr (v:=(.int .i64 ((k_2+1:Nat):Int))) rfl (wpList_nil (Qx ?_)))))))
   have hS16:=hS10.front 2 rfl (ms':=[vec v6 9 1 ((cpt (srt nodes_p)).length) ((cpt (srt nodes_p)).flatMap Qt),emap b3 (fun y:Bool=>(Value.bool (y))) r2_,vec v8 9 1 out_2.length ((out_2).flatMap Qt)]) rfl
   have hS17:=hS16.front 2 rfl (ms':=[vec v8 9 1 out_2.length ((out_2).flatMap Qt),vec v6 9 1 ((cpt (srt nodes_p)).length) ((cpt (srt nodes_p)).flatMap Qt),emap b3 (fun y:Bool=>(Value.bool (y))) r2_]) rfl
   exact⟨out_2,k_2+1,_,rfl,hP,v8,σ3,_,(Q1 rfl (Q1 rfl (Q1 rfl (Q1 rfl (Q1 rfl rfl))))),(hS17.keep 2 (ms':=[vec v8 9 1 out_2.length ((out_2).flatMap Qt),vec v6 9 1 ((cpt (srt nodes_p)).length) ((cpt (srt nodes_p)).flatMap Qt)]) rfl),hsub2,ho6,hl2⟩
 ·
  replace hP:=hP.2 ht1
  refine wp_exit (q6q (q6q (z0r (Qx (Q9 (Zr (v:=v8) rfl (Zp (v:=v8) rfl (wpList_nil (Qx (wp_ret (ret1 rfl (show ev _ _ _=v8 from rfl) ?_)))))))))))
  exact⟨out_2,v8,rfl,(St.back (hS9.keep 1 (ms':=[vec v8 9 1 out_2.length ((out_2).flatMap Qt)]) rfl) (Sub.refl _)),hl2,hP⟩
end Go.Proofs.YtlmjknifmlifiaaGreatDoor
end
noncomputable section
set_option maxRecDepth 100000
open Go Go.RowKit Go.Fl Go.Fl.Lk Go.Fx
namespace Go.En
theorem q7s{σ:Hv}{w:World}{g:Nat}{T:C}{n:Nat}{l:List (car T)}(hV:View σ w)(hs:SRep D (fun _=>none) σ (.pointer (some ⟨g,0,none⟩)) (.fap T n l)){i j:Nat}{x:car T}{s:FV Sg}(hx:l[i]? =some x)(hj:(D.shape T x)[j]? =some s)(hz:j<D.size T):
  ∃v,w.cell? ⟨g,i*D.size T+j,none⟩=some v/\RepF D σ v s:=by
 generalize hq:Value.pointer (some (⟨g,0,none⟩:Addr))=q at hs
 cases hs with
 |fap ad cs T' N l' hN h hl hr=>
  cases hq
  have hrow:=hr i x hx
  have hlen:=okP.ok.len T x
  have hjl:j<((cs.drop (i*D.size T)).take (D.size T)).length:=by rw[hrow.1,hlen];exact hz
  obtain⟨v,hv⟩: ∃v,((cs.drop (i*D.size T)).take (D.size T))[j]? =some v:=⟨_,List.getElem?_eq_getElem hjl⟩
  refine⟨v,?_,hrow.2 j v s hv hj⟩
  rw[List.getElem?_take,if_pos hz,List.getElem?_drop] at hv
  have:=hV.cell (h _ v hv)
  rw[Wm,Nat.zero_add] at this
  exact this
theorem j3e: ∀c,c<256->z6q[c]? =some ((Go.Lib.firstT c:Nat):Int):=by decide
theorem j81: ∀i,i<16->(q8l[i]?).map (fun a=>(a.lo,a.hi))=some (((Go.Lib.accLo i:Nat):Int),((Go.Lib.accHi i:Nat):Int)):=by decide
theorem tabs{σ:Hv}{w:World}(hV:View σ w)(hG:Glb D σ):Go.Lib.Utf8Tabs (Proofs.Tryz.lays196_ren.g 3) (Proofs.Tryz.lays196_ren.g 4) w:=by
 refine⟨fun c hc=> ?_,fun i hi=> ?_⟩
 ·have h:=hG.known (Proofs.Tryz.lays196_ren.g 3)
  obtain⟨v,h1,h2⟩:=q7s (T:= .u8) (n:=256) (l:=z6q) hV h (i:=c) (j:=0) (s:= .int .u8 ((Go.Lib.firstT c:Nat):Int)) (j3e c hc) rfl (by decide)
  cases h2
  simpa [show D.size C.u8=1 from rfl] using h1
 ·have h:=hG.known (Proofs.Tryz.lays196_ren.g 4)
  have ha:=j81 i hi
  obtain⟨a,e1,e2⟩:=Option.map_eq_some_iff.1 ha
  obtain⟨v,h1,h2⟩:=q7s (T:= .acc) (n:=16) (l:=q8l) hV h (i:=i) (j:=0) (s:= .int .u8 a.lo) e1 rfl (by decide)
  obtain⟨v',h1',h2'⟩:=q7s (T:= .acc) (n:=16) (l:=q8l) hV h (i:=i) (j:=1) (s:= .int .u8 a.hi) e1 rfl (by decide)
  cases h2;cases h2'
  simp only[Prod.mk.injEq] at e2
  rw[e2.1] at h1;rw[e2.2] at h1'
  refine⟨by rw[Nat.mul_comm];simpa [show D.size C.acc=2 from rfl] using h1,by rw[Nat.mul_comm];simpa [show D.size C.acc=2 from rfl] using h1'⟩
theorem z5i{w w':World}(h:Below w.heap.size w w'):Keeps [] w w':=⟨h.os,h.tape,h.output,h.size,fun k hk _=>h.block k hk⟩
theorem z7x{σ:Hv}{w w1:World}{args:List (Tr Sg)}{vals:List Value}{K:List (Tr Sg)->List (Tr Sg)->Prop}{rets outs:List (Tr Sg)}{rv:List Value}(hS:St ⟨w,σ,feet []⟩ w σ [])(hK:K rets outs)(hb:Below w.heap.size w w1)(hL:LayL D σ rets rv [])(hT:LayT D σ args outs vals [] []):
  Back D σ w args vals [] K (.returned (retV rv)) w1:=by
 have hk:=z5i hb
 refine⟨rets,outs,rv,σ,[],[],rfl,hK,hL,hT,?_⟩
 refine⟨hk,fun b o hbo=> ?_,Sub.refl _,fun _ _ _=>rfl,by simp,by simp,by simp,by simp⟩
 have h1:=hS.view b o hbo
 have hlt:b<w.heap.size:=by
  rcases Nat.lt_or_ge b w.heap.size with h|h
  ·exact h
  ·rw[Array.getElem?_eq_none h] at h1;cases h1
 rw[hk.block b hlt (by simp)];exact h1
theorem q41:Ru Proofs.Tryz.prog D 154 (conV ([.v]:LP) ([.str]:LV) ([.bool]:LV) ([.same]:LV) (fun a K=>Vj a.1 (fun q0=>K (q0,()) ((),())))):=by
 intro args K hm w σ vals ins hG hL hS
 obtain⟨a,ha,hm⟩:=Qc hm
 have hargs:=Vd ha
 subst hargs
 obtain⟨s,_⟩:=a
 cases hL with
 |cons hp hr=>
 cases hr
 cases hp with
 |f hf=>
 cases hf
 have hm:s.size<=9223372036854775807/\K [.f (.bool (Go.Lib.validD s.data.toList))] [.same]:=hm
 refine Calls.mono (Go.Proofs.Any.utf8_ValidString Proofs.Tryz.lays196 s w hm.1 (tabs hS.view hG)) ?_
 rintro e w' ⟨rfl,hb⟩
 exact z7x (rv:=[.bool (Go.Lib.validD s.data.toList)]) hS hm.2 hb (.cons (ms:=[]) (.f (.bool _)) .nil) (.skip (a0:=[]) .nil)
theorem z1i(l:List ByteArray):l.flatMap Qt=l.map Value.string:=by
 induction l with
 |nil=>rfl
 |cons a l ih=>rw[List.flatMap_cons,List.map_cons,ih];rfl
theorem j0k(σ:Hv)(l:List ByteArray):Els D σ C.str (l.flatMap Qt) l:=by
 rw[z1i]
 refine⟨by rw[List.length_map];exact (Nat.mul_one _).symm,fun i x hx=> ?_⟩
 rw[show D.size C.str=1 from rfl,Nat.mul_one]
 have hx:l[i]? =some x:=hx
 have e:((l.map Value.string).drop i).take 1=[.string x]:=by
  rw[←List.map_drop,List.drop_eq_getElem_cons (List.getElem?_eq_some_iff.1 hx).1,(List.getElem?_eq_some_iff.1 hx).2];rfl
 rw[e]
 refine⟨rfl,fun j v s hj hs=> ?_⟩
 cases j with
 |zero=>cases hj;cases hs;exact .str x
 |succ j=>cases hj
theorem j3f{σ:Hv}{v:Value}{l:List ByteArray}(h:RepF D σ v (.sl C.str l)):RSl 1 (REnc Qt) σ v l:=by
 obtain⟨a,cap,e1,e2,e3,e4⟩:=h.toRSl okP.ok
 refine⟨a,cap,e1,e2,e3,fun i x hx=> ?_⟩
 obtain⟨ad,cs,f1,f2,f3,f4⟩:=e4 i x hx
 refine⟨ad,cs,f1,f2,f3,?_⟩
 obtain⟨u,rfl⟩: ∃u,cs=[u]:=List.length_eq_one_iff.1 f2
 have g1:=f4.2 0 u (.str x) rfl rfl
 cases g1
 rfl
theorem j0l{σ:Hv}{v:Value}{l:List Edg}(h:RepF D σ v (.sl C.edge l)):RSl 2 (REnc j5i) σ v (l.map fun e=>(e.1,e.2)):=by
 obtain⟨a,cap,e1,e2,e3,e4⟩:=h.toRSl okP.ok
 have hl:(l.map fun e=>(e.1,e.2)).length=l.length:=List.length_map ..
 refine⟨a,cap,by rw[hl];exact e1,by rw[hl];exact e2,by rw[hl];exact e3,fun i x hx=> ?_⟩
 rw[List.getElem?_map] at hx
 obtain⟨y,hy,rfl⟩:=Option.map_eq_some_iff.1 hx
 obtain⟨ad,cs,f1,f2,f3,f4⟩:=e4 i y hy
 refine⟨ad,cs,f1,f2,f3,?_⟩
 obtain⟨u,v,rfl⟩: ∃u v,cs=[u,v]:=by
  match cs,f2 with
  |[u,v],_=>exact⟨u,v,rfl⟩
 have g1:=f4.2 0 u (.str y.src) rfl rfl
 have g2:=f4.2 1 v (.str y.dst) rfl rfl
 cases g1;cases g2
 rfl
theorem q9h:Ru Proofs.Tryz.prog D 55 (conV ([.sl C.str,.sl C.edge]:LP) ([.sl C.str,.sl C.edge]:LV) ([.vec 9 C.str]:LV) ([.same,.same]:LV) (fun a K=>P_graph_Cyclic a.1 a.2.1 (fun q0=>K (q0,()) ((),(),())))):=by
 intro args K hm w σ vals ins hG hL hS
 obtain⟨a,ha,hm⟩:=Qc hm
 have hargs:=Vd ha
 subst hargs
 obtain⟨s,t,_⟩:=a
 cases hL with
 | @cons _ _ v1 _ _ _ hp hr=>
 cases hr with
 | @cons _ _ v2 _ _ _ hq hr=>
 cases hr
 cases hp with
 |f hf1=>
 cases hq with
 |f hf2=>
 have hm:Go.Fl.P_graph_Cyclic s (t.map fun e=>(e.1,e.2)) (fun l=>K [.vec 9 C.str l] [.same,.same]):=hm
 refine Calls.mono (Go.Proofs.YtlmjknifmlifiaaGreatDoor.w_graph_Cyclic s (t.map fun e=>(e.1,e.2)) v1 v2 hS.view (j3f hf1) (j0l hf2) hm) ?_
 rintro e w1 ⟨l,v,rfl,hS1,hsm,hK⟩
 have hl:l.length<=140737488355328:=by unfold Sml at hsm;omega
 exact⟨[.vec 9 C.str l],[.same,.same],[v],σ,[vec v 9 1 l.length (l.flatMap Qt)],[],rfl,hK,.cons (.vec (j0k σ _) hl (Ho (hS1.get (i:=0) rfl))) .nil,.skip (a0:=[]) (.skip (a0:=[]) .nil),hS1⟩
theorem w0x: ∀c,c<256->z6r[c]? =some (if Go.Lib.isSp (UInt8.ofNat c) then (1:Int) else 0):=by decide
theorem j0m: ∀(ws:Bool) (l:List UInt8),Go.Lib.cntF ws l<=l.length
 |_,[]=>by simp[Go.Lib.cntF]
 |ws,b::l=>by
  have:=j0m (Go.Lib.isSp b) l
  simp only[Go.Lib.cntF,List.length_cons]
  split<;>omega
theorem q65:Ru Proofs.Tryz.prog D 155 (conV ([.v]:LP) ([.str]:LV) ([.vec 9 C.str]:LV) ([.same]:LV) (fun a K=>Hu a.1 (fun q0=>K (q0,()) ((),())))):=by
 intro args K hm w σ vals ins hG hL hS
 obtain⟨a,ha,hm⟩:=Qc hm
 have hargs:=Vd ha
 subst hargs
 obtain⟨s,_⟩:=a
 cases hL with
 |cons hp hr=>
 cases hr
 cases hp with
 |f hf=>
 cases hf
 have hm:s.size<4294967281/\j4s s/\K [.vec 9 C.str (Uo s)] [.same]:=hm
 obtain⟨hsz,hasc,hm⟩:=hm
 have hT: ∀c:Nat,c<256->w.cell? ⟨Proofs.Tryz.lays157_ren.g 0,c,none⟩=some (.int .u8 (if Go.Lib.isSp (UInt8.ofNat c) then 1 else 0)):=fun c hc=>by
  have h:=hG.known (Proofs.Tryz.lays157_ren.g 0)
  obtain⟨v,h1,h2⟩:=q7s (T:= .u8) (n:=256) (l:=z6r) hS.view h (i:=c) (j:=0) (s:= .int .u8 (if Go.Lib.isSp (UInt8.ofNat c) then 1 else 0)) (w0x c hc) rfl (by decide)
  cases h2
  simpa [show D.size C.u8=1 from rfl] using h1
 have hlen:(Uo s).length=(Go.Lib.fields s.data.toList).length:=by unfold Uo;rw[List.length_map]
 have hcnt:(Go.Lib.fields s.data.toList).length<=s.size:=by rw[Go.Lib.fields_length];exact Nat.le_trans (j0m _ _) (Nat.le_of_eq rfl)
 refine Calls.mono (Go.Proofs.Any.strings_Fields_core Proofs.Tryz.lays157 (by kernel_rfl) s w hsz hasc hT) ?_
 rintro e w' ⟨rfl,rfl⟩
 rw[show (Go.Lib.fields s.data.toList).map (fun l=>Value.string ⟨l.toArray⟩)=(Uo s).map Value.string by unfold Uo;rw[List.map_map];rfl,←hlen]
 rw[←hlen] at hcnt
 have ho:(vec (.slice (some ⟨w.heap.size,0,none⟩) (Uo s).length (Uo s).length) 9 1 (Uo s).length ((Uo s).flatMap Qt)).ok (w.alloc (.cells ((Uo s).map Value.string).toArray 9)):=by
  refine⟨by rw[z1i];simp,.inr ⟨w.heap.size,_,_,rfl,Nat.zero_le _,heap_alloc_new _ _,Nat.le_refl _,by unfold maxLen;omega,by simp,?_⟩⟩
  rw[z1i,Nat.mul_one]
  exact List.take_of_length_le (by rw[List.length_map];exact Nat.le_refl _)
 have hS1:=hS.add (Zs w _) ho (by rintro k ⟨⟩;exact Nat.le_refl _)
 exact (⟨[.vec 9 C.str (Uo s)],[.same],[_],σ,[_],[],rfl,hm,.cons (.vec (j0k σ _) (by omega) (Ho ho)) .nil,.skip (a0:=[]) .nil,hS1⟩:Back D σ w [.f (.str s)] [.string s] [] K (.returned (retV [.slice (some ⟨w.heap.size,0,none⟩) (Uo s).length (Uo s).length])) (w.alloc (.cells ((Uo s).map Value.string).toArray 9)))
theorem q6d:Ru Proofs.Tryz.prog D 157 (conV ([.v,.v]:LP) ([.str,.str]:LV) ([.int .i64]:LV) ([.same,.same]:LV) (fun a K=>Gz a.1 a.2.1 (fun q0=>K (q0,()) ((),(),())))):=by
 intro args K hm
 obtain⟨a,_,hm⟩:=Qc hm
 exact False.elim hm
theorem q8r:Ru Proofs.Tryz.prog D 97 (conV ([.el C.seg]:LP) ([.el C.seg]:LV) ([.int .i64]:LV) ([.same]:LV) (fun a K=>Rz a.1 (fun q0=>K (q0,()) ((),())))):=by
 intro args K hm
 obtain⟨a,_,hm⟩:=Qc hm
 exact False.elim hm
theorem z3t:Ru Proofs.Tryz.prog D 100 (conV ([.el C.flag]:LP) ([.el C.flag]:LV) ([.int .i64]:LV) ([.same]:LV) (fun a K=>q2f a.1 (fun q0=>K (q0,()) ((),())))):=by
 intro args K hm
 obtain⟨a,_,hm⟩:=Qc hm
 exact False.elim hm
theorem z1j:Ru Proofs.Tryz.prog D 103 (conV ([.el C.layer]:LP) ([.el C.layer]:LV) ([.int .i64]:LV) ([.same]:LV) (fun a K=>q1a a.1 (fun q0=>K (q0,()) ((),())))):=by
 intro args K hm
 obtain⟨a,_,hm⟩:=Qc hm
 exact False.elim hm
theorem q42:Ru Proofs.Tryz.prog D 106 (conV ([.el C.exper]:LP) ([.el C.exper]:LV) ([.int .i64]:LV) ([.same]:LV) (fun a K=>Gc a.1 (fun q0=>K (q0,()) ((),())))):=by
 intro args K hm
 obtain⟨a,_,hm⟩:=Qc hm
 exact False.elim hm
theorem z3u:Ru Proofs.Tryz.prog D 52 (conV ([.el C.ex]:LP) ([.el C.ex]:LV) ([.bool]:LV) ([.same]:LV) (fun a K=>q2h a.1 (fun q0=>K (q0,()) ((),())))):=by
 intro args K hm
 obtain⟨a,_,hm⟩:=Qc hm
 exact False.elim hm
theorem q66:Ru Proofs.Tryz.prog D 54 (conV ([.el C.ex]:LP) ([.el C.ex]:LV) ([.vec 9 C.str]:LV) ([.same]:LV) (fun a K=>Hx a.1 (fun q0=>K (q0,()) ((),())))):=by
 intro args K hm
 obtain⟨a,_,hm⟩:=Qc hm
 exact False.elim hm
end Go.En
end
noncomputable section
set_option maxRecDepth 100000
open Go Go.RowKit Go.Fl Go.Fl.Lk Go.Fx
namespace Go.En
def q43(X:q07):Con Sg:=conS [.int .i64] [.bool] fun a K=>X a.1 (fun q0=>K (q0,()))
theorem z1k:MT 128 (q43 Vw):=mS (l:=[]) trivial []
def Ve(X:Ze):Con Sg:=conS [.sl C.str,.sl C.str] [.bool] fun a K=>X a.1 a.2.1 (fun q0=>K (q0,()))
theorem Hy:MT 180 (Ve Zf):=mS (l:=[]) trivial [(9,⟨bl 8131,[],[],[sI 13]⟩)]
def q2k(X:Bc):Con Sg:=conS [.el C.val,.el C.val] [.bool] fun a K=>X a.1 a.2.1 (fun q0=>K (q0,()))
theorem z3v{Zh:Ze}(h:AL [(180,Ve Zh)]):MT 124 (q2k (q2a Zh)):=mS h []
theorem z3w:MT 124 (q2k Uz):=z3v ⟨Hy,trivial⟩
def q32(X:Up):Con Sg:=conV [.el C.ex,.el C.ex] [.el C.ex,.el C.ex] [.bool] [.same,.same] fun a K=>X a.1 a.2.1 (fun q0=>K (q0,()) ((),(),()))
theorem q8s:MT 67 (q32 Ja):=by
 show MT _ (conV ([.el C.ex,.el C.ex]:LP) ([.el C.ex,.el C.ex]:LV) ([.bool]:LV) ([.same,.same]:LV) fun a K=>Ja a.1 a.2.1 (fun q0=>K (q0,()) ((),(),())))
 exact mQ (l:=[(124,q2k Uz)]) (u:=4) (rk:=[.v]) ⟨z3w,trivial⟩ (by kernel_rfl) [(124000009,⟨bl 130055,[],[],[sI 17]⟩),(126000009,⟨bl 130055,[],[],[sI 17]⟩)] (fun X a K=>q3y Uz (fun a b K=>X (a,b,()) fun r _=>K r.1) a.1 a.2.1 (fun q0=>K (q0,()) ((),(),()))) (fun _ _ _=>by kernel_rfl) fun a K h X hX=>h (fun a b K=>X (a,b,()) fun r _=>K r.1) fun a b K hs=>hX (a,b,()) (fun r _=>K r.1) hs
def q3n(X:J3):Con Sg:=conV [.own 40 C.ex,.el C.ex] [.vec 40 C.ex,.el C.ex] [.vec 40 C.ex] [.same,.same] fun a K=>X a.1 a.2.1 (fun q0=>K (q0,()) ((),(),()))
theorem q9i:MT 76 (q3n G5):=by
 show MT _ (conV ([.own 40 C.ex,.el C.ex]:LP) ([.vec 40 C.ex,.el C.ex]:LV) ([.vec 40 C.ex]:LV) ([.same,.same]:LV) fun a K=>G5 a.1 a.2.1 (fun q0=>K (q0,()) ((),(),())))
 exact mQ (l:=[(128,q43 Vw),(67,q32 Ja)]) (u:=4) (rk:=[.own 40 C.ex]) ⟨z1k,q8s,trivial⟩ (by kernel_rfl) [(6,⟨[1,3,4],[1],[],[(.slot 0,.own 40 C.ex)]⟩),(9,⟨bl 234881050,[1],[],[(.slot 0,.own 40 C.ex),sI 28]⟩),(66000005,⟨bl 195,[0],[],[sI 8]⟩)] (fun X a K=>Bx Vw Ja (fun l e K=>X (l,e,()) fun r _=>K r.1) a.1 a.2.1 (fun q0=>K (q0,()) ((),(),()))) (fun _ _ _=>by kernel_rfl) fun a K h X hX=>h (fun l e K=>X (l,e,()) fun r _=>K r.1) fun l e K hs=>hX (l,e,()) (fun r _=>K r.1) hs
def q44(X:q08):Con Sg:=conS [.el C.val] [.el C.val] fun a K=>X a.1 (fun q0=>K (q0,()))
theorem z1l:MT 132 (q44 Vx):=mS (l:=[]) trivial []
def q6t(X:Vq):Con Sg:=conV [.el C.ex] [.el C.ex] [.el C.ex] [.same] fun a K=>X a.1 (fun q0=>K (q0,()) ((),()))
theorem z3x:MT 77 (q6t Bd):=by
 show MT _ (conV ([.el C.ex]:LP) ([.el C.ex]:LV) ([.el C.ex]:LV) ([.same]:LV) fun a K=>Bd a.1 (fun q0=>K (q0,()) ((),())))
 exact mQ (l:=[(132,q44 Vx)]) (u:=4) (rk:=[.el C.ex]) ⟨z1l,trivial⟩ (by kernel_rfl) [(132000007,⟨bl 7955,[],[],[(.slot 5,.own 144 C.val),sI 13]⟩),(76000007,⟨bl 7955,[],[],[(.slot 5,.own 40 C.ex),sI 13]⟩)] (fun X a K=>q2b Vx (fun e K=>X (e,()) fun r _=>K r.1) a.1 (fun q0=>K (q0,()) ((),()))) (fun _ _ _=>by kernel_rfl) fun a K h X hX=>h (fun e K=>X (e,()) fun r _=>K r.1) fun e K hs=>hX (e,()) (fun r _=>K r.1) hs
def B2(X:Uc):Con Sg:=conS [.el C.ex] [.sl C.ex] fun a K=>X a.1 (fun q0=>K (q0,()))
theorem q9j{Hc:J3}{Bp:Vq}(h:AL [(76,q3n Hc),(77,q6t Bp)]):MT 29 (B2 (By Hc Bp)):=mS h [(76000007,⟨bl 7955,[1],[],[(.slot 5,.own 40 C.ex),sI 13]⟩)]
theorem q9k:MT 29 (B2 G6):=q9j ⟨q9i,z3x,trivial⟩
def q1f(X:Vy):Con Sg:=conV [] [] [.ptr 129 [.vec 136 C.node,.map C.node C.i64,.bool]] [] fun _ K=>X (fun q0 q1 q2=>K ((q0,q1,q2,()),()) ())
theorem q45:MT 22 (q1f Wp):=mP (rk:=[.ptr 129 [.own 136 C.node,.map C.node C.i64,.v]]) (l:=[]) trivial []
def Z0(X:Qo):Con Sg:=conV [.ptr 129 [.own 136 C.node,.map C.node C.i64,.v],.v] [.ptr 129 [.vec 136 C.node,.map C.node C.i64,.bool],.int .i64] [.int .i64] [.ptr 129 [.vec 136 C.node,.map C.node C.i64,.bool],.same] fun a K=>X a.1.1 a.1.2.1 a.1.2.2.1 a.2.1 (fun q0 q1 q2 q3=>K (q0,()) ((q1,q2,q3,()),(),()))
theorem Jr:MT 30 (Z0 Qp):=mP (rk:=[.v]) (l:=[]) trivial []
def Zx(X:Ql):Con Sg:=conV [.ptr 129 [.own 136 C.node,.map C.node C.i64,.v],.v] [.ptr 129 [.vec 136 C.node,.map C.node C.i64,.bool],.int .i64] [.bool] [.ptr 129 [.vec 136 C.node,.map C.node C.i64,.bool],.same] fun a K=>X a.1.1 a.1.2.1 a.1.2.2.1 a.2.1 (fun q0 q1 q2 q3=>K (q0,()) ((q1,q2,q3,()),(),()))
theorem Jc:MT 69 (Zx Q4):=mP (rk:=[.v]) (l:=[]) trivial []
def H3(X:V7):Con Sg:=conV [.ptr 129 [.own 136 C.node,.map C.node C.i64,.v],.v] [.ptr 129 [.vec 136 C.node,.map C.node C.i64,.bool],.int .i64] [.map C.i64 C.bool] [.ptr 129 [.vec 136 C.node,.map C.node C.i64,.bool],.same] fun a K=>X a.1.1 a.1.2.1 a.1.2.2.1 a.2.1 (fun q0 q1 q2 q3=>K (q0,()) ((q1,q2,q3,()),(),()))
theorem q3e{Qb:Ql}(h:AL [(69,Zx Qb)]):MT 184 (H3 (H1 Qb)):=mPg 3 (rk:=[.map C.i64 C.bool]) h [(230999999,⟨[1,2,3],[3,5,7,0,9,2],[],[(.slot 0,.int .i64),(.obj 4,.map C.i64 C.bool)]⟩)]
theorem q3f:MT 184 (H3 Zv):=q3e ⟨Jc,trivial⟩
end Go.En
end
noncomputable section
set_option maxRecDepth 100000
namespace Go.En
open Go Go.Proofs Go.RowKit Go.Fl Go.Maps Go.Sort
abbrev ki:Int->Value:=fun x=> .int .i64 x
theorem q8t(es:Array MapEntry)(s:Array Nat):(leftOf es s).size=es.toList.countP fun e'=> !s.contains e'.born:=by
 unfold leftOf
 rw[←Array.length_toList,Array.toList_filter,List.countP_eq_length_filter]
theorem z5j{es:Array MapEntry}{seen:Array Nat}{e:MapEntry}(he:e∈es.toList)(hs:e.born∉seen.toList):(leftOf es (seen.push e.born)).size<(leftOf es seen).size:=by
 rw[q8t,q8t]
 generalize es.toList=l at he
 have hle: ∀l:List MapEntry,(l.countP fun e'=> !(seen.push e.born).contains e'.born)<=l.countP fun e'=> !seen.contains e'.born:=fun l=>
  List.countP_mono_left fun x _ hx=>by simp at hx⊢;exact hx.1
 induction l with
 |nil=>simp at he
 |cons x l ih=>
  rw[List.countP_cons,List.countP_cons]
  have hx:=hle l
  rcases List.mem_cons.1 he with rfl|hm
  ·have h1:(!(seen.push e.born).contains e.born)=false:=by simp
   have h2:(!seen.contains e.born)=true:=by simpa using hs
   rw[h1,h2]
   simp only[Bool.false_eq_true,if_false,if_true]
   omega
  ·have:=ih hm
   have hx1:(!(seen.push e.born).contains x.born)=true->(!seen.contains x.born)=true:=fun h=>by simp at h⊢;exact h.1
   cases h1:(!(seen.push e.born).contains x.born) with
   |false=>simp only[Bool.false_eq_true,if_false];split<;>omega
   |true=>rw[hx1 h1];simp only[if_true];omega
def lft(w:World)(r:Nat)(es:Array MapEntry):Nat:=
 match w.heap[r]? with
 |some (.mapIter _ _ seen _)=>(leftOf es seen).size
 |_=>0
theorem j0n{w:World}{r b clock:Nat}{es:Array MapEntry}{done:List Int}{cur:Option (Int×Value)}(hi:(itrK ki r b es clock done cur).ok w)(hb:w.heap[b]? =some (.map es clock))(hK:q0b ki es.toList)(hM:MBk es.toList clock)(ty:TypeId):
  ((∀k v,lkK ki es.toList k=some v->k∈done)/\(Instr.next (.pointer (some ⟨r,0,none⟩)) false ty).run Tryz.prog w= .ok (.tuple #[.bool false]) w)∨
  ∃k v w',lkK ki es.toList k=some v/\k∉done/\(Instr.next (.pointer (some ⟨r,0,none⟩)) false ty).run Tryz.prog w= .ok (.tuple #[.bool true,.int .i64 k,v]) w'/\Keeps [r] w w'/\(itrK ki r b es clock (k::done) (some (k,v))).ok w'/\lft w' r es<lft w r es:=by
 obtain⟨seen,k1,k2,k3⟩:=hi
 have hold: ∀x∈es.toList,x.born<clock:=fun x hx=>hM.2.2 _ (List.mem_map.2 ⟨x,hx,rfl⟩)
 have hmem: ∀e,e∈(leftOf es seen).toList↔e∈es.toList/\e.born∉seen.toList:=by intro e;simp[leftOf]
 rcases run_next_at (P:=Tryz.prog) w ty r b clock clock seen es clock k1 hb hold (Nat.le_refl _) with ⟨hz,hr⟩|⟨e,he,w1,hw,hr⟩
 ·refine .inl ⟨fun k v hk=> ?_,hr⟩
  obtain⟨e,he,hek,_⟩:=(U6 hM.1 k v).1 hk
  have hin:e.born∈seen.toList:=by
   rcases Classical.em (e.born∈seen.toList) with hh|hh
   ·exact hh
   ·exfalso
    have:=(hmem e).2 ⟨he,hh⟩
    rw[Array.eq_empty_of_size_eq_zero hz] at this
    simp at this
  obtain⟨k',hk',e'⟩:=(k2 e he).1 hin
  have:ki k=ki k':=hek.symm.trans e'
  simp only[ki,Value.int.injEq,true_and] at this
  rw[this];exact hk'
 ·obtain⟨hes,hns⟩:=(hmem e).1 he
  obtain⟨k,hk⟩:=hK e hes
  have hlt:r<w.heap.size:=(Array.getElem?_eq_some_iff.1 k1).1
  have hheap:w1.heap=w.heap:=by rcases hw with rfl|rfl<;>rfl
  rw[hk] at hr
  have hnew:(ChangeMaps.setBlock w1 r (.mapIter (some b) clock (seen.push e.born) clock)).heap[r]? =some (.mapIter (some b) clock (seen.push e.born) clock):=by
   show (w1.heap.setIfInBounds r _)[r]? =_
   rw[Array.getElem?_setIfInBounds,if_pos rfl,hheap,if_pos hlt]
  refine .inr ⟨k,e.val,_,(U6 hM.1 k e.val).2 ⟨e,hes,hk,rfl⟩,fun hd=>hns ((k2 e hes).2 ⟨k,hd,hk⟩),hr,⟨?_,?_,?_,?_,fun j hj hm=> ?_⟩,⟨seen.push e.born,hnew,fun e' he'=> ?_,fun kv hkv=> ?_⟩,?_⟩
  ·rcases hw with rfl|rfl<;>rfl
  ·rcases hw with rfl|rfl<;>rfl
  ·rcases hw with rfl|rfl<;>rfl
  ·simp[ChangeMaps.setBlock,hheap]
  ·show (w1.heap.setIfInBounds r _)[j]? =_
   rw[Array.getElem?_setIfInBounds,if_neg (by intro e;exact hm (by simp[e])),hheap]
  ·rw[Array.toList_push,List.mem_append,k2 e' he',List.mem_singleton]
   constructor
   ·rintro (⟨q,h1,h2⟩|hb)
    ·exact⟨q,by simp[h1],h2⟩
    ·have h5:=find_born e es.toList hM.2.1 hes
     have h6:=find_born e' es.toList hM.2.1 he'
     rw[hb,h5] at h6
     cases h6
     exact⟨k,by simp,hk⟩
   ·rintro⟨q,h1,h2⟩
    rcases List.mem_cons.1 h1 with rfl|h1
    ·right
     exact congrArg MapEntry.born (Hp hM.1 he' hes (h2.trans hk.symm))
    ·exact .inl ⟨q,h1,h2⟩
  ·cases hkv
   exact⟨seen,e,rfl,hes,hk,rfl⟩
  ·unfold lft
   rw[hnew,k1]
   exact z5j hes hns
variable {n:Nat}{ops:Array Oper}{Q:Exit->Act->World->Prop}{rest:List Oper}{o:Oper}{a:Act}
theorem j3g{F:Fence}{P:Program}{w:World}{b clock:Nat}{es:Array MapEntry}(hg:o.guard=none){m:Operand}{t:TypeId}(hop:o.op=Op.range t m){kt et:TypeId}(ht:P.underlying t=some (.map kt et))(hm:a.eval m= .map (some b))(hb:w.heap[b]? =some (.map es clock))
  (hK:wpListIn F n P ops Q rest (a.put o.dst (.pointer (some ⟨w.heap.size,0,none⟩))) (w.alloc (.mapIter (some b) clock #[] clock))):wpListIn F n P ops Q (o::rest) a w:=by
 refine wpListIn_plain hg fun K' hK'=> ?_
 unfold Oper.wpIn
 refine⟨by simp[Oper.about,hop],?_⟩
 rw[Oper.semAt_plain F _ _ (by rw[hop];intro c hc';cases hc')]
 simp[execOp,hop,hm,Instr.range,Sem.run_bind,run_underlying ht,MapKept.run_getObj_map hb]
 exact hK' _ _ hK
theorem j60{F:Fence}{w:World}{r b clock:Nat}{es:Array MapEntry}{done:List Int}{cur:Option (Int×Value)}(hg:o.guard=none){it:Operand}(hop:o.op=Op.next it false)(hit:a.eval it= .pointer (some ⟨r,0,none⟩))
  (hi:(itrK ki r b es clock done cur).ok w)(hb:w.heap[b]? =some (.map es clock))(hK:q0b ki es.toList)(hM:MBk es.toList clock)
  (h0:(∀k v,lkK ki es.toList k=some v->k∈done)->wpListIn F n Tryz.prog ops Q rest (a.put o.dst (.tuple #[.bool false])) w)
  (h1: ∀k v w',lkK ki es.toList k=some v->k∉done->Keeps [r] w w'->(itrK ki r b es clock (k::done) (some (k,v))).ok w'->lft w' r es<lft w r es->wpListIn F n Tryz.prog ops Q rest (a.put o.dst (.tuple #[.bool true,.int .i64 k,v])) w'):
  wpListIn F n Tryz.prog ops Q (o::rest) a w:=by
 refine wpListIn_plain hg fun K' hK'=> ?_
 unfold Oper.wpIn
 refine⟨by simp[Oper.about,hop],?_⟩
 rw[Oper.semAt_plain F _ _ (by rw[hop];intro c hc';cases hc')]
 rcases j0n hi hb hK hM o.type with ⟨h2,hrun⟩|⟨k,v,w',h2,h3,hrun,h4,h5,h6⟩
 ·simp[execOp,hop,hit,hrun,Result.andThen]
  exact hK' _ _ (h0 h2)
 ·simp[execOp,hop,hit,hrun,Result.andThen]
  exact hK' _ _ (h1 k v w' h2 h3 h4 h5 h6)
theorem j3h{F:Fence}{w:World}{r b clock:Nat}{es:Array MapEntry}{done:List Int}{k:Int}{v:Value}(hg:o.guard=none){it:Operand}(hop:o.op=Op.entry it)(hit:a.eval it= .pointer (some ⟨r,0,none⟩))
  (hi:(itrK ki r b es clock done (some (k,v))).ok w)(hb:w.heap[b]? =some (.map es clock))(hM:MBk es.toList clock)
  (h:wpListIn F n Tryz.prog ops Q rest (a.put o.dst (.tuple #[.int .i64 k,v])) w):wpListIn F n Tryz.prog ops Q (o::rest) a w:=by
 refine wpListIn_plain hg fun K' hK'=> ?_
 unfold Oper.wpIn
 refine⟨by simp[Oper.about,hop],?_⟩
 rw[Oper.semAt_plain F _ _ (by rw[hop];intro c hc';cases hc')]
 obtain⟨seen,k1,k2,k3⟩:=hi
 obtain⟨s0,e,rfl,he,hk,hv⟩:=k3 _ rfl
 have hrun:=run_entry_at (P:=Tryz.prog) w r b clock s0 es clock e k1 hb he hM.2.1
 rw[hk,hv] at hrun
 simp[execOp,hop,hit,hrun,Result.andThen]
 exact hK' _ _ h
end Go.En
namespace Go.En
open Go Go.Proofs Go.RowKit Go.Fl Go.Maps Go.Sort
set_option maxHeartbeats 1000000 in
theorem w0y(n:Nat)(hn:1<=n)(l Bm b clock:Nat)(es:Array MapEntry)(hK:q0b ki es.toList)(hM:MBk es.toList clock)(J:List Int->World->Prop)(W:World)
  (hJ: ∀pre W1 W2,J pre W1->W.heap.size<W1.heap.size∨W1=W->Keeps [W.heap.size] W1 W2->J pre W2)(hb: ∀pre W1,J pre W1->W1.heap[b]? =some (.map es clock))
  (hY: ∀pre x W1,J pre W1->W.heap.size<W1.heap.size->x∉pre->(lkK ki es.toList x).isSome=true->YieldAt Fence.wide (n - 1) Tryz.prog l #[.int .i64 x] W1 fun e W2=>e= .returned (.bool true)/\J (pre++[x]) W2/\W2.heap[W.heap.size]? =W1.heap[W.heap.size]? /\W1.heap.size<=W2.heap.size)
  (hm:W.cell? ⟨Bm,0,none⟩=some (.map (some b)))(h0:J [] W):
  CallsIn Fence.wide n Tryz.prog 228 #[.func (.yield l) #[] #[],.pointer (some ⟨Bm,0,none⟩)] W fun e W'=>(∃v,e= .returned v)/\ ∃ss:List Int,ss.Nodup/\(∀k,k∈ss↔(lkK ki es.toList k).isSome=true)/\J ss W':=by
 refine callsIn_of_wp Tryz.func228 rfl trivial ?_ rfl
 simp only[Tryz.ntmps228,List.size_toArray,List.length_cons,List.length_nil,Nat.reduceAdd,Nat.reduceSub,Array.replicate_succ,Array.replicate_zero,List.push_toArray,List.append_toArray,List.nil_append,List.cons_append]
 gi_wp2_with (first
  |(gi_at_range;refine j3g rfl rfl (kt:=3) (et:=4) Tryz.underlying244 rfl (hb _ _ h0) ?_)
  |gi_in)
 have hsz:(W.alloc (.mapIter (some b) clock #[] clock)).heap.size=W.heap.size+1:=by simp
 have hJ0:J [] (W.alloc (.mapIter (some b) clock #[] clock)):=hJ _ _ _ h0 (.inr rfl) ((Zs W _).mono (by simp))
 have hi0:(itrK ki W.heap.size b es clock [] none).ok (W.alloc (.mapIter (some b) clock #[] clock)):=⟨#[],heap_alloc_new _ _,by simp,by simp⟩
 generalize W.alloc (.mapIter (some b) clock #[] clock)=W0 at hsz hJ0 hi0⊢
 go_frame
 gi_loopw [3] (fun _ wr=> ∃(done:List Int) (cur:Option (Int×Value)),(itrK ki W.heap.size b es clock done cur).ok wr/\done.Nodup/\(∀k∈done,(lkK ki es.toList k).isSome=true)/\J done.reverse wr/\W.heap.size<wr.heap.size) (fun _ wr=>lft wr W.heap.size es)
 case atStart=>exact⟨[],none,hi0,by simp,by simp,hJ0,by omega⟩
 case round=>
  obtain⟨done,cur,hi,hnd,hin,hJr,hlt⟩:=hrel
  gi_wp2_with (first
   |(gi_at_next;refine j60 rfl rfl rfl hi (hb _ _ hJr) hK hM ?_ ?_)
   |gi_in)
  ·intro hall
   gi_wp2
   go_end0
   exact⟨⟨_,rfl⟩,done.reverse,by unfold List.Nodup;rw[List.pairwise_reverse];exact hnd.imp (fun h=>h.symm),fun k=>by
    rw[List.mem_reverse]
    exact⟨hin k,fun hk=>by obtain⟨v,hv⟩:=Option.isSome_iff_exists.1 hk;exact hall k v hv⟩,hJr⟩
  ·intro k v w2 hk hkd hkeep hi2 hlft
   have hJ2:J done.reverse w2:=hJ _ _ _ hJr (.inl hlt) hkeep
   have hlt2:W.heap.size<w2.heap.size:=Nat.lt_of_lt_of_le hlt hkeep.size
   obtain⟨fn,tmps,assign,body,hy,hR⟩:=hY _ k w2 hJ2 hlt2 (by simpa using hkd) (by rw[hk];rfl)
   gi_wp2_with (first
    |(refine j3h rfl rfl rfl hi2 (hb _ _ hJ2) hM ?_)
    |gi_in)
   refine hR.mono ?_
   rintro e W3 ⟨rfl,hJ3,hr3,hs3⟩
   gi_wp2
   have hi3:(itrK ki W.heap.size b es clock (k::done) (some (k,v))).ok W3:=HObj.stay _ w2 W3 (fun q hq=>by cases hq;exact hr3) hi2
   go_roundw
   case rel=>exact⟨k::done,_,hi3,List.nodup_cons.2 ⟨hkd,hnd⟩,fun q hq=>by
    rcases List.mem_cons.1 hq with rfl|hq
    ·rw[hk];rfl
    ·exact hin q hq,by rw[List.reverse_cons];exact hJ3,by omega⟩
   case measure=>unfold lft at hlft⊢;rw[hr3];exact hlft
end Go.En
namespace Go.En
open Go Go.Proofs Go.RowKit Go.Fl Go.Maps Go.Sort
def z1m:Code:=Code.region 3 #[{dst:=some 6,op:=Op.assign (Operand.tmp 11),type:=3,pos:= "diagram.go:181",after:= #[],guard:=none}] false
def j0o:Code:=Code.block 1 ((Code.region 4 #[{dst:=some 12,op:=Op.move (Operand.tmp 6),type:=3,pos:= "diagram.go:182",after:= #[],guard:=none},
 {dst:=some 13,op:=Op.binOp BinOp.lss 3 (Operand.tmp 12) (Operand.const (Value.int .i64 0)) 3,type:=4,pos:= "diagram.go:182",after:= #[{on:=0,ground:=Ground.data}],guard:=none}] false).seq
 (Code.cond (Operand.tmp 13) (Code.region 5 #[{dst:=some 14,op:=Op.load 26 (Operand.tmp 5),type:=26,pos:= "diagram.go:183",after:= #[],guard:=none},
  {dst:=some 15,op:=Op.move (Operand.tmp 6),type:=3,pos:= "diagram.go:183",after:= #[],guard:=none},
  {dst:=some 16,op:=Op.binOp BinOp.sub 3 (Operand.const (Value.int .i64 (-1))) (Operand.tmp 15) 3,type:=3,pos:= "diagram.go:183",after:= #[{on:=1,ground:=Ground.data}],guard:=none},
  {dst:=some 17,op:=Op.buildSlice 26 1 #[(0,Operand.tmp 16)],type:=26,pos:= "diagram.go:183",after:= #[{on:=2,ground:=Ground.data}],guard:=none},
  {dst:=some 18,op:=Op.call {callee:=Callee.builtin Builtin.append,args:= #[Operand.tmp 14,Operand.tmp 17],argTypes:= #[26,26]},type:=26,pos:= "diagram.go:183",after:= #[{on:=0,ground:=Ground.data},{on:=3,ground:=Ground.data}],guard:=none},
  {dst:=none,op:=Op.store 26 (Operand.tmp 5) (Operand.tmp 18),type:=0,pos:= "diagram.go:183",after:= #[{on:=4,ground:=Ground.data},{on:=4,ground:=Ground.chain},{on:=0,ground:=Ground.phase},{on:=1,ground:=Ground.phase},{on:=2,ground:=Ground.phase},{on:=3,ground:=Ground.phase},{on:=4,ground:=Ground.phase}],guard:=none}] false) Code.skip))
def q67(fn:FuncId)(v0 v1 sv m:Value)(Bs D:Nat)(st:LoopState)(pend:Option Code):Loop:=
 {state:=st,pending:=pend,fn,tmps:= #[v0,v1,undef,undef,.slice none 0 0,.pointer (some ⟨Bs,0,none⟩),undef,v0,v1,m,sv,undef,undef,undef,undef,undef,undef,undef,undef,undef,undef,undef],params:= #[11],assign:=z1m,body:=j0o,defers:=D}
def outL(ss:List Int):List Int:=(ss.filter fun x=>decide (x<0)).map fun x=> -1 - x
structure LvAt(w0:World)(fn:FuncId)(v0 v1 sv m:Value)(Bs:Nat)(ss:List Int)(W:World):Prop where
 box: ∃v,W.heap[Bs]? =some (.cells #[v] 26 (0,0))/\W.ownsRow (w0.heap.size+3) 3 1 v (outL ss).length ((outL ss).map ki)
 L:W.heap[w0.heap.size+1]? =some (.loop (q67 fn v0 v1 sv m Bs w0.heap.size .ready none))
 K:W.heap[w0.heap.size]? =some (.deferred (some []))
 keeps:Keeps [Bs] w0 W
theorem q46(W:World)(l:Nat)(o:Obj):W.grownBy (W.putObj l o) (some l):=
 ⟨rfl,rfl,rfl,by simp,fun k _ hk=>World.putObj_heap_other (fun e=>hk (by rw[e]))⟩
theorem j82(W:World)(b:Nat)(v:Value):W.grownBy (W.setCell ⟨b,0,none⟩ v) (some b):=
 ⟨rfl,rfl,rfl,(KeepsWalks.setCell W _ v).size,fun k _ hk=>Below.heap_setCell _ _ _ k (fun e=>hk (by rw[e]))⟩
theorem z3y{W:World}{base:Nat}{e:TypeId}{size:Nat}{v:Value}{k:Nat}{xs:List Value}(h:W.ownsRow base e size v k xs){j:Nat}{o:Obj}(hj:W.heap[j]? =some o)(hno: ∀cur,o≠ .cells cur e (0,0)):
  v.ownBlock=none∨v.ownBlock≠some j:=by
 rcases h.2 with ⟨rfl,_⟩|⟨g,cap,cur,rfl,_,hgb,_⟩
 ·exact .inl rfl
 ·refine .inr fun e'=> ?_
  have:g=j:=by simpa [Value.ownBlock] using e'
  subst this;rw[hgb] at hj;cases hj;exact hno cur rfl
theorem z1n{W:World}{B:Nat}{v:Value}{t:TypeId}(h:W.heap[B]? =some (.cells #[v] t (0,0))):W.cell? ⟨B,0,none⟩=some v/\W.frozen? ⟨B,0,none⟩=false:=by
 constructor<;>simp[World.cell?,World.frozen?,h]
theorem j0p{W:World}{B:Nat}{v:Value}{t:TypeId}(v':Value)(h:W.heap[B]? =some (.cells #[v] t (0,0))):(W.setCell ⟨B,0,none⟩ v').heap[B]? =some (.cells #[v'] t (0,0)):=by
 obtain⟨hlt,hk⟩:=Array.getElem?_eq_some_iff.1 h
 show (W.heap.modify B _)[B]? =_
 rw[Array.getElem?_eq_getElem (by rw[Array.size_modify];exact hlt),Array.getElem_modify_self,hk]
 rfl
theorem Rh{w w1 w2:World}{M:List Nat}{row:Option Nat}(h:Keeps M w w1)(g:w1.grownBy w2 row)(hr: ∀k,row=some k->k∈M∨w.heap.size<=k):Keeps M w w2:=
 ⟨g.os.trans h.os,g.tape.trans h.tape,g.output.trans h.output,Nat.le_trans h.size g.size,fun k hk hm=>(g.block k (Nat.lt_of_lt_of_le hk h.size) (fun e=>by
  rcases hr k e.symm with h1|h1
  ·exact hm h1
  ·omega)).trans (h.block k hk hm)⟩
theorem z3z(ss:List Int)(x:Int):outL (ss++[x])=if x<0 then outL ss++[-1 - x] else outL ss:=by
 unfold outL
 rw[List.filter_append,List.map_append]
 by_cases h:x<0<;>simp[h]
theorem j0q(ss:List Int):(outL ss).length<=ss.length:=by unfold outL;rw[List.length_map];exact List.length_filter_le _ _
set_option maxHeartbeats 2000000 in
theorem j61(w0:World)(fn:FuncId)(v0 v1 sv m:Value)(Bs:Nat)(hB:Bs<w0.heap.size)(q:Nat)(ss:List Int)(x:Int)(W:World)(h:LvAt w0 fn v0 v1 sv m Bs ss W)(hlen:ss.length<=4294967296)(hsz:w0.heap.size+2<W.heap.size)(hx: -9223372036854775808<=x)(hx':x<=9223372036854775807):
  YieldAt Fence.wide q Tryz.prog (w0.heap.size+1) #[.int .i64 x] W fun e W'=>e= .returned (.bool true)/\LvAt w0 fn v0 v1 sv m Bs (ss++[x]) W'/\W'.heap[w0.heap.size+2]? =W.heap[w0.heap.size+2]? /\W.heap.size<=W'.heap.size:=by
 obtain⟨v,hv,hrow⟩:=h.box
 refine⟨fn,#[v0,v1,undef,undef,.slice none 0 0,.pointer (some ⟨Bs,0,none⟩),undef,v0,v1,m,sv,.int .i64 x,undef,undef,undef,undef,undef,undef,undef,undef,undef,undef],z1m,j0o,by simpa [q67] using run_yield (P:=Tryz.prog) (args:= #[.int .i64 x]) h.L rfl,roundIn_of_wpIn trivial ?_⟩
 have hl:w0.heap.size+1<W.heap.size:=(Array.getElem?_eq_some_iff.1 h.L).1
 have hbr:=run_beginRound (P:=Tryz.prog) h.L rfl
 obtain⟨W2,hW2⟩: ∃W2,W.putObj (w0.heap.size+1) (.loop {q67 fn v0 v1 sv m Bs w0.heap.size .ready none with state:= .busy})=W2:=⟨_,rfl⟩
 rw[hW2] at hbr
 have hg2:W.grownBy W2 (some (w0.heap.size+1)):=by rw[←hW2];exact q46 _ _ _
 have hv2:W2.heap[Bs]? =some (.cells #[v] 26 (0,0)):=by rw[←hW2];exact (World.putObj_heap_other (by omega)).trans hv
 have hK2:W2.heap[w0.heap.size]? =some (.deferred (some [])):=by rw[←hW2];exact (World.putObj_heap_other (by omega)).trans h.K
 have hL2:W2.heap[w0.heap.size+1]? =some (.loop {q67 fn v0 v1 sv m Bs w0.heap.size .ready none with state:= .busy}):=by rw[←hW2];exact World.putObj_heap_same hl
 have hr2:W2.heap[w0.heap.size+2]? =W.heap[w0.heap.size+2]? :=by rw[←hW2];exact World.putObj_heap_other (by omega)
 have hrow2:W2.ownsRow (w0.heap.size+3) 3 1 v (outL ss).length ((outL ss).map ki):=hrow.kept hg2 (z3y hrow h.L (fun cur e=>by cases e))
 have hk2:Keeps [Bs] w0 W2:=Rh h.keeps hg2 (fun k e=>by cases e;right;omega)
 obtain⟨hc2,hf2⟩:=z1n hv2
 have hBlt:Bs<W2.heap.size:=(Array.getElem?_eq_some_iff.1 hv2).1
 have hl2:w0.heap.size+1<W2.heap.size:=(Array.getElem?_eq_some_iff.1 hL2).1
 have hs2:W.heap.size<=W2.heap.size:=hg2.size
 clear hW2
 unfold z1m
 gi_wp2_with (rw[Oper.semAt_eq _ _ _ (fun c h=>by cases h)];go_simp;try go_bits)
 obtain⟨i0,hi⟩: ∃i,Tryz.prog.info? 3=some i:=Option.isSome_iff_exists.1 (by kernel_rfl)
 have hz0:i0.zero=some (.int .i64 0):=by
  have e:(Tryz.prog.info? 3).bind (·.zero)=some (.int .i64 0):=by kernel_rfl
  rw[hi] at e;exact e
 have hz1:i0.size=1:=by
  have e:(Tryz.prog.info? 3).map (·.size)=some 1:=by kernel_rfl
  rw[hi] at e;exact Option.some.inj e
 have hz2:i0.bytes=8:=by
  have e:(Tryz.prog.info? 3).map (·.bytes)=some 8:=by kernel_rfl
  rw[hi] at e;exact Option.some.inj e
 have hol:=j0q ss
 have ne_of: ∀{j:Nat} {o:Obj},W2.heap[j]? =some o->(∀cur,o≠ .cells cur 3 (0,0))->some j≠v.ownBlock:=fun hj hno=>by
  rcases z3y hrow2 hj hno with e|e
  ·rw[e];simp
  ·exact fun e'=>e e'.symm
 unfold j0o
 by_cases hneg:x<0
 ·gi_wp2_with (first
   |skip
    gi_at_builtin;refine wpListIn_append_own _ rfl _ _ 26 rfl (w0.heap.size+3) 3 i0 (.int .i64 0) 1 8 Tryz.underlying26 hi hz0 hz1 hz2 rfl (by decide) _ _ _ rfl (hrow2.alloc _) ⟨W2.heap.size,0,none⟩ 1 1 [.int .i64 (-1 - x)] rfl rfl (cell_one_new _ _ _) (by simp[Value.oneCell']) (by unfold maxLen;omega) (by omega) (by simp;omega) ?_;intro v' w3 hown' hg3 hnil3
    have hv3:w3.heap[Bs]? =some (.cells #[v] 26 (0,0)):=(hg3.block Bs (by simp;omega) (ne_of hv2 (fun cur e=>by cases e))).trans ((Below.heap_alloc _ _ Bs hBlt).trans hv2)
    obtain⟨hc3,hf3⟩:=z1n hv3
    obtain⟨g',cap',cur',rfl,hbase',hgb',hr1,hr3,hr4,hr5⟩: ∃g' cap' cur',v'= .slice (some ⟨g',0,none⟩) ((outL ss).length+1) cap'/\w0.heap.size+3<=g'/\w3.heap[g']? =some (.cells cur' 3 (0,0))/\(outL ss).length+1<=cap'/\cap'<=maxLen/\cur'.size=cap'*1/\cur'.toList.take (((outL ss).length+1)*1)=(outL ss).map ki++[.int .i64 (-1 - x)]:=by
     rcases hown'.2 with ⟨_,h0⟩|h'
     ·exact absurd h0 (by omega)
     ·exact h'
    go_frame
   |(rw[Oper.semAt_eq _ _ _ (fun c h=>by cases h)];go_simp;try go_bits))
  have hg3':(W2.alloc (.cells #[.int .i64 (-1 - x)] 3)).grownBy w3 v.ownBlock:=hg3
  have hL3:w3.heap[w0.heap.size+1]? =some (.loop {q67 fn v0 v1 sv m Bs w0.heap.size .ready none with state:= .busy}):=(hg3'.block _ (by simp;omega) (ne_of hL2 (fun cur e=>by cases e))).trans ((Below.heap_alloc _ _ _ hl2).trans hL2)
  have hK3:w3.heap[w0.heap.size]? =some (.deferred (some [])):=(hg3'.block _ (by simp;omega) (ne_of hK2 (fun cur e=>by cases e))).trans ((Below.heap_alloc _ _ _ (by omega)).trans hK2)
  have hk3:Keeps [Bs] w0 w3:=Rh (w1:=W2.alloc (.cells #[.int .i64 (-1 - x)] 3)) ⟨hk2.os,hk2.tape,hk2.output,by have:=hk2.size;simp;omega,fun k hk hm=>(Below.heap_alloc _ _ k (Nat.lt_of_lt_of_le hk hk2.size)).trans (hk2.block k hk hm)⟩ hg3' (fun k e=> .inr (by
   have:=(hrow2.lt k e).1;omega))
  have hr3':w3.heap[w0.heap.size+2]? =W2.heap[w0.heap.size+2]? :=(hg3'.block _ (by simp;omega) (fun e=>by
   have:=(hrow2.lt _ e.symm).1;omega)).trans (Below.heap_alloc _ _ _ (by omega))
  have hs3:W2.heap.size<=w3.heap.size:=by have:=hg3'.size;simp at this;omega
  obtain⟨w4,hw4⟩: ∃w4,w3.setCell ⟨Bs,0,none⟩ (.slice (some ⟨g',0,none⟩) ((outL ss).length+1) cap')=w4:=⟨_,rfl⟩
  rw[hw4]
  have hg4:w3.grownBy w4 (some Bs):=by rw[←hw4];exact j82 _ _ _
  have hv4:w4.heap[Bs]? =some (.cells #[.slice (some ⟨g',0,none⟩) ((outL ss).length+1) cap'] 26 (0,0)):=by rw[←hw4];exact j0p _ hv3
  have hL4:w4.heap[w0.heap.size+1]? =some (.loop {q67 fn v0 v1 sv m Bs w0.heap.size .ready none with state:= .busy}):=(hg4.block _ (Array.getElem?_eq_some_iff.1 hL3).1 (fun e=>by cases e;omega)).trans hL3
  have hK4:w4.heap[w0.heap.size]? =some (.deferred (some [])):=(hg4.block _ (Array.getElem?_eq_some_iff.1 hK3).1 (fun e=>by cases e;omega)).trans hK3
  have hrow4:=hown'.kept hg4 (z3y hown' hv3 (fun cur e=>by cases e))
  have hl4:w0.heap.size+1<w4.heap.size:=(Array.getElem?_eq_some_iff.1 hL4).1
  have hk4:Keeps [Bs] w0 w4:=Rh hk3 hg4 (fun k e=>by cases e;left;simp)
  have hr4':w4.heap[w0.heap.size+2]? =w3.heap[w0.heap.size+2]? :=hg4.block _ (by omega) (fun e=>by cases e;omega)
  have hs4:w3.heap.size<=w4.heap.size:=hg4.size
  clear hw4
  refine⟨_,_,run_endRound none hL4,rfl,⟨⟨_,(World.putObj_heap_other (by omega)).trans hv4,?_⟩,World.putObj_heap_same hl4,(World.putObj_heap_other (by omega)).trans hK4,Rh hk4 (q46 _ _ _) (fun k e=>by cases e;right;omega)⟩,?_,?_⟩
  ·have:=hrow4.kept (q46 w4 (w0.heap.size+1) (.loop {{q67 fn v0 v1 sv m Bs w0.heap.size .ready none with state:= .busy} with state:=if (none:Option Code).isNone then .ready else .done,pending:=none})) (z3y hrow4 hL4 (fun cur e=>by cases e))
   rw[z3z,if_pos hneg]
   simpa using this
  ·rw[World.putObj_heap_other (by omega),hr4',hr3',hr2,Array.getElem?_eq_getElem hsz]
  ·exact Nat.le_trans hs2 (Nat.le_trans hs3 (Nat.le_trans hs4 (q46 _ _ _).size))
 ·gi_wp2_with (rw[Oper.semAt_eq _ _ _ (fun c h=>by cases h)];go_simp;try go_bits)
  refine⟨_,_,run_endRound none hL2,rfl,⟨⟨_,(World.putObj_heap_other (by omega)).trans hv2,?_⟩,World.putObj_heap_same hl2,(World.putObj_heap_other (by omega)).trans hK2,Rh hk2 (q46 _ _ _) (fun k e=>by cases e;right;omega)⟩,?_,?_⟩
  ·have:=hrow2.kept (q46 W2 (w0.heap.size+1) (.loop {{q67 fn v0 v1 sv m Bs w0.heap.size .ready none with state:= .busy} with state:=if (none:Option Code).isNone then .ready else .done,pending:=none})) (z3y hrow2 hL2 (fun cur e=>by cases e))
   rw[z3z,if_neg (show ¬x<0 by omega)]
   simpa using this
  ·rw[World.putObj_heap_other (by omega),hr2,Array.getElem?_eq_getElem hsz]
  ·exact Nat.le_trans hs2 (q46 _ _ _).size
end Go.En
namespace Go.En
open Go Go.Proofs Go.RowKit Go.Fl Go.Fx Go.Maps Go.Sort
theorem j83(n:Nat)(mb:Option Nat)(w:World):CallsIn Fence.wide n Tryz.prog 183 #[.map mb] w fun e w'=>e= .returned (.func (.func 228) #[] #[.pointer (some ⟨w.heap.size,0,none⟩)])/\w'=w.alloc (.cells #[.map mb] 244):=by
 refine callsIn_of_wp Tryz.func183 rfl trivial ?_ rfl
 simp only[Tryz.ntmps183,List.size_toArray,List.length_cons,List.length_nil,Nat.reduceAdd,Nat.reduceSub,Array.replicate_succ,Array.replicate_zero,List.push_toArray,List.append_toArray,List.nil_append,List.cons_append]
 gi_wp2
 go_ret
 exact⟨rfl,rfl⟩
def srtI(l:List Int):List Int:=l.mergeSort fun x y=>decide (x<=y)
theorem j3i{w:World}{v:Value}{base n:Nat}{l:List Int}(hr:w.ownsRow base 3 1 v n (l.map ki))(hn:l.length=n)(hl:n<4611686018427387904):
  Calls Tryz.prog 185 #[v] w fun e w1=>e= .returned (.tuple #[])/\w.grownBy w1 v.ownBlock/\w1.ownsRow base 3 1 v n ((srtI l).map ki):=by
 subst hn
 rcases hr.2 with ⟨rfl,h0⟩|⟨g,cap,cur,rfl,hb0,hb,h1,h2,h3,h4⟩
 ·have:l=[]:=List.eq_nil_of_length_eq_zero h0
  subst this
  refine (Tryz.slices_Sort_int_none none 0 w).mono ?_
  rintro e w1 ⟨rfl,rfl⟩
  exact⟨rfl,⟨rfl,rfl,rfl,Nat.le_refl _,fun k _ _=>rfl⟩,by simpa [srtI] using hr⟩
 ·have hc:=Tryz.slices_Sort_int g 0 cap l w (holds_of_blockI hb (by simpa using h4)) (Array.getElem?_eq_some_iff.1 hb).1 hl
  refine hc.mono ?_
  rintro e w1 ⟨rfl,q,os,rfl⟩
  exact⟨rfl,grownBy_sortedI _,by
   have:=ownsRow_sortedI (n:=q) (os:=os) (ss:=l) (ts:=l.mergeSort fun x y=>decide (x<=y)) (by simp) hb0 hb h1 h2 h3
   exact this⟩
theorem j3j{l:List Int}(h:l.Nodup):(srtI l).Pairwise (· < ·):=by
 have h1:(srtI l).Pairwise fun x y=>decide (x<=y)=true:=List.pairwise_mergeSort (fun a b c h1 h2=>by simp at h1 h2⊢;omega) (fun a b=>by simp;omega) l
 have h2:(srtI l).Nodup:=(List.mergeSort_perm l _).nodup_iff.2 h
 exact (h1.and h2).imp fun ⟨a,b⟩=>by simp at a;omega
theorem z7y{ss:List Int}(h:ss.Nodup):(outL ss).Nodup:=by
 unfold outL
 exact (List.pairwise_map.2 ((h.filter _).imp fun hab e=>hab (by omega)))
theorem nodup_len{l l':List Int}(h:l.Nodup)(hs: ∀x∈l,x∈l'):l.length<=l'.length:=by
 induction l generalizing l' with
 |nil=>simp
 |cons a l ih=>
  rw[List.nodup_cons] at h
  have:=ih (l':=l'.erase a) h.2 fun x hx=>by
   have hne:x≠a:=fun e=>h.1 (e▸hx)
   exact (List.mem_erase_of_ne hne).2 (hs x (by simp[hx]))
  rw[List.length_erase_of_mem (hs a (by simp))] at this
  have hp:=List.length_pos_of_mem (hs a (by simp))
  simp only[List.length_cons]
  omega
set_option maxHeartbeats 4000000 in
theorem q2l:Ru Proofs.Tryz.prog D 134 (conV ([.ptr 129 [.own 136 C.node,.map C.node C.i64,.v],.v]:LP) ([.ptr 129 [.vec 136 C.node,.map C.node C.i64,.bool],.int .i64]:LV) ([.vec 3 C.i64]:LV) ([.ptr 129 [.vec 136 C.node,.map C.node C.i64,.bool],.same]:LV) (fun a K=>Z3 a.1.1 a.1.2.1 a.1.2.2.1 a.2.1 (fun q0 q1 q2 q3=>K (q0,()) ((q1,q2,q3,()),(),())))):=by
 intro args K hm w σ vals ins hG hL hS
 obtain⟨a,ha,hm⟩:=Qc hm
 have hargs:=Vd ha
 subst hargs
 obtain⟨⟨ns,ids,full,_⟩,id,_⟩:=a
 let K2:List (Fx.Tr Sg)->List (Fx.Tr Sg)->Prop:=fun rets outs=>optK (getL ([.map C.i64 C.bool]:LV) rets) fun r=>optK (getL ([.ptr 129 [.vec 136 C.node,.map C.node C.i64,.bool],.same]:LV) outs) fun o=>
  (∀ks:List Int,Keys r.1 ks->Sml ks.length)/\(∀x,(r.1 x).isSome=true->InI x)/\ ∀l:List Int,l.Pairwise (· < ·)->(∀n,n∈l↔0<=n/\(r.1 (-1 - n)).isSome=true)->K [.vec 3 C.i64 l] outs
 have hreach:=q3f.m (putL ([.ptr 129 [.vec 136 C.node,.map C.node C.i64,.bool],.int .i64]:LV) ((ns,ids,full,()),id,())) K2 hm
 have hLL:=hL
 cases hL with
 | @cons _ _ v0 _ m0 _ hp hr=>
 cases hr with
 | @cons _ _ v1 _ m1 _ h1 hn=>
 cases hn
 cases h1 with
 |f hi=>
 cases hi
 simp only[List.append_nil] at hS hLL⊢
 have hS1:=Rr hS 26 #[.slice none 0 0]
 have hS1':=(hS1.perm (ms':=m0++[blk w.heap.size 26 [.slice none 0 0]]) (by simpa using (List.perm_append_singleton _ _).symm)).inner
 have hcall:Calls Tryz.prog 184 #[v0,.int .i64 id] _ (Back D σ _ (putL ([.ptr 129 [.vec 136 C.node,.map C.node C.i64,.bool],.int .i64]:LV) ((ns,ids,full,()),id,())) [v0,.int .i64 id] m0 K2):=hreach _ σ [v0,.int .i64 id] m0 hG hLL hS1'
 change Calls Tryz.prog 134 #[v0,.int .i64 id] w (Back D σ w (putL ([.ptr 129 [.vec 136 C.node,.map C.node C.i64,.bool],.int .i64]:LV) ((ns,ids,full,()),id,())) [v0,.int .i64 id] m0 K)
 refine (callsIn_wide (n:=5)).1 (callsIn_of_wp_marks Tryz.func134 rfl trivial ?_ rfl)
 simp only[Tryz.ntmps134,List.size_toArray,List.length_cons,List.length_nil,Nat.reduceAdd,Nat.reduceSub,Array.replicate_succ,Array.replicate_zero,List.push_toArray,List.append_toArray,List.nil_append,List.cons_append]
 gi_wp2
 refine⟨trivial,(callsIn_wide.2 hcall).mono ?_⟩
 rintro e w2 ⟨rets,outs,rv,σ2,msr,mso,rfl,hq0,hLr,hLT,hS2⟩
 obtain⟨r,hr,hq1⟩:=Qc hq0
 obtain⟨o,ho,hq2⟩:=Qc hq1
 clear hq0 hq1
 have er:=Vd hr
 subst er
 obtain⟨F,_⟩:=r
 cases hLr with
 | @cons _ _ vm _ mm _ hm1 hn1=>
 cases hn1
 cases hm1 with
 | @map _ _ _ bm mfun hF=>
 simp only[retV]
 gi_wp2
 refine⟨trivial,(j83 _ (some bm) _).mono ?_⟩
 rintro e w3 ⟨rfl,rfl⟩
 gi_wp2
 refine wpIn_rangeFunc ?_
 intro fn hfn
 rw[show Fence.wide.round=none from rfl]
 have hS2a:St ⟨w,σ,feet m0⟩ w2 σ2 ((([q3c (kenc D C.i64) bm mfun]++[])++mso)++[blk w.heap.size 26 [.slice none 0 0]]):=
  St.callM (ins:=m0) (rest:=[blk w.heap.size 26 [.slice none 0 0]]) (hS1.perm (by simpa using (List.perm_append_singleton _ _).symm)) hS2 rfl
 have hS3:=Rr hS2a 244 #[.map (some bm)]
 have hbox:(w2.alloc (.cells #[.map (some bm)] 244)).heap[w2.heap.size]? =some (.cells #[.map (some bm)] 244 (0,0)):=heap_alloc_new _ _
 have hsz3:(w2.alloc (.cells #[.map (some bm)] 244)).heap.size=w2.heap.size+1:=by simp
 generalize w2.alloc (.cells #[.map (some bm)] 244)=w3 at hS3 hbox hsz3⊢
 have hBs:w3.heap[w.heap.size]? =some (.cells #[.slice none 0 0] 26 (0,0)):=hS3.own (blk w.heap.size 26 [.slice none 0 0]) (by simp)
 obtain⟨es,clock,hes,hKs,hlk,hMB⟩:(q3c ki bm mfun).ok w3:=hS3.own (q3c (kenc D C.i64) bm mfun) (by simp)
 have hBlt:w.heap.size<w3.heap.size:=(Array.getElem?_eq_some_iff.1 hBs).1
 have hblt:bm<w3.heap.size:=(Array.getElem?_eq_some_iff.1 hes).1
 have hne:bm≠w.heap.size:=fun e=>by rw[e,hBs] at hes;cases hes
 obtain⟨hbound,hin,hfin⟩:=hq2
 have hFm: ∀k,(lkK ki es.toList k).isSome=(F k).isSome:=fun k=>by rw[hlk k];exact ORel.isSome (hF k)
 obtain⟨ks,hksn,hks⟩:=j79 hKs hMB.1 (fun a b h=>by simpa using h)
 have hksm:Sml ks.length:=hbound ks ⟨hksn,fun k=>by rw[hks k,hFm k]⟩
 obtain⟨B,hB⟩: ∃B,(w3.alloc (.deferred (some []))).alloc (.loop (q67 fn v0 (.int .i64 id) (.func (.func 228) #[] #[.pointer (some ⟨w2.heap.size,0,none⟩)]) (.map (some bm)) w.heap.size w3.heap.size .ready none))=B:=⟨_,rfl⟩
 have hold: ∀k,k<w3.heap.size->B.heap[k]? =w3.heap[k]? :=fun k hk=>by
  rw[←hB];exact (Below.heap_alloc _ _ k (by simp;omega)).trans (Below.heap_alloc _ _ k hk)
 have hBsz:B.heap.size=w3.heap.size+2:=by rw[←hB];simp
 have hBk:Keeps [] w3 B:=by rw[←hB];exact (Zs _ _).trans (Zs _ _)
 have hLv0:LvAt w3 fn v0 (.int .i64 id) (.func (.func 228) #[] #[.pointer (some ⟨w2.heap.size,0,none⟩)]) (.map (some bm)) w.heap.size [] B:=
  ⟨⟨_,(hold _ hBlt).trans hBs,⟨rfl,.inl ⟨rfl,rfl⟩⟩⟩,
   by rw[←hB];have:=World.alloc_heap_new (w3.alloc (.deferred (some []))) (.loop (q67 fn v0 (.int .i64 id) (.func (.func 228) #[] #[.pointer (some ⟨w2.heap.size,0,none⟩)]) (.map (some bm)) w.heap.size w3.heap.size .ready none));rwa [World.size_alloc] at this,
   by rw[←hB];exact (Below.heap_alloc _ _ _ (by simp)).trans (World.alloc_heap_new w3 _),hBk.mono (by simp)⟩
 refine⟨w3.heap.size+1,[{target:= .collected w3.heap.size,args:= #[]}],B,{target:= .fn (.func 228) #[.pointer (some ⟨w2.heap.size,0,none⟩)],args:= #[.func (.yield (w3.heap.size+1)) #[] #[]]},B,228,
  #[.func (.yield (w3.heap.size+1)) #[] #[],.pointer (some ⟨w2.heap.size,0,none⟩)],B,?_,?_,?_,?_,fun _=>by decide,?_⟩
 ·rw[←hB];exact run_enterLoop_outer _ _ _ _ _
 ·simp[resolve,go_sem]
 ·intro f' h';trivial
 ·simp[invoke,go_sem]
 have hcomes:=w0y 4 (by omega) (w3.heap.size+1) w2.heap.size bm clock es hKs hMB (fun pre W=>LvAt w3 fn v0 (.int .i64 id) (.func (.func 228) #[] #[.pointer (some ⟨w2.heap.size,0,none⟩)]) (.map (some bm)) w.heap.size pre W/\pre.Nodup/\ ∀k∈pre,(lkK ki es.toList k).isSome=true) B
  (fun pre W1 W2 hJ _ hk=> ?_) (fun pre W1 hJ=> ?_) (fun pre x W1 hJ hlt hx hxs=> ?_) (by simp[World.cell?,hold _ (show w2.heap.size<w3.heap.size by omega),hbox]) ⟨hLv0,by simp,by simp⟩
 ·refine hcomes.mono ?_
  rintro e Wc ⟨⟨_,rfl⟩,ss,hssn,hss,hC,_,_⟩
  obtain⟨v,hv,hrow⟩:=hC.box
  have hend:=run_endLoop (P:=Tryz.prog) hC.L (by simp[q67])
  obtain⟨W5,hW5⟩: ∃W5,Wc.putObj (w3.heap.size+1) (.loop {q67 fn v0 (.int .i64 id) (.func (.func 228) #[] #[.pointer (some ⟨w2.heap.size,0,none⟩)]) (.map (some bm)) w.heap.size w3.heap.size .ready none with state:= .exhausted})=W5:=⟨_,rfl⟩
  rw[hW5] at hend
  have hg5:Wc.grownBy W5 (some (w3.heap.size+1)):=by rw[←hW5];exact q46 _ _ _
  have hv5:W5.heap[w.heap.size]? =some (.cells #[v] 26 (0,0)):=by rw[←hW5];exact (World.putObj_heap_other (by omega)).trans hv
  have hK5:W5.heap[w3.heap.size]? =some (.deferred (some [])):=by rw[←hW5];exact (World.putObj_heap_other (by omega)).trans hC.K
  have hrow5:=hrow.kept hg5 (z3y hrow hC.L (fun cur e=>by cases e))
  have hk5:Keeps [w.heap.size] w3 W5:=Rh hC.keeps hg5 (fun k e=>by cases e;right;omega)
  obtain⟨hc5,hf5⟩:=z1n hv5
  clear hW5
  have hlen:ss.length<=ks.length:=nodup_len hssn fun x hx=>(hks x).2 ((hss x).1 hx)
  have hol:=j0q ss
  have hsml:ks.length<=4294967296:=hksm
  refine⟨none,W5,hend,?_⟩
  gi_wp2
  refine⟨trivial,(callsIn_wide.2 (j3i hrow5 rfl (by omega))).mono ?_⟩
  rintro e W6 ⟨rfl,hg6,hrow6⟩
  have ne_of: ∀{j:Nat} {o:Obj},W5.heap[j]? =some o->(∀cur,o≠ .cells cur 3 (0,0))->some j≠v.ownBlock:=fun hj hno=>by
   rcases z3y hrow5 hj hno with e|e
   ·rw[e];simp
   ·exact fun e'=>e e'.symm
  have hv6:W6.heap[w.heap.size]? =some (.cells #[v] 26 (0,0)):=(hg6.block _ (Array.getElem?_eq_some_iff.1 hv5).1 (ne_of hv5 (fun cur e=>by cases e))).trans hv5
  have hK6:W6.heap[w3.heap.size]? =some (.deferred (some [])):=(hg6.block _ (Array.getElem?_eq_some_iff.1 hK5).1 (ne_of hK5 (fun cur e=>by cases e))).trans hK5
  have hk6:Keeps [w.heap.size] w3 W6:=Rh hk5 hg6 (fun k e=> .inr (by have:=(hrow5.lt k e).1;omega))
  obtain⟨hc6,hf6⟩:=z1n hv6
  gi_wp2
  rw[←hsz3]
  refine⟨by simp,.inl ⟨_,_,rfl,run_takeDeferred hK6,?_⟩⟩
  refine⟨_,results_tmp rfl _ _ _,?_⟩
  obtain⟨W7,hW7⟩: ∃W7,W6.putObj w3.heap.size (.deferred none)=W7:=⟨_,rfl⟩
  rw[hW7]
  have hg7:W6.grownBy W7 (some w3.heap.size):=by rw[←hW7];exact q46 _ _ _
  have hk7:Keeps [w.heap.size] w3 W7:=Rh hk6 hg7 (fun k e=>by cases e;right;omega)
  have hrow7:=hrow6.kept hg7 (z3y hrow6 hK6 (fun cur e=>by cases e))
  clear hW7
  have hnl:(srtI (outL ss)).length=(outL ss).length:=by simp[srtI]
  have hE:Els D σ2 C.i64 ((srtI (outL ss)).map ki) (srtI (outL ss)):=by
   refine⟨by show _=(srtI (outL ss)).length*1;simp,fun i x hx=> ?_⟩
   have hxx:(((srtI (outL ss)).map ki).drop (i*1)).take 1=[ki x]:=by
    rw[Nat.mul_one]
    have h1:((srtI (outL ss)).map ki)[i]? =some (ki x):=by rw[List.getElem?_map,hx];rfl
    rw[List.take_one,List.head?_drop,h1]
    rfl
   refine⟨by show ((((srtI (outL ss)).map ki).drop (i*1)).take 1).length=1;rw[hxx];rfl,fun j v s hj hs=> ?_⟩
   have hj:[ki x][j]? =some v:=by rw[←hxx];exact hj
   match j with
   |0=>cases hj;cases hs;exact .int _ _
   |j+1=>cases hj
  have hvec:(vec v 3 (D.size C.i64) (srtI (outL ss)).length ((srtI (outL ss)).map ki)).ok W7:=by
   rw[hnl]
   show World.ownsRow _ 0 3 1 v (outL ss).length _
   rcases hrow7 with ⟨h1,h2⟩
   exact⟨h1,h2.imp (fun h=>h) fun ⟨g,cap,cur,e1,_,e3⟩=>⟨g,cap,cur,e1,Nat.zero_le _,e3⟩⟩
  have hfoot: ∀k,(vec v 3 (D.size C.i64) (srtI (outL ss)).length ((srtI (outL ss)).map ki)).foot=some k->w3.heap.size<=k:=fun k hk=>by
   have:=(hrow7.lt k hk).1
   omega
  have hS4:=hS3.step (i:=mso.length+2) (o:=blk w.heap.size 26 [.slice none 0 0]) (o':=vec v 3 (D.size C.i64) (srtI (outL ss)).length ((srtI (outL ss)).map ki)) (ms':=(blk w2.heap.size 244 [.map (some bm)]::([q3c (kenc D C.i64) bm mfun]++[]++mso))++[vec v 3 (D.size C.i64) (srtI (outL ss)).length ((srtI (outL ss)).map ki)])
   (by simp) hk7 hvec (fun k hk=> .inr (hfoot k hk)) (by simp) hS3.view.none_of_ge
  have hS5:St ⟨w,σ,feet m0⟩ W7 σ2 ([vec v 3 (D.size C.i64) (srtI (outL ss)).length ((srtI (outL ss)).map ki)]++mso):=by
   have h1:=hS4.perm (ms':=[blk w2.heap.size 244 [.map (some bm)],q3c (kenc D C.i64) bm mfun]++([vec v 3 (D.size C.i64) (srtI (outL ss)).length ((srtI (outL ss)).map ki)]++mso)) (by simp)
   exact h1.sublist (List.sublist_append_right _ _)
  refine⟨[.vec 3 C.i64 (srtI (outL ss))],outs,[v],σ2,[vec v 3 (D.size C.i64) (srtI (outL ss)).length ((srtI (outL ss)).map ki)],mso,rfl,?_,?_,hLT,hS5⟩
  ·refine hfin _ (j3j (z7y hssn)) fun n=> ?_
   have e1:n∈srtI (outL ss)↔n∈outL ss:=(List.mergeSort_perm _ _).mem_iff
   rw[e1]
   unfold outL
   simp only[List.mem_map,List.mem_filter,decide_eq_true_eq]
   constructor
   ·rintro⟨x,⟨h1,h2⟩,rfl⟩
    refine⟨by omega,?_⟩
    rw[show -1 - (-1 - x)=x by omega,←hFm]
    exact (hss x).1 h1
   ·rintro⟨h1,h2⟩
    exact⟨-1 - n,⟨(hss _).2 (by rw[hFm];exact h2),by omega⟩,by omega⟩
  ·exact .cons (ms':=[]) (.vec hE (by rw[hnl];omega) (Ho hvec)) .nil
 ·obtain⟨hJ,hn1,hn2⟩:=hJ
  have hg:W1.grownBy W2 (some B.heap.size):=⟨hk.os,hk.tape,hk.output,hk.size,fun k hlt hne=>hk.block k hlt (fun e=>hne (by simp at e;rw[e]))⟩
  obtain⟨v,hv,hrow⟩:=hJ.box
  refine⟨⟨⟨v,(hg.block _ (Array.getElem?_eq_some_iff.1 hv).1 (fun e=>by have:=Option.some.inj e;omega)).trans hv,hrow.kept hg ?_⟩,(hg.block _ (Array.getElem?_eq_some_iff.1 hJ.L).1 (fun e=>by
   have:=Option.some.inj e;omega)).trans hJ.L,(hg.block _ (Array.getElem?_eq_some_iff.1 hJ.K).1 (fun e=>by
   have:=Option.some.inj e;omega)).trans hJ.K,Rh hJ.keeps hg (fun k e=>by
   have:=Option.some.inj e;right;omega)⟩,hn1,hn2⟩
  rcases hrow.2 with ⟨rfl,_⟩|⟨g,cap,cur,rfl,hge,_⟩
  ·exact .inl rfl
  ·refine .inr fun e=> ?_
   have:g=B.heap.size:=by simpa [Value.ownBlock] using e
   omega
 ·exact (hJ.1.keeps.block bm hblt (by simpa using hne)).trans hes
 ·have hxF:InI x:=hin x (by rw[←hFm];exact hxs)
  obtain⟨hJ,hn1,hn2⟩:=hJ
  have hlen:pre.length<=ks.length:=nodup_len hn1 fun y hy=>(hks y).2 (hn2 y hy)
  have hsml:ks.length<=4294967296:=hksm
  have hy:=j61 w3 fn v0 (.int .i64 id) (.func (.func 228) #[] #[.pointer (some ⟨w2.heap.size,0,none⟩)]) (.map (some bm)) w.heap.size hBlt (4 - 1) pre x W1 hJ (by omega) (by omega) hxF.1 hxF.2
  obtain⟨fn',tmps,assign,body,h1,h2⟩:=hy
  refine⟨fn',tmps,assign,body,h1,h2.mono fun e W2 h=>⟨h.1,⟨h.2.1,?_,fun k hk=> ?_⟩,by rw[hBsz];exact h.2.2.1,h.2.2.2⟩⟩
  ·rw[List.nodup_append]
   exact⟨hn1,by simp,fun a ha b hb e=>hx (by simp at hb;rw[←hb,←e];exact ha)⟩
  ·rcases List.mem_append.1 hk with hk|hk
   ·exact hn2 k hk
   ·simp at hk;rw[hk];exact hxs
end Go.En
end
noncomputable section
set_option maxRecDepth 100000
open Go Go.RowKit Go.Fl Go.Fl.Lk Go.Fx
namespace Go.En
def Hk(X:Vr):Con Sg:=conV [.ptr 129 [.own 136 C.node,.map C.node C.i64,.v],.v] [.ptr 129 [.vec 136 C.node,.map C.node C.i64,.bool],.int .i64] [.vec 3 C.i64] [.ptr 129 [.vec 136 C.node,.map C.node C.i64,.bool],.same] fun a K=>X a.1.1 a.1.2.1 a.1.2.2.1 a.2.1 (fun q0 q1 q2 q3=>K (q0,()) ((q1,q2,q3,()),(),()))
theorem q2m:MT 134 (Hk Z3):=⟨entB (by kernel_rfl),q2l⟩
def Zn(X:Qm):Con Sg:=conV [.ptr 129 [.own 136 C.node,.map C.node C.i64,.v],.v] [.ptr 129 [.vec 136 C.node,.map C.node C.i64,.bool],.int .i64] [.bool] [.ptr 129 [.vec 136 C.node,.map C.node C.i64,.bool],.same] fun a K=>X a.1.1 a.1.2.1 a.1.2.2.1 a.2.1 (fun q0 q1 q2 q3=>K (q0,()) ((q1,q2,q3,()),(),()))
theorem q0n{Qb:Ql}{J0:Vr}(h:AL [(69,Zx Qb),(134,Hk J0)]):MT 78 (Zn (U0 Qb J0)):=mP (rk:=[.v]) h [(183000005,⟨bl 195,[5],[],[sI 8]⟩)]
theorem We:MT 78 (Zn Q6):=q0n ⟨Jc,q2m,trivial⟩
def q3o(X:Bz):Con Sg:=conS [.int .i64] [.int .i64,.bool] fun a K=>X a.1 (fun q0 q1=>K (q0,q1,()))
theorem q9l:MT 186 (q3o Ud):=mS (l:=[]) trivial []
def Wy(X:Zj):Con Sg:=conV [.ptr 129 [.own 136 C.node,.map C.node C.i64,.v],.v] [.ptr 129 [.vec 136 C.node,.map C.node C.i64,.bool],.int .i64] [.int .i64] [.ptr 129 [.vec 136 C.node,.map C.node C.i64,.bool],.same] fun a K=>X a.1.1 a.1.2.1 a.1.2.2.1 a.2.1 (fun q0 q1 q2 q3=>K (q0,()) ((q1,q2,q3,()),(),()))
theorem Ut:MT 126 (Wy Qz):=mP (rk:=[.v]) (l:=[]) trivial []
def Wf(X:Z8):Con Sg:=conV [.ptr 129 [.own 136 C.node,.map C.node C.i64,.v],.v,.v] [.ptr 129 [.vec 136 C.node,.map C.node C.i64,.bool],.int .i64,.int .i64] [.int .i64,.int .i64] [.ptr 129 [.vec 136 C.node,.map C.node C.i64,.bool],.same,.same] fun a K=>X a.1.1 a.1.2.1 a.1.2.2.1 a.2.1 a.2.2.1 (fun q0 q1 q2 q3 q4=>K (q0,q1,()) ((q2,q3,q4,()),(),(),()))
theorem q0o{Qi:Zj}(h:AL [(126,Wy Qi)]):MT 187 (Wf (U1 Qi)):=mP (rk:=[.v,.v]) h []
theorem q0p:MT 187 (Wf Qw):=q0o ⟨Ut,trivial⟩
def Wz(X:Jm):Con Sg:=conV [.ptr 129 [.own 136 C.node,.map C.node C.i64,.v],.v,.v,.v] [.ptr 129 [.vec 136 C.node,.map C.node C.i64,.bool],.int .i64,.int .i64,.int .i64] [.int .i64] [.ptr 129 [.vec 136 C.node,.map C.node C.i64,.bool],.same,.same,.same] fun a K=>X a.1.1 a.1.2.1 a.1.2.2.1 a.2.1 a.2.2.1 a.2.2.2.1 (fun q0 q1 q2 q3=>K (q0,()) ((q1,q2,q3,()),(),(),(),()))
theorem q33{Qb:Ql}{Qi:Zj}(h:AL [(69,Zx Qb),(126,Wy Qi)]):MT 68 (Wz (Rw Qb Qi)):=mP (rk:=[.v]) h []
theorem R4:MT 68 (Wz Qq):=q33 ⟨Jc,Ut,trivial⟩
def Hl(X:Q7):Con Sg:=conV [.ptr 129 [.own 136 C.node,.map C.node C.i64,.v],.v,.v,.v,.map C.a3 C.i64] [.ptr 129 [.vec 136 C.node,.map C.node C.i64,.bool],.int .i64,.int .i64,.int .i64,.map C.a3 C.i64] [.int .i64] [.ptr 129 [.vec 136 C.node,.map C.node C.i64,.bool],.same,.same,.same,.map C.a3 C.i64] fun a K=>X a.1.1 a.1.2.1 a.1.2.2.1 a.2.1 a.2.2.1 a.2.2.2.1 a.2.2.2.2.1 (fun q0 q1 q2 q3 q4=>K (q0,()) ((q1,q2,q3,()),(),(),(),q4,()))
theorem q2n:MT 136 (Hl Jw):=by
 show MT _ (conV ([.ptr 129 [.own 136 C.node,.map C.node C.i64,.v],.v,.v,.v,.map C.a3 C.i64]:LP) ([.ptr 129 [.vec 136 C.node,.map C.node C.i64,.bool],.int .i64,.int .i64,.int .i64,.map C.a3 C.i64]:LV) ([.int .i64]:LV) ([.ptr 129 [.vec 136 C.node,.map C.node C.i64,.bool],.same,.same,.same,.map C.a3 C.i64]:LV) fun a K=>Jw a.1.1 a.1.2.1 a.1.2.2.1 a.2.1 a.2.2.1 a.2.2.2.1 a.2.2.2.2.1 (fun q0 q1 q2 q3 q4=>K (q0,()) ((q1,q2,q3,()),(),(),(),q4,())))
 exact mQ (l:=[(186,q3o Ud),(126,Wy Qz),(187,Wf Qw),(68,Wz Qq)]) (u:=4) (rk:=[.v]) ⟨q9l,Ut,q0p,R4,trivial⟩ (by kernel_rfl) [] (fun X a K=>Z4 Ud Qz Qw Qq (fun ns ids full f g h memory K=>X ((ns,ids,full,()),f,g,h,memory,()) fun r o=>K r.1 o.1.1 o.1.2.1 o.1.2.2.1 o.2.2.2.2.1) a.1.1 a.1.2.1 a.1.2.2.1 a.2.1 a.2.2.1 a.2.2.2.1 a.2.2.2.2.1 (fun q0 q1 q2 q3 q4=>K (q0,()) ((q1,q2,q3,()),(),(),(),q4,()))) (fun _ _ _=>by kernel_rfl) fun a K h X hX=>h (fun ns ids full f g h memory K=>X ((ns,ids,full,()),f,g,h,memory,()) fun r o=>K r.1 o.1.1 o.1.2.1 o.1.2.2.1 o.2.2.2.2.1) fun ns ids full f g h memory K hs=>hX ((ns,ids,full,()),f,g,h,memory,()) (fun r o=>K r.1 o.1.1 o.1.2.1 o.1.2.2.1 o.2.2.2.2.1) hs
def Z5(X:Qs):Con Sg:=conV [.ptr 129 [.own 136 C.node,.map C.node C.i64,.v],.v,.v,.v] [.ptr 129 [.vec 136 C.node,.map C.node C.i64,.bool],.int .i64,.int .i64,.int .i64] [.int .i64] [.ptr 129 [.vec 136 C.node,.map C.node C.i64,.bool],.same,.same,.same] fun a K=>X a.1.1 a.1.2.1 a.1.2.2.1 a.2.1 a.2.2.1 a.2.2.2.1 (fun q0 q1 q2 q3=>K (q0,()) ((q1,q2,q3,()),(),(),(),()))
theorem q2o{Qd:Qm}{Qb:Ql}{J1:Q7}(h:AL [(78,Zn Qd),(69,Zx Qb),(136,Hl J1)]):MT 79 (Z5 (Hi Qd Qb J1)):=mP (rk:=[.v]) h []
theorem Vt:MT 79 (Z5 Zl):=q2o ⟨We,Jc,q2n,trivial⟩
def Gi(X:Z9):Con Sg:=conV [.ptr 129 [.own 136 C.node,.map C.node C.i64,.v],.v,.v] [.ptr 129 [.vec 136 C.node,.map C.node C.i64,.bool],.int .i64,.int .i64] [.int .i64] [.ptr 129 [.vec 136 C.node,.map C.node C.i64,.bool],.same,.same] fun a K=>X a.1.1 a.1.2.1 a.1.2.2.1 a.2.1 a.2.2.1 (fun q0 q1 q2 q3=>K (q0,()) ((q1,q2,q3,()),(),(),()))
theorem q47{Qd:Qm}{Qa:Qo}{Qf:Qs}(h:AL [(78,Zn Qd),(30,Z0 Qa),(79,Z5 Qf)]):MT 63 (Gi (Be Qd Qa Qf)):=mP (rk:=[.v]) h []
theorem q48:MT 63 (Gi Zt):=q47 ⟨We,Jr,Vt,trivial⟩
def V2(X:Ji):Con Sg:=conV [.ptr 129 [.own 136 C.node,.map C.node C.i64,.v],.v,.v] [.ptr 129 [.vec 136 C.node,.map C.node C.i64,.bool],.int .i64,.int .i64] [.int .i64] [.ptr 129 [.vec 136 C.node,.map C.node C.i64,.bool],.same,.same] fun a K=>X a.1.1 a.1.2.1 a.1.2.2.1 a.2.1 a.2.2.1 (fun q0 q1 q2 q3=>K (q0,()) ((q1,q2,q3,()),(),(),()))
theorem q6e{Qd:Qm}{Qa:Qo}{Qf:Qs}(h:AL [(78,Zn Qd),(30,Z0 Qa),(79,Z5 Qf)]):MT 31 (V2 (q0h Qd Qa Qf)):=mP (rk:=[.v]) h []
theorem q0q:MT 31 (V2 Zm):=q6e ⟨We,Jr,Vt,trivial⟩
def Gj(X:Vi):Con Sg:=conV [.ptr 129 [.own 136 C.node,.map C.node C.i64,.v],.v] [.ptr 129 [.vec 136 C.node,.map C.node C.i64,.bool],.int .i64] [.int .i64] [.ptr 129 [.vec 136 C.node,.map C.node C.i64,.bool],.same] fun a K=>X a.1.1 a.1.2.1 a.1.2.2.1 a.2.1 (fun q0 q1 q2 q3=>K (q0,()) ((q1,q2,q3,()),(),()))
theorem q49{Qa:Qo}{Qf:Qs}(h:AL [(30,Z0 Qa),(79,Z5 Qf)]):MT 64 (Gj (Bf Qa Qf)):=mP (rk:=[.v]) h []
theorem q5a:MT 64 (Gj Zu):=q49 ⟨Jr,Vt,trivial⟩
def G1(X:Q2):Con Sg:=conV [.ptr 129 [.own 136 C.node,.map C.node C.i64,.v],.sl C.ex,.el C.ex] [.ptr 129 [.vec 136 C.node,.map C.node C.i64,.bool],.sl C.ex,.el C.ex] [.int .i64] [.ptr 129 [.vec 136 C.node,.map C.node C.i64,.bool],.same,.same] fun a K=>X a.1.1 a.1.2.1 a.1.2.2.1 a.2.1 a.2.2.1 (fun q0 q1 q2 q3=>K (q0,()) ((q1,q2,q3,()),(),(),()))
theorem q0r:MT 23 (G1 Jj):=by
 show MT _ (conV ([.ptr 129 [.own 136 C.node,.map C.node C.i64,.v],.sl C.ex,.el C.ex]:LP) ([.ptr 129 [.vec 136 C.node,.map C.node C.i64,.bool],.sl C.ex,.el C.ex]:LV) ([.int .i64]:LV) ([.ptr 129 [.vec 136 C.node,.map C.node C.i64,.bool],.same,.same]:LV) fun a K=>Jj a.1.1 a.1.2.1 a.1.2.2.1 a.2.1 a.2.2.1 (fun q0 q1 q2 q3=>K (q0,()) ((q1,q2,q3,()),(),(),())))
 exact mQ (l:=[(30,Z0 Qp),(63,Gi Zt),(31,V2 Zm),(64,Gj Zu),(67,q32 Ja),(68,Wz Qq)]) (u:=4) (rk:=[.v]) ⟨Jr,q48,q0q,q5a,q8s,R4,trivial⟩ (by kernel_rfl) [(63000007,⟨bl 31903,[4,3,5],[(0,(129,3))],[sI 8,sI 9,(.cell 0 0,.own 136 C.node),(.cell 0 2,.bool),(.obj 2,.map C.node C.i64)]⟩),(66000005,⟨bl 195,[5],[],[sI 8]⟩)] (fun X a K=>Vz Qp Zt Zm Zu Ja Qq (fun ns ids full atoms e K=>X ((ns,ids,full,()),atoms,e,()) fun r o=>K r.1 o.1.1 o.1.2.1 o.1.2.2.1) a.1.1 a.1.2.1 a.1.2.2.1 a.2.1 a.2.2.1 (fun q0 q1 q2 q3=>K (q0,()) ((q1,q2,q3,()),(),(),()))) (fun _ _ _=>by kernel_rfl) fun _ K h X hX=>h (fun ns ids full atoms e K=>X ((ns,ids,full,()),atoms,e,()) fun r o=>K r.1 o.1.1 o.1.2.1 o.1.2.2.1) fun ns ids full atoms e K hs=>hX ((ns,ids,full,()),atoms,e,()) (fun r o=>K r.1 o.1.1 o.1.2.1 o.1.2.2.1) hs
end Go.En
end
noncomputable section
set_option maxRecDepth 100000
open Go Go.RowKit Go.Fl Go.Fl.Lk Go.Fx
namespace Go.En
def R5(X:Wq):Con Sg:=conV [.ptr 129 [.own 136 C.node,.map C.node C.i64,.v]] [.ptr 129 [.vec 136 C.node,.map C.node C.i64,.bool]] [.bool] [.ptr 129 [.vec 136 C.node,.map C.node C.i64,.bool]] fun a K=>X a.1.1 a.1.2.1 a.1.2.2.1 (fun q0 q1 q2 q3=>K (q0,()) ((q1,q2,q3,()),()))
theorem q34:MT 32 (R5 Rx):=mP (rk:=[.v]) (l:=[]) trivial []
def Uu(X:Jn):Con Sg:=conS [.sl C.rule] [.vec 3 C.i64,.bool] fun a K=>X a.1 (fun q0 q1=>K (q0,q1,()))
theorem q35{He:Uc}{Jf:Vy}{Qa:Qo}{Q3:Q2}{Jl:Ji}{W8:Wq}(h:AL [(29,B2 He),(22,q1f Jf),(30,Z0 Qa),(23,G1 Q3),(31,V2 Jl),(32,R5 W8)]):MT 9 (Uu (Uq He Jf Qa Q3 Jl W8)):=mS h [(7,⟨bl 114717,[],[(0,(40,5))],[sI 17,(.cell 0 4,.own 40 C.ex)]⟩),(25,⟨bl 68183114129,[3,0],[(4,(129,3))],[sI 9,(.slot 10,.own 3 C.i64),sI 36,(.cell 4 0,.own 136 C.node),(.cell 4 2,.bool),(.obj 6,.map C.node C.i64)]⟩)]
theorem q36:MT 9 (Uu Wr):=q35 ⟨q9k,q45,Jr,q0r,q0q,q34,trivial⟩
def Bl(X:U9):Con Sg:=conV [.v] [.str] [.bool] [.same] fun a K=>X a.1 (fun q0=>K (q0,()) ((),()))
theorem q5b:MT 154 (Bl Vj):=⟨entB (by kernel_rfl),q41⟩
def q2p(X:Hj):Con Sg:=conS [.str] [.bool] fun a K=>X a.1 (fun q0=>K (q0,()))
theorem z30{Vn:U9}(h:AL [(154,Bl Vn)]):MT 93 (q2p (q2c Vn)):=mS h [(9,⟨bl 32737,[],[],[(.obj 0,.siter)]⟩)]
theorem z32:MT 93 (q2p Bg):=z30 ⟨q5b,trivial⟩
def q6u(X:Bh):Con Sg:=conS [.bool,.int .i64] [.int .i64] fun a K=>X a.1 a.2.1 (fun q0=>K (q0,()))
theorem z33:MT 92 (q6u q2d):=mS (l:=[]) trivial []
def q1u(X:Ht):Con Sg:=conV [.v] [.str] [.vec 9 C.str] [.same] fun a K=>X a.1 (fun q0=>K (q0,()) ((),()))
theorem q68:MT 155 (q1u Hu):=⟨entB (by kernel_rfl),q65⟩
def q3a(X:Gw):Con Sg:=conS [.str] [.bool] fun a K=>X a.1 (fun q0=>K (q0,()))
theorem z7z{Uk:Ht}(h:AL [(155,q1u Uk)]):MT 94 (q3a (q6b Uk)):=mS h [(9,⟨bl 261889,[],[],[(.obj 0,.siter)]⟩),(21,⟨bl 3377699721576193,[3,0],[],[sI 52]⟩)]
theorem z0m:MT 94 (q3a q0i):=z7z ⟨q68,trivial⟩
def q0s(X:Gy):Con Sg:=conV [.v,.v] [.str,.str] [.int .i64] [.same,.same] fun a K=>X a.1 a.2.1 (fun q0=>K (q0,()) ((),(),()))
theorem q6f:MT 157 (q0s Gz):=⟨entB (by kernel_rfl),q6d⟩
def Gk(X:Jx):Con Sg:=conS [.sl C.decl] [.int .i64] fun a K=>X a.1 (fun q0=>K (q0,()))
theorem q5c{Wi:Gw}{Wj:Gy}(h:AL [(94,q3a Wi),(157,q0s Wj)]):MT 95 (Gk (Ga Wi Wj)):=mS h [(9,⟨bl 993,[],[],[sI 10]⟩),(157000007,⟨bl 201,[3],[],[sI 8]⟩)]
theorem q5d:MT 95 (Gk Vk):=q5c ⟨z0m,q6f,trivial⟩
def q5e(X:Ra):Con Sg:=conS [.sl C.i64] [.int .i64] fun a K=>X a.1 (fun q0=>K (q0,()))
theorem z1o:MT 91 (q5e Rb):=mS (l:=[]) trivial [(154000007,⟨bl 201,[],[],[sI 8]⟩)]
def q2q(X:Ry):Con Sg:=conV [.el C.seg] [.el C.seg] [.int .i64] [.same] fun a K=>X a.1 (fun q0=>K (q0,()) ((),()))
theorem q8u:MT 97 (q2q Rz):=⟨entB (by kernel_rfl),q8r⟩
def q6v(X:q2e):Con Sg:=conV [.el C.flag] [.el C.flag] [.int .i64] [.same] fun a K=>X a.1 (fun q0=>K (q0,()) ((),()))
theorem z34:MT 100 (q6v q2f):=⟨entB (by kernel_rfl),z3t⟩
end Go.En
end
noncomputable section
set_option maxRecDepth 100000
open Go Go.RowKit Go.Fl Go.Fl.Lk Go.Fx
namespace Go.En
def q5f(X:q09):Con Sg:=conV [.el C.layer] [.el C.layer] [.int .i64] [.same] fun a K=>X a.1 (fun q0=>K (q0,()) ((),()))
theorem z1p:MT 103 (q5f q1a):=⟨entB (by kernel_rfl),z1j⟩
def Bn(X:Gb):Con Sg:=conV [.el C.exper] [.el C.exper] [.int .i64] [.same] fun a K=>X a.1 (fun q0=>K (q0,()) ((),()))
theorem q5g:MT 106 (Bn Gc):=⟨entB (by kernel_rfl),q42⟩
def Uv(X:Jo):Con Sg:=conS [.el C.env] [.int .i64] fun a K=>X a.1 (fun q0=>K (q0,()))
theorem q37{Vo:Gb}{Ri:q09}{Bq:q2e}{Gs:Ry}{Br:Hj}{Zy:Bh}{Wi:Gw}{Q5:Jx}{Jg:Ra}(h:AL [(106,Bn Vo),(103,q5f Ri),(100,q6v Bq),(97,q2q Gs),(93,q2p Br),(92,q6u Zy),(94,q3a Wi),(95,Gk Q5),(91,q5e Jg)]):MT 49 (Uv (Ur Vo Ri Bq Gs Br Zy Wi Q5 Jg)):=mS h [(6,⟨bl 783,[1,0],[],[sI 4]⟩),(12,⟨bl 52776558134047,[1,0],[],[sI 5]⟩),(97000009,⟨bl 258063,[],[],[sI 18]⟩),(18,⟨bl 3430476278661951,[1,0],[],[sI 6]⟩),(100000009,⟨bl 258063,[],[],[sI 18]⟩),(24,⟨bl 219603258392445823,[1,0],[],[sI 7]⟩),(103000009,⟨bl 258063,[],[],[sI 18]⟩),(106000009,⟨bl 258063,[],[],[sI 18]⟩)]
theorem q38:MT 49 (Uv Ws):=q37 ⟨q5g,z1p,z34,q8u,z32,z33,z0m,q5d,z1o,trivial⟩
def q6w(X:q2g):Con Sg:=conV [.el C.ex] [.el C.ex] [.bool] [.same] fun a K=>X a.1 (fun q0=>K (q0,()) ((),()))
theorem z35:MT 52 (q6w q2h):=⟨entB (by kernel_rfl),z3u⟩
def q1v(X:Hw):Con Sg:=conV [.el C.ex] [.el C.ex] [.vec 9 C.str] [.same] fun a K=>X a.1 (fun q0=>K (q0,()) ((),()))
theorem q69:MT 54 (q1v Hx):=⟨entB (by kernel_rfl),q66⟩
def q3p(X:B0):Con Sg:=conV [.sl C.str,.sl C.edge] [.sl C.str,.sl C.edge] [.vec 9 C.str] [.same,.same] fun a K=>X a.1 a.2.1 (fun q0=>K (q0,()) ((),(),()))
theorem q9m:MT 55 (q3p P_graph_Cyclic):=⟨entB (by kernel_rfl),q9h⟩
def q5h(X:Rd):Con Sg:=conS [.el C.env] [.vec 118 C.edge] fun a K=>X a.1 (fun q0=>K (q0,()))
theorem z1q:MT 59 (q5h Re):=mS (l:=[]) trivial [(7,⟨bl 1799,[0],[],[(.slot 3,.own 118 C.edge),sI 11]⟩),(13,⟨bl 261927,[3],[],[(.slot 3,.own 118 C.edge),sI 18]⟩)]
def Uw(X:Jp):Con Sg:=conS [.el C.env] [.str,.int .i64] fun a K=>X a.1 (fun q0 q1=>K (q0,q1,()))
theorem q39{W9:Jo}{Bt:q2g}{Ul:Hw}{Uf:B0}{Rj:Rd}(h:AL [(49,Uv W9),(52,q6w Bt),(54,q1v Ul),(55,q3p Uf),(59,q5h Rj)]):MT 17 (Uw (Us W9 Bt Ul Uf Rj)):=mS h [(51000007,⟨bl 787,[],[],[(.slot 5,.own 9 C.str),sI 10]⟩),(15,⟨bl 2129657907,[1,0],[],[(.slot 6,.own 118 C.edge),sI 31]⟩),(29,⟨bl 33777546809049363,[7,5],[],[(.slot 6,.own 118 C.edge),sI 55]⟩),(47,⟨bl 2134214502351908855877747,[5,1,3,0],[],[sI 81]⟩),(58000007,⟨bl 787,[],[],[(.slot 5,.own 9 C.str),sI 10]⟩),(67,⟨bl 4583745351650532671514169150869619,[10,7,9,5,1,3,0],[],[sI 112]⟩)]
theorem q4a:MT 17 (Uw Wt):=q39 ⟨q38,z35,q69,q9m,z1q,trivial⟩
def q1g(X:Gd):Con Sg:=conS [] [.bool] fun _ K=>X (fun q0=>K (q0,()))
theorem z1r{Va:Jn}{Vb:Jp}(h:AL [(9,Uu Va),(17,Uw Vb)]):MT 7 (q1g (q1b Va Vb)):=mS h []
theorem z1s:MT 7 (q1g Rf):=z1r ⟨q36,q4a,trivial⟩
end Go.En
end
noncomputable section
set_option maxRecDepth 100000
open Go Go.RowKit Go.Fl Go.Fl.Lk Go.Fx
namespace Go.En
def j0r(X:z07):Con Sg:=conV [.sl C.u8,.v] [.sl C.u8,.int .i64] [.ptr 90 [.sl C.u8,.int .i64]] [.same,.same] fun a K=>X a.1 a.2.1 (fun q0 q1=>K ((q0,q1,()),()) ((),(),()))
theorem j62:MT 14 (j0r z08):=mP (rk:=[.ptr 90 [.c,.v]]) (l:=[]) trivial [(6,⟨[1,4],[],[],[(.slot 0,.sl C.u8)]⟩)]
def z6s(X:q7o):Con Sg:=conV [.ptr 90 [.c,.v]] [.ptr 90 [.sl C.u8,.int .i64]] [.bool] [.ptr 90 [.same,.int .i64]] fun a K=>X a.1.1 a.1.2.1 (fun q0 q1=>K (q0,()) (((),q1,()),()))
theorem j3k:MT 74 (z6s z09):=mP (rk:=[.v]) (l:=[]) trivial []
def q1h(X:Ug):Con Sg:=conV [.ptr 90 [.c,.v],.v] [.ptr 90 [.sl C.u8,.int .i64],.int .i64] [.int .i64] [.ptr 90 [.same,.int .i64],.same] fun a K=>X a.1.1 a.1.2.1 a.2.1 (fun q0 q1=>K (q0,()) (((),q1,()),(),()))
theorem j3l{q7w:q7o}(h:AL [(74,z6s q7w)]):MT 28 (q1h (z1a q7w)):=mP (rk:=[.v]) h []
theorem q5i:MT 28 (q1h Ge):=j3l ⟨j3k,trivial⟩
def q6x(X:Bi):Con Sg:=conS [] [.vec 142 C.decl] fun _ K=>X (fun q0=>K (q0,()))
theorem z36:MT 43 (q6x Bj):=mS (l:=[]) trivial []
def z5k(X:q8n):Con Sg:=conV [.ptr 90 [.c,.v]] [.ptr 90 [.sl C.u8,.int .i64]] [.str] [.ptr 90 [.same,.int .i64]] fun a K=>X a.1.1 a.1.2.1 (fun q0 q1=>K (q0,()) (((),q1,()),()))
theorem j63{Qv:Ug}(h:AL [(28,q1h Qv)]):MT 122 (z5k (z5f Qv)):=mP (rk:=[.v]) h []
theorem j64:MT 122 (z5k z1b):=j63 ⟨q5i,trivial⟩
def z1t(X:q4v):Con Sg:=conV [.ptr 90 [.c,.v]] [.ptr 90 [.sl C.u8,.int .i64]] [.str] [.ptr 90 [.same,.int .i64]] fun a K=>X a.1.1 a.1.2.1 (fun q0 q1=>K (q0,()) (((),q1,()),()))
theorem j3m{Qv:Ug}(h:AL [(28,q1h Qv)]):MT 37 (z1t (z1c Qv)):=mP (rk:=[.v]) h []
theorem j3n:MT 37 (z1t q7p):=j3m ⟨q5i,trivial⟩
def q8v(X:q2i):Con Sg:=conV [.ptr 90 [.c,.v],.v] [.ptr 90 [.sl C.u8,.int .i64],.int .i64] [.el C.val] [.ptr 90 [.same,.int .i64],.same] fun a K=>X a.1.1 a.1.2.1 a.2.1 (fun q0 q1=>K (q0,()) (((),q1,()),(),()))
theorem j0s{Qv:Ug}{q7x:q4v}(h:AL [(28,q1h Qv),(37,z1t q7x)]):MT 85 (q8v (q8o Qv q7x)):=mP (rk:=[.el C.val]) h []
theorem j0t:MT 85 (q8v q0j):=j0s ⟨q5i,j3n,trivial⟩
def z1u(X:q7q):Con Sg:=conV [.ptr 90 [.c,.v]] [.ptr 90 [.sl C.u8,.int .i64]] [.el C.ex] [.ptr 90 [.same,.int .i64]] fun a K=>X a.1.1 a.1.2.1 (fun q0 q1=>K (q0,()) (((),q1,()),()))
theorem j3o{Bu:Bi}{Qv:Ug}{z2g:q8n}{Vu:q2i}(h:AL [(43,q6x Bu),(28,q1h Qv),(122,z5k z2g),(85,q8v Vu)]):MT 61 (z1u (z1d Bu Qv z2g Vu)):=mP (rk:=[.el C.ex]) h [(68,⟨bl 4286840701,[3,2],[(5,(40,5)),(0,(90,2)),(1,(40,5))],[(.cell 5 0,.int .i64),(.cell 5 1,.str),(.cell 5 2,.str),(.cell 5 3,.own 144 C.val),(.cell 5 4,.own 40 C.ex),(.cell 0 1,.int .i64),(.cell 1 0,.int .i64),(.cell 1 1,.str),(.cell 1 2,.str),(.cell 1 3,.own 144 C.val),(.cell 1 4,.own 40 C.ex)]⟩),(60,⟨bl 17163319925,[],[(0,(90,2)),(5,(40,5)),(1,(40,5))],[(.cell 0 1,.int .i64),(.cell 5 0,.int .i64),(.cell 5 1,.str),(.cell 5 2,.str),(.cell 5 3,.own 144 C.val),(.cell 5 4,.own 40 C.ex),(.cell 1 0,.int .i64),(.cell 1 1,.str),(.cell 1 2,.str),(.cell 1 3,.own 144 C.val),(.cell 1 4,.own 40 C.ex)]⟩),(37,⟨bl 1055806024022645,[1],[(5,(40,5)),(0,(90,2))],[sI 7,(.cell 5 3,.own 144 C.val),(.cell 0 1,.int .i64)]⟩)]
theorem j3p:MT 61 (z1u q28):=j3o ⟨z36,q5i,j64,j0t,trivial⟩
def z6t(X:q1c):Con Sg:=conV [.ptr 90 [.c,.v],.sl C.str,.v] [.ptr 90 [.sl C.u8,.int .i64],.sl C.str,.int .i64] [.el C.ex] [.ptr 90 [.same,.int .i64],.same,.same] fun a K=>X a.1.1 a.1.2.1 a.2.1 a.2.2.1 (fun q0 q1=>K (q0,()) (((),q1,()),(),(),()))
theorem j3q:MT 20 (z6t q4w):=by
 show MT _ (conV ([.ptr 90 [.c,.v],.sl C.str,.v]:LP) ([.ptr 90 [.sl C.u8,.int .i64],.sl C.str,.int .i64]:LV) ([.el C.ex]:LV) ([.ptr 90 [.same,.int .i64],.same,.same]:LV) fun a K=>q4w a.1.1 a.1.2.1 a.2.1 a.2.2.1 (fun q0 q1=>K (q0,()) (((),q1,()),(),(),())))
 exact mQ (l:=[(28,q1h Ge),(61,z1u q28)]) (u:=4) (rk:=[.el C.ex]) ⟨q5i,j3p,trivial⟩ (by kernel_rfl) [(8,⟨bl 24647,[0,1],[],[sI 7]⟩),(28,⟨bl 3298996281543,[0,1],[],[sB 49]⟩),(37,⟨bl 1148984153929181127,[1],[(0,(90,2)),(4,(40,5))],[sI 11,(.cell 0 1,.int .i64),(.cell 4 0,.int .i64),(.cell 4 1,.str),(.cell 4 2,.str),(.cell 4 3,.own 144 C.val),(.cell 4 4,.own 40 C.ex)]⟩),(46,⟨bl 1152917567256169316295,[0,12,11,4],[(13,(40,5))],[(.cell 13 0,.int .i64),(.cell 13 1,.str),(.cell 13 2,.str),(.cell 13 3,.sl C.val),(.cell 13 4,.sl C.ex)]⟩)] (fun X a K=>q7r Ge q28 (fun list at_ segments levels K=>X ((list,at_,()),segments,levels,()) fun r o=>K r.1 o.1.2.1) a.1.1 a.1.2.1 a.2.1 a.2.2.1 (fun q0 q1=>K (q0,()) (((),q1,()),(),(),()))) (fun _ _ _=>by kernel_rfl) fun a K h X hX=>h (fun list at_ segments levels K=>X ((list,at_,()),segments,levels,()) fun r o=>K r.1 o.1.2.1) fun list at_ segments levels K hs=>hX ((list,at_,()),segments,levels,()) (fun r o=>K r.1 o.1.2.1) hs
def z37(X:q4x):Con Sg:=conV [] [] [.ptr 86 [.vec 136 C.node,.map C.node C.i64,.bool]] [] fun _ K=>X (fun q0 q1 q2=>K ((q0,q1,q2,()),()) ())
theorem j0u:MT 24 (z37 q8p):=mP (rk:=[.ptr 86 [.own 136 C.node,.map C.node C.i64,.v]]) (l:=[]) trivial []
def q8w(X:q3z):Con Sg:=conS [.int .i64] [.bool] fun a K=>X a.1 (fun q0=>K (q0,()))
theorem z5l:MT 82 (q8w G0):=mS (l:=[]) trivial []
end Go.En
end
noncomputable section
set_option maxRecDepth 100000
open Go Go.RowKit Go.Fl Go.Fl.Lk Go.Fx
namespace Go.En
def z38(X:q4y):Con Sg:=conS [.sl C.str,.sl C.str] [.bool] fun a K=>X a.1 a.2.1 (fun q0=>K (q0,()))
theorem j0v:MT 231 (z38 q4z):=mS (l:=[]) trivial [(9,⟨bl 1987,[],[],[sI 5]⟩)]
def q6g(X:q0k):Con Sg:=conS [.el C.val,.el C.val] [.bool] fun a K=>X a.1 a.2.1 (fun q0=>K (q0,()))
theorem z70{q5r:q4y}(h:AL [(231,z38 q5r)]):MT 190 (q6g (q6c q5r)):=mS h []
theorem z71:MT 190 (q6g q29):=z70 ⟨j0v,trivial⟩
def R6(X:Gf):Con Sg:=conS [.sl C.val,.sl C.val] [.bool] fun a K=>X a.1 a.2.1 (fun q0=>K (q0,()))
theorem q8x{q3b:q0k}(h:AL [(190,q6g q3b)]):MT 139 (R6 (R0 q3b)):=mS h [(9,⟨bl 1987,[],[],[sI 5]⟩)]
theorem q8y:MT 139 (R6 Wa):=q8x ⟨z71,trivial⟩
def q5j(X:Wu):Con Sg:=conV [.el C.ex,.el C.ex] [.el C.ex,.el C.ex] [.bool] [.same,.same] fun a K=>X a.1 a.2.1 (fun q0=>K (q0,()) ((),(),()))
theorem z1v:MT 83 (q5j Gg):=by
 show MT _ (conV ([.el C.ex,.el C.ex]:LP) ([.el C.ex,.el C.ex]:LV) ([.bool]:LV) ([.same,.same]:LV) fun a K=>Gg a.1 a.2.1 (fun q0=>K (q0,()) ((),(),())))
 exact mQ (l:=[(139,R6 Wa)]) (u:=4) (rk:=[.v]) ⟨q8y,trivial⟩ (by kernel_rfl) [(141000009,⟨bl 1987,[],[],[sI 5]⟩)] (fun X a K=>q1d Wa (fun a b K=>X (a,b,()) fun r _=>K r.1) a.1 a.2.1 (fun q0=>K (q0,()) ((),(),()))) (fun _ _ _=>by kernel_rfl) fun a K h X hX=>h (fun a b K=>X (a,b,()) fun r _=>K r.1) fun a b K hs=>hX (a,b,()) (fun r _=>K r.1) hs
def q1i(X:R1):Con Sg:=conS [.sl C.ex,.el C.ex] [.int .i64] fun a K=>X a.1 a.2.1 (fun q0=>K (q0,()))
theorem z5m{Rk:Wu}(h:AL [(83,q5j Rk)]):MT 35 (q1i (q30 Rk)):=mS h [(5,⟨[0,1,3],[0],[],[sI 5]⟩)]
theorem q8z:MT 35 (q1i J4):=z5m ⟨z1v,trivial⟩
def q3q(X:J5):Con Sg:=conV [.sl C.ex,.el C.ex] [.sl C.ex,.el C.ex] [.sl C.ex] [.same,.same] fun a K=>X a.1 a.2.1 (fun q0=>K (q0,()) ((),(),()))
theorem q9n:MT 34 (q3q G7):=by
 show MT _ (conV ([.sl C.ex,.el C.ex]:LP) ([.sl C.ex,.el C.ex]:LV) ([.sl C.ex]:LV) ([.same,.same]:LV) fun a K=>G7 a.1 a.2.1 (fun q0=>K (q0,()) ((),(),())))
 exact mQ (l:=[(35,q1i J4),(82,q8w G0)]) (u:=4) (rk:=[.sl C.ex]) ⟨q8z,z5l,trivial⟩ (by kernel_rfl) [(6,⟨[1,3,4],[0],[],[(.slot 0,.sl C.ex)]⟩),(9,⟨[1,3,4],[0],[],[(.slot 0,.sl C.ex),sI 5]⟩)] (fun X a K=>B1 J4 G0 (fun l e K=>X (l,e,()) fun r _=>K r.1) a.1 a.2.1 (fun q0=>K (q0,()) ((),(),()))) (fun _ _ _=>by kernel_rfl) fun a K h X hX=>h (fun l e K=>X (l,e,()) fun r _=>K r.1) fun l e K hs=>hX (l,e,()) (fun r _=>K r.1) hs
def V3(X:Zg):Con Sg:=conV [.ptr 86 [.own 136 C.node,.map C.node C.i64,.v],.v] [.ptr 86 [.vec 136 C.node,.map C.node C.i64,.bool],.int .i64] [.bool] [.ptr 86 [.vec 136 C.node,.map C.node C.i64,.bool],.same] fun a K=>X a.1.1 a.1.2.1 a.1.2.2.1 a.2.1 (fun q0 q1 q2 q3=>K (q0,()) ((q1,q2,q3,()),(),()))
theorem Gl:MT 70 (V3 Jy):=mP (rk:=[.v]) (l:=[]) trivial []
def q1w(X:Uh):Con Sg:=conV [.ptr 86 [.own 136 C.node,.map C.node C.i64,.v],.v] [.ptr 86 [.vec 136 C.node,.map C.node C.i64,.bool],.int .i64] [.map C.i64 C.bool] [.ptr 86 [.vec 136 C.node,.map C.node C.i64,.bool],.same] fun a K=>X a.1.1 a.1.2.1 a.1.2.2.1 a.2.1 (fun q0 q1 q2 q3=>K (q0,()) ((q1,q2,q3,()),(),()))
theorem q7a:MT 188 (q1w Ui):=mP (rk:=[.map C.i64 C.bool]) (l:=[]) trivial [(7,⟨bl 1843,[0,1,2],[],[(.slot 6,.own 3 C.i64),(.obj 3,.map C.i64 C.bool)]⟩)]
def G2(X:Wb):Con Sg:=conV [.ptr 86 [.own 136 C.node,.map C.node C.i64,.v],.v] [.ptr 86 [.vec 136 C.node,.map C.node C.i64,.bool],.int .i64] [.vec 3 C.i64] [.ptr 86 [.vec 136 C.node,.map C.node C.i64,.bool],.same] fun a K=>X a.1.1 a.1.2.1 a.1.2.2.1 a.2.1 (fun q0 q1 q2 q3=>K (q0,()) ((q1,q2,q3,()),(),()))
theorem q6h{Qg:Zg}{Um:Uh}(h:AL [(70,V3 Qg),(188,q1w Um)]):MT 137 (G2 (q0l Qg Um)):=mP (rk:=[.own 3 C.i64]) h [(13,⟨bl 32563,[5,0,4,2],[],[(.slot 6,.own 3 C.i64),sI 7]⟩)]
theorem q6i:MT 137 (G2 V0):=q6h ⟨Gl,q7a,trivial⟩
def Jd(X:Qu):Con Sg:=conV [.ptr 86 [.own 136 C.node,.map C.node C.i64,.v],.v] [.ptr 86 [.vec 136 C.node,.map C.node C.i64,.bool],.int .i64] [.bool] [.ptr 86 [.vec 136 C.node,.map C.node C.i64,.bool],.same] fun a K=>X a.1.1 a.1.2.1 a.1.2.2.1 a.2.1 (fun q0 q1 q2 q3=>K (q0,()) ((q1,q2,q3,()),(),()))
theorem q3g{Qg:Zg}{V4:Wb}(h:AL [(70,V3 Qg),(137,G2 V4)]):MT 80 (Jd (H2 Qg V4)):=mP (rk:=[.v]) h [(11,⟨bl 16291,[5,0,4,2],[],[sI 6]⟩)]
theorem V8:MT 80 (Jd Zw):=q3g ⟨Gl,q6i,trivial⟩
def Hb(X:J6):Con Sg:=conV [.ptr 86 [.own 136 C.node,.map C.node C.i64,.v],.v] [.ptr 86 [.vec 136 C.node,.map C.node C.i64,.bool],.int .i64] [.int .i64] [.ptr 86 [.vec 136 C.node,.map C.node C.i64,.bool],.same] fun a K=>X a.1.1 a.1.2.1 a.1.2.2.1 a.2.1 (fun q0 q1 q2 q3=>K (q0,()) ((q1,q2,q3,()),(),()))
theorem B3:MT 127 (Hb Z1):=mP (rk:=[.v]) (l:=[]) trivial []
end Go.En
end
noncomputable section
set_option maxRecDepth 100000
open Go Go.RowKit Go.Fl Go.Fl.Lk Go.Fx
namespace Go.En
def Hz(X:Uj):Con Sg:=conV [.ptr 86 [.own 136 C.node,.map C.node C.i64,.v],.v,.v] [.ptr 86 [.vec 136 C.node,.map C.node C.i64,.bool],.int .i64,.int .i64] [.int .i64,.int .i64] [.ptr 86 [.vec 136 C.node,.map C.node C.i64,.bool],.same,.same] fun a K=>X a.1.1 a.1.2.1 a.1.2.2.1 a.2.1 a.2.2.1 (fun q0 q1 q2 q3 q4=>K (q0,q1,()) ((q2,q3,q4,()),(),(),()))
theorem q7b{Qy:J6}(h:AL [(127,Hb Qy)]):MT 189 (Hz (q1t Qy)):=mP (rk:=[.v,.v]) h []
theorem q7c:MT 189 (Hz Jb):=q7b ⟨B3,trivial⟩
def Gm(X:Vs):Con Sg:=conV [.ptr 86 [.own 136 C.node,.map C.node C.i64,.v],.v,.v,.v] [.ptr 86 [.vec 136 C.node,.map C.node C.i64,.bool],.int .i64,.int .i64,.int .i64] [.int .i64] [.ptr 86 [.vec 136 C.node,.map C.node C.i64,.bool],.same,.same,.same] fun a K=>X a.1.1 a.1.2.1 a.1.2.2.1 a.2.1 a.2.2.1 a.2.2.2.1 (fun q0 q1 q2 q3=>K (q0,()) ((q1,q2,q3,()),(),(),(),()))
theorem q80{Qg:Zg}{Qy:J6}(h:AL [(70,V3 Qg),(127,Hb Qy)]):MT 73 (Gm (q2j Qg Qy)):=mP (rk:=[.v]) h []
theorem q2r:MT 73 (Gm Q8):=q80 ⟨Gl,B3,trivial⟩
def q0t(X:Zz):Con Sg:=conV [.ptr 86 [.own 136 C.node,.map C.node C.i64,.v],.v,.v,.v,.map C.a3 C.i64] [.ptr 86 [.vec 136 C.node,.map C.node C.i64,.bool],.int .i64,.int .i64,.int .i64,.map C.a3 C.i64] [.int .i64] [.ptr 86 [.vec 136 C.node,.map C.node C.i64,.bool],.same,.same,.same,.map C.a3 C.i64] fun a K=>X a.1.1 a.1.2.1 a.1.2.2.1 a.2.1 a.2.2.1 a.2.2.2.1 a.2.2.2.2.1 (fun q0 q1 q2 q3 q4=>K (q0,()) ((q1,q2,q3,()),(),(),(),q4,()))
theorem q6j:MT 138 (q0t V1):=by
 show MT _ (conV ([.ptr 86 [.own 136 C.node,.map C.node C.i64,.v],.v,.v,.v,.map C.a3 C.i64]:LP) ([.ptr 86 [.vec 136 C.node,.map C.node C.i64,.bool],.int .i64,.int .i64,.int .i64,.map C.a3 C.i64]:LV) ([.int .i64]:LV) ([.ptr 86 [.vec 136 C.node,.map C.node C.i64,.bool],.same,.same,.same,.map C.a3 C.i64]:LV) fun a K=>V1 a.1.1 a.1.2.1 a.1.2.2.1 a.2.1 a.2.2.1 a.2.2.2.1 a.2.2.2.2.1 (fun q0 q1 q2 q3 q4=>K (q0,()) ((q1,q2,q3,()),(),(),(),q4,())))
 exact mQ (l:=[(127,Hb Z1),(189,Hz Jb),(73,Gm Q8)]) (u:=4) (rk:=[.v]) ⟨B3,q7c,q2r,trivial⟩ (by kernel_rfl) [(36,⟨bl 4951760157141239551596952607,[3,4],[(0,(86,3))],[sI 23,(.cell 0 0,.own 136 C.node),(.cell 0 2,.bool),(.obj 2,.map C.node C.i64)]⟩)] (fun X a K=>Wd Z1 Jb Q8 (fun ns ids full f g h known K=>X ((ns,ids,full,()),f,g,h,known,()) fun r o=>K r.1 o.1.1 o.1.2.1 o.1.2.2.1 o.2.2.2.2.1) a.1.1 a.1.2.1 a.1.2.2.1 a.2.1 a.2.2.1 a.2.2.2.1 a.2.2.2.2.1 (fun q0 q1 q2 q3 q4=>K (q0,()) ((q1,q2,q3,()),(),(),(),q4,()))) (fun _ _ _=>by kernel_rfl) fun a K h X hX=>h (fun ns ids full f g h known K=>X ((ns,ids,full,()),f,g,h,known,()) fun r o=>K r.1 o.1.1 o.1.2.1 o.1.2.2.1 o.2.2.2.2.1) fun ns ids full f g h known K hs=>hX ((ns,ids,full,()),f,g,h,known,()) (fun r o=>K r.1 o.1.1 o.1.2.1 o.1.2.2.1 o.2.2.2.2.1) hs
def Wg(X:Za):Con Sg:=conV [.ptr 86 [.own 136 C.node,.map C.node C.i64,.v],.v,.v,.v] [.ptr 86 [.vec 136 C.node,.map C.node C.i64,.bool],.int .i64,.int .i64,.int .i64] [.int .i64] [.ptr 86 [.vec 136 C.node,.map C.node C.i64,.bool],.same,.same,.same] fun a K=>X a.1.1 a.1.2.1 a.1.2.2.1 a.2.1 a.2.2.1 a.2.2.2.1 (fun q0 q1 q2 q3=>K (q0,()) ((q1,q2,q3,()),(),(),(),()))
theorem q6k{Qh:Qu}{Qg:Zg}{V5:Zz}(h:AL [(80,Jd Qh),(70,V3 Qg),(138,q0t V5)]):MT 81 (Wg (q0m Qh Qg V5)):=mP (rk:=[.v]) h []
theorem G3:MT 81 (Wg Jk):=q6k ⟨V8,Gl,q6j,trivial⟩
def B4(X:G8):Con Sg:=conV [.ptr 86 [.own 136 C.node,.map C.node C.i64,.v],.v] [.ptr 86 [.vec 136 C.node,.map C.node C.i64,.bool],.int .i64] [.int .i64] [.ptr 86 [.vec 136 C.node,.map C.node C.i64,.bool],.same] fun a K=>X a.1.1 a.1.2.1 a.1.2.2.1 a.2.1 (fun q0 q1 q2 q3=>K (q0,()) ((q1,q2,q3,()),(),()))
theorem q9o{Qn:Za}(h:AL [(81,Wg Qn)]):MT 71 (B4 (q3k Qn)):=mP (rk:=[.v]) h []
theorem q9p:MT 71 (B4 J7):=q9o ⟨G3,trivial⟩
def B5(X:G9):Con Sg:=conV [.ptr 86 [.own 136 C.node,.map C.node C.i64,.v],.v,.v] [.ptr 86 [.vec 136 C.node,.map C.node C.i64,.bool],.int .i64,.int .i64] [.int .i64] [.ptr 86 [.vec 136 C.node,.map C.node C.i64,.bool],.same,.same] fun a K=>X a.1.1 a.1.2.1 a.1.2.2.1 a.2.1 a.2.2.1 (fun q0 q1 q2 q3=>K (q0,()) ((q1,q2,q3,()),(),(),()))
theorem q9q{Qh:Qu}{Qn:Za}(h:AL [(80,Jd Qh),(81,Wg Qn)]):MT 72 (B5 (q3l Qh Qn)):=mP (rk:=[.v]) h []
theorem q9r:MT 72 (B5 J8):=q9q ⟨V8,G3,trivial⟩
def q1j(X:Rg):Con Sg:=conV [.ptr 86 [.own 136 C.node,.map C.node C.i64,.v],.v,.v] [.ptr 86 [.vec 136 C.node,.map C.node C.i64,.bool],.int .i64,.int .i64] [.int .i64] [.ptr 86 [.vec 136 C.node,.map C.node C.i64,.bool],.same,.same] fun a K=>X a.1.1 a.1.2.1 a.1.2.2.1 a.2.1 a.2.2.1 (fun q0 q1 q2 q3=>K (q0,()) ((q1,q2,q3,()),(),(),()))
theorem z1w{Qh:Qu}{Qn:Za}(h:AL [(80,Jd Qh),(81,Wg Qn)]):MT 33 (q1j (q40 Qh Qn)):=mP (rk:=[.v]) h []
theorem z1x:MT 33 (q1j Wv):=z1w ⟨V8,G3,trivial⟩
def q2s(X:Jq):Con Sg:=conV [.ptr 86 [.own 136 C.node,.map C.node C.i64,.v],.sl C.ex,.el C.ex] [.ptr 86 [.vec 136 C.node,.map C.node C.i64,.bool],.sl C.ex,.el C.ex] [.int .i64] [.ptr 86 [.vec 136 C.node,.map C.node C.i64,.bool],.same,.same] fun a K=>X a.1.1 a.1.2.1 a.1.2.2.1 a.2.1 a.2.2.1 (fun q0 q1 q2 q3=>K (q0,()) ((q1,q2,q3,()),(),(),()))
theorem q81:MT 27 (q2s Gh):=by
 show MT _ (conV ([.ptr 86 [.own 136 C.node,.map C.node C.i64,.v],.sl C.ex,.el C.ex]:LP) ([.ptr 86 [.vec 136 C.node,.map C.node C.i64,.bool],.sl C.ex,.el C.ex]:LV) ([.int .i64]:LV) ([.ptr 86 [.vec 136 C.node,.map C.node C.i64,.bool],.same,.same]:LV) fun a K=>Gh a.1.1 a.1.2.1 a.1.2.2.1 a.2.1 a.2.2.1 (fun q0 q1 q2 q3=>K (q0,()) ((q1,q2,q3,()),(),(),())))
 exact mQ (l:=[(71,B4 J7),(72,B5 J8),(33,q1j Wv),(35,q1i J4),(73,Gm Q8)]) (u:=4) (rk:=[.v]) ⟨q9p,q9r,z1x,q8z,q2r,trivial⟩ (by kernel_rfl) [(16,⟨bl 129127,[3,0,1,2],[],[sB 26]⟩),(21,⟨bl 68249843815,[3],[(0,(86,3))],[sI 7,sI 8,(.cell 0 0,.own 136 C.node),(.cell 0 2,.bool),(.obj 2,.map C.node C.i64)]⟩)] (fun X a K=>R2 J7 J8 Wv J4 Q8 (fun ns ids full atoms e K=>X ((ns,ids,full,()),atoms,e,()) fun r o=>K r.1 o.1.1 o.1.2.1 o.1.2.2.1) a.1.1 a.1.2.1 a.1.2.2.1 a.2.1 a.2.2.1 (fun q0 q1 q2 q3=>K (q0,()) ((q1,q2,q3,()),(),(),()))) (fun _ _ _=>by kernel_rfl) fun a K h X hX=>h (fun ns ids full atoms e K=>X ((ns,ids,full,()),atoms,e,()) fun r o=>K r.1 o.1.1 o.1.2.1 o.1.2.2.1) fun ns ids full atoms e K hs=>hX ((ns,ids,full,()),atoms,e,()) (fun r o=>K r.1 o.1.1 o.1.2.1 o.1.2.2.1) hs
end Go.En
end
noncomputable section
set_option maxRecDepth 100000
open Go Go.RowKit Go.Fl Go.Fl.Lk Go.Fx
namespace Go.En
def q4b(X:R3):Con Sg:=conS [.el C.ex] [.sl C.ex] fun a K=>X a.1 (fun q0=>K (q0,()))
theorem z5n{Hf:J5}(h:AL [(34,q3q Hf)]):MT 21 (q4b (q31 Hf)):=mS h []
theorem z5o:MT 21 (q4b q1e):=z5n ⟨q9n,trivial⟩
def Gn(X:Jz):Con Sg:=conV [.ptr 129 [.own 136 C.node,.map C.node C.i64,.v],.v,.sl C.bool] [.ptr 129 [.vec 136 C.node,.map C.node C.i64,.bool],.int .i64,.sl C.bool] [.int .i64] [.ptr 129 [.vec 136 C.node,.map C.node C.i64,.bool],.same,.same] fun a K=>X a.1.1 a.1.2.1 a.1.2.2.1 a.2.1 a.2.2.1 (fun q0 q1 q2 q3=>K (q0,()) ((q1,q2,q3,()),(),(),()))
theorem q5k{Qb:Ql}(h:AL [(69,Zx Qb)]):MT 25 (Gn (Bk Qb)):=mP (rk:=[.v]) h [(7,⟨bl 3909,[0,3,2],[],[sI 1]⟩)]
theorem q5l:MT 25 (Gn Vl):=q5k ⟨Jc,trivial⟩
def B6(X:Ue):Con Sg:=conV [.ptr 86 [.own 136 C.node,.map C.node C.i64,.v],.v,.sl C.bool] [.ptr 86 [.vec 136 C.node,.map C.node C.i64,.bool],.int .i64,.sl C.bool] [.int .i64] [.ptr 86 [.vec 136 C.node,.map C.node C.i64,.bool],.same,.same] fun a K=>X a.1.1 a.1.2.1 a.1.2.2.1 a.2.1 a.2.2.1 (fun q0 q1 q2 q3=>K (q0,()) ((q1,q2,q3,()),(),(),()))
theorem q9s{Qg:Zg}(h:AL [(70,V3 Qg)]):MT 26 (B6 (q3m Qg)):=mP (rk:=[.v]) h [(7,⟨bl 3909,[0,3,2],[],[sI 1]⟩)]
theorem q9t:MT 26 (B6 Ha):=q9s ⟨Gl,trivial⟩
def j0w(X:z1e):Con Sg:=conS [.int .i64,.int .i64] [.int .i64] fun a K=>X a.1 a.2.1 (fun q0=>K (q0,()))
theorem j65:MT 18 (j0w z1f):=mS (l:=[]) trivial []
def Je(X:Ww):Con Sg:=conS [.sl C.u8,.int .i64,.int .i64] [.bool] fun a K=>X a.1 a.2.1 a.2.2.1 (fun q0=>K (q0,()))
theorem q1k{Rl:Gd}{z2i:z07}{q7y:q1c}{q1r:R3}{Jf:Vy}{Q3:Q2}{q5s:q4x}{Vp:Jz}{Gt:Jq}{Hg:Ue}{z2j:z1e}(h:AL [(7,q1g Rl),(14,j0r z2i),(20,z6t q7y),(21,q4b q1r),(22,q1f Jf),(23,G1 Q3),(24,z37 q5s),(25,Gn Vp),(27,q2s Gt),(26,B6 Hg),(18,j0w z2j)]):MT 6 (Je (Wx Rl z2i q7y q1r Jf Q3 q5s Vp Gt Hg z2j)):=mS h [(980038,⟨[],[],[],[]⟩),(980039,⟨[],[],[],[]⟩),(25,⟨bl 8589870979,[2,0,1],[(4,(129,3))],[sI 2,sI 11,(.cell 4 0,.own 136 C.node),(.cell 4 2,.bool),(.obj 6,.map C.node C.i64)]⟩),(35,⟨bl 35081291767687,[6,10,4],[],[sI 45,(.obj 13,.own 4 C.bool)]⟩)]
theorem q1l:MT 6 (Je Q0):=q1k ⟨z1s,j62,j3q,z5o,q45,q0r,j0u,q5l,q81,q9t,j65,trivial⟩
end Go.En
end
noncomputable section
set_option maxRecDepth 100000
namespace Go.Dg
open Go.Fl
abbrev Nd:=Int×Int×Int
def nd(ns:List Nd)(id:Int):Nd:=ns.getD id.toNat (0,0,0)
def top(ns:List Nd)(id:Int):Int:=if id<0 then 1001 else (nd ns id).1
def Ok(ns:List Nd)(id:Int):Prop:= -1002<id/\id<ns.length
def evF(ns:List Nd)(h:Int->Bool):Nat->Int->Int
 |0,id=> -1 - id
 |n+1,id=>if id<0 then -1 - id else evF ns h n (if h (nd ns id).1=true then (nd ns id).2.1 else (nd ns id).2.2)
def ev(ns:List Nd)(h:Int->Bool)(id:Int):Int:=evF ns h (id.toNat+1) id
structure Nod(ns:List Nd):Prop where
 nod: ∀i:Int,0<=i->i<ns.length->0<=(nd ns i).1/\(nd ns i).1<=1000/\ -1002<(nd ns i).2.1/\(nd ns i).2.1<i/\ -1002<(nd ns i).2.2/\(nd ns i).2.2<i/\
  (nd ns i).2.1≠(nd ns i).2.2/\(nd ns i).1<top ns (nd ns i).2.1/\(nd ns i).1<top ns (nd ns i).2.2
 one: ∀i j:Int,0<=i->i<ns.length->0<=j->j<ns.length->nd ns i=nd ns j->i=j
structure Inv(ns:List Nd)(ids:Nd->Option Int):Prop where
 nod:Nod ns
 ids: ∀n (id:Int),ids n=some id↔0<=id/\id<ns.length/\nd ns id=n
theorem Zk{ns:List Nd}{h:Int->Bool}{id:Int}(hi:id<0):ev ns h id= -1 - id:=by
 simp[ev,evF,hi]
theorem z6u{ns:List Nd}(hN:Nod ns){h:Int->Bool}: ∀(n m:Nat) (id:Int),id<ns.length->id<n->id<m->evF ns h n id=evF ns h m id:=by
 intro n
 induction n with
 |zero=>
  intro m id _ h1 _
  have:id<0:=by omega
  cases m with
  |zero=>rfl
  |succ m=>simp[evF,this]
 |succ n ih=>
  intro m id hl h1 h2
  cases m with
  |zero=>
   have:id<0:=by omega
   simp[evF,this]
  |succ m=>
   simp only[evF]
   by_cases hi:id<0
   ·simp[hi]
   ·simp only[hi,if_false]
    obtain⟨_,_,_,a,_,b,_⟩:=hN.nod id (by omega) hl
    cases ht:h (nd ns id).1 with
    |true=>simp only[if_true];exact ih m _ (by omega) (by omega) (by omega)
    |false=>simp only[Bool.false_eq_true,if_false];exact ih m _ (by omega) (by omega) (by omega)
theorem Ux{ns:List Nd}(hN:Nod ns){h:Int->Bool}{id:Int}(hi:0<=id)(hl:id<ns.length):
  ev ns h id=if h (nd ns id).1=true then ev ns h (nd ns id).2.1 else ev ns h (nd ns id).2.2:=by
 obtain⟨_,_,_,a,_,b,_⟩:=hN.nod id hi hl
 have hn: ¬id<0:=by omega
 show evF ns h (id.toNat+1) id=_
 simp only[evF,hn,if_false]
 cases ht:h (nd ns id).1 with
 |true=>simp only[if_true];exact z6u hN _ _ _ (by omega) (by omega) (by omega)
 |false=>simp only[Bool.false_eq_true,if_false];exact z6u hN _ _ _ (by omega) (by omega) (by omega)
theorem q3r{ns:List Nd}(hN:Nod ns){id:Int}(hl:id<ns.length):0<=top ns id/\top ns id<=1001/\(0<=id->top ns id<=1000):=by
 by_cases hi:id<0
 ·simp only[top,hi,if_true];omega
 ·obtain⟨a,b,_⟩:=hN.nod id (by omega) hl
  simp only[top,hi,if_false];omega
theorem ind{ns:List Nd}(hN:Nod ns){p:Int->Prop}(h0: ∀id:Int, -1002<id->id<0->p id)
  (h1: ∀id:Int,0<=id->id<ns.length->p (nd ns id).2.1->p (nd ns id).2.2->p id){id:Int}(hi:Ok ns id):p id:=by
 have key: ∀(k:Nat) (id:Int),id<k->Ok ns id->p id:=by
  intro k
  induction k with
  |zero=>exact fun id hk hi=>h0 id hi.1 hk
  |succ k ih=>
   intro id hk hi
   by_cases hn:id<0
   ·exact h0 id hi.1 hn
   ·obtain⟨_,_,a,b,c,d,_⟩:=hN.nod id (by omega) hi.2
    have:=hi.2
    exact h1 id (by omega) hi.2 (ih _ (by omega) ⟨a,by omega⟩) (ih _ (by omega) ⟨c,by omega⟩)
 exact key (id.toNat+1) id (by omega) hi
theorem z39{ns:List Nd}(hN:Nod ns){h h':Int->Bool}{id:Int}(hi:Ok ns id):(∀t,top ns id<=t->h t=h' t)->ev ns h id=ev ns h' id:=by
 refine ind hN (p:=fun id=>(∀t,top ns id<=t->h t=h' t)->ev ns h id=ev ns h' id) ?_ ?_ hi
 ·intro id _ hn _
  rw[Zk hn,Zk hn]
 ·intro id hp hl ih1 ih2 he
  obtain⟨_,_,_,_,_,_,_,a,b⟩:=hN.nod id hp hl
  have ht:top ns id=(nd ns id).1:=by simp only[top,if_neg (show ¬id<0 by omega)]
  rw[Ux hN hp hl,Ux hN hp hl,←he _ (by omega),ih1 fun t h=>he t (by omega),ih2 fun t h=>he t (by omega)]
def setB(h:Int->Bool)(t:Int)(b:Bool):Int->Bool:=fun x=>if x=t then b else h x
theorem q3s{ns:List Nd}(hN:Nod ns){h:Int->Bool}{t:Int}{b:Bool}{id:Int}(hi:Ok ns id)(ht:t<top ns id):ev ns (setB h t b) id=ev ns h id:=
 z39 hN hi fun x hx=>by simp only[setB,if_neg (show ¬x=t by omega)]
theorem z4a{ns:List Nd}(hN:Nod ns){h:Int->Bool}{id:Int}(hi:0<=id)(hl:id<ns.length):ev ns (setB h (nd ns id).1 true) id=ev ns h (nd ns id).2.1:=by
 obtain⟨_,_,c,d,_,_,_,a,b⟩:=hN.nod id hi hl
 rw[Ux hN hi hl]
 simp only[setB,if_true]
 exact q3s hN ⟨c,by omega⟩ a
theorem j0x{ns:List Nd}(hN:Nod ns){h:Int->Bool}{id:Int}(hi:0<=id)(hl:id<ns.length):ev ns (setB h (nd ns id).1 false) id=ev ns h (nd ns id).2.2:=by
 obtain⟨_,_,_,_,c,d,_,a,b⟩:=hN.nod id hi hl
 rw[Ux hN hi hl]
 simp only[setB,if_true]
 exact q3s hN ⟨c,by omega⟩ b
theorem j84{ns:List Nd}(hN:Nod ns): ∀{a b:Int},Ok ns a->Ok ns b->(∀h,ev ns h a=ev ns h b)->a=b:=by
 have key: ∀(k:Nat) (a b:Int),a<k->b<k->Ok ns a->Ok ns b->(∀h,ev ns h a=ev ns h b)->a=b:=by
  intro k
  induction k with
  |zero=>
   intro a b hk hk' _ _ he
   have:=he fun _=>true
   rw[Zk (by omega),Zk (by omega)] at this
   omega
  |succ k ih=>
   intro a b hk hk' ha hb he
   have up: ∀a b:Int,a<((k+1:Nat):Int)->b<((k+1:Nat):Int)->Ok ns a->Ok ns b->(∀h,ev ns h a=ev ns h b)->0<=a->top ns a<top ns b->False:=by
    intro a b hk hk' ha hb he hp ht
    obtain⟨_,_,c1,c2,c3,c4,ne,a1,a2⟩:=hN.nod a hp ha.2
    have h1:=ha.2
    have e:top ns a=(nd ns a).1:=by simp only[top,if_neg (show ¬a<0 by omega)]
    refine ne (ih _ _ (by omega) (by omega) ⟨c1,by omega⟩ ⟨c3,by omega⟩ fun h=> ?_)
    rw[←z4a hN hp ha.2,←j0x hN hp ha.2,he,he,q3s hN hb (by omega),q3s hN hb (by omega)]
   by_cases ha0:a<0
   ·by_cases hb0:b<0
    ·have:=he fun _=>true
     rw[Zk ha0,Zk hb0] at this
     omega
    ·exact absurd (by
      have:=(q3r hN hb.2).2.2 (by omega)
      have h2:top ns a=1001:=by simp only[top,if_pos ha0]
      omega) (fun h=>up b a hk' hk hb ha (fun h=>(he h).symm) (by omega) h)
   ·by_cases hb0:b<0
    ·exact absurd (by
      have:=(q3r hN ha.2).2.2 (by omega)
      have h2:top ns b=1001:=by simp only[top,if_pos hb0]
      omega) (fun h=>up a b hk hk' ha hb he (by omega) h)
    ·have h1:=ha.2
     have h2:=hb.2
     rcases Int.lt_trichotomy (top ns a) (top ns b) with h|h|h
     ·exact (up a b hk hk' ha hb he (by omega) h).elim
     ·have ea:top ns a=(nd ns a).1:=by simp only[top,if_neg ha0]
      have eb:top ns b=(nd ns b).1:=by simp only[top,if_neg hb0]
      have et:(nd ns a).1=(nd ns b).1:=by omega
      obtain⟨_,_,c1,c2,c3,c4,_⟩:=hN.nod a (by omega) ha.2
      obtain⟨_,_,d1,d2,d3,d4,_⟩:=hN.nod b (by omega) hb.2
      have ey:(nd ns a).2.1=(nd ns b).2.1:=ih _ _ (by omega) (by omega) ⟨c1,by omega⟩ ⟨d1,by omega⟩ fun h=>by
       rw[←z4a hN (by omega) ha.2,←z4a hN (by omega) hb.2,←et,he]
      have en:(nd ns a).2.2=(nd ns b).2.2:=ih _ _ (by omega) (by omega) ⟨c3,by omega⟩ ⟨d3,by omega⟩ fun h=>by
       rw[←j0x hN (by omega) ha.2,←j0x hN (by omega) hb.2,←et,he]
      exact hN.one a b (by omega) ha.2 (by omega) hb.2 (Prod.ext et (Prod.ext ey en))
     ·exact (up b a hk' hk hb ha (fun h=>(he h).symm) (by omega) h).elim
 exact fun {a b} ha hb he=>key (ns.length+1) a b (by have:=ha.2;omega) (by have:=hb.2;omega) ha hb he
theorem j85{ns ms:List Nd}{id:Int}(h1:id<ns.length)(h0:0<=id):nd (ns++ms) id=nd ns id:=by
 simp only[nd,List.getD_eq_getElem?_getD]
 rw[List.getElem?_append_left (by omega)]
theorem q2t{ns ns':List Nd}(hp:ns<+:ns'){id:Int}(h1:id<ns.length)(h0:0<=id):nd ns' id=nd ns id:=by
 obtain⟨ms,rfl⟩:=hp
 exact j85 h1 h0
theorem B7{ns ns':List Nd}(hp:ns<+:ns'){id:Int}(h1:id<ns.length):top ns' id=top ns id:=by
 by_cases h:id<0
 ·simp only[top,if_pos h]
 ·simp only[top,if_neg h,q2t hp h1 (by omega)]
theorem Ok.pre{ns ns':List Nd}(hp:ns<+:ns'){id:Int}(h:Ok ns id):Ok ns' id:=by
 have:=hp.length_le
 exact⟨h.1,by have:=h.2;omega⟩
theorem Zi{ns ns':List Nd}(hN:Nod ns)(hN':Nod ns')(hp:ns<+:ns'){h:Int->Bool}{id:Int}(hi:Ok ns id):ev ns' h id=ev ns h id:=by
 refine ind hN (p:=fun id=>ev ns' h id=ev ns h id) ?_ ?_ hi
 ·intro id _ hn
  rw[Zk hn,Zk hn]
 ·intro id h0 hl i1 i2
  have hl':=hp.length_le
  rw[Ux hN h0 hl,Ux hN' h0 (by omega),q2t hp hl h0,i1,i2]
def Tb(ns:List Nd)(b:Int):Prop:= ∀i:Int,0<=i->i<ns.length->(nd ns i).1<b
theorem q2u{ns:List Nd}{n:Nd}:nd (ns++[n]) ns.length=n:=by
 simp[nd,List.getD_eq_getElem?_getD]
theorem Nod.add{ns:List Nd}(hN:Nod ns){t y n:Int}(ht:0<=t)(ht':t<=1000)(hy:Ok ns y)(hn:Ok ns n)(hne:y≠n)(h1:t<top ns y)(h2:t<top ns n)
  (hnew: ∀i:Int,0<=i->i<ns.length->nd ns i≠(t,y,n)):Nod (ns++[(t,y,n)]):=by
 have hp:ns<+:ns++[(t,y,n)]:=List.prefix_append _ _
 have hlen:((ns++[(t,y,n)]).length:Int)=ns.length+1:=by simp
 refine⟨fun i h0 hl=> ?_,fun i j h0 hl k0 kl he=> ?_⟩
 ·by_cases hi:i<ns.length
  ·rw[q2t hp hi h0]
   obtain⟨a1,a2,a3,a4,a5,a6,a7,a8,a9⟩:=hN.nod i h0 hi
   rw[B7 hp (by omega),B7 hp (by omega)]
   exact⟨a1,a2,a3,a4,a5,a6,a7,a8,a9⟩
  ·have:i=ns.length:=by omega
   subst this
   rw[q2u]
   have hy2:=hy.2
   have hn2:=hn.2
   rw[B7 hp hy2,B7 hp hn2]
   exact⟨ht,ht',hy.1,hy2,hn.1,hn2,hne,h1,h2⟩
 ·by_cases hi:i<ns.length
  ·by_cases hj:j<ns.length
   ·rw[q2t hp hi h0,q2t hp hj k0] at he
    exact hN.one i j h0 hi k0 hj he
   ·have:j=ns.length:=by omega
    subst this
    rw[q2u,q2t hp hi h0] at he
    exact absurd he (hnew i h0 hi)
  ·have:i=ns.length:=by omega
   subst this
   by_cases hj:j<ns.length
   ·rw[q2u,q2t hp hj k0] at he
    exact absurd he.symm (hnew j k0 hj)
   ·omega
theorem Inv.add{ns:List Nd}{ids:Nd->Option Int}(hI:Inv ns ids){t y n:Int}(ht:0<=t)(ht':t<=1000)(hy:Ok ns y)(hn:Ok ns n)(hne:y≠n)(h1:t<top ns y)(h2:t<top ns n)
  (hnew:ids (t,y,n)=none):Inv (ns++[(t,y,n)]) (put ids (t,y,n) ns.length):=by
 have hnew': ∀i:Int,0<=i->i<ns.length->nd ns i≠(t,y,n):=fun i h0 hl he=>by
  rw[(hI.ids _ i).2 ⟨h0,hl,he⟩] at hnew
  cases hnew
 have hp:ns<+:ns++[(t,y,n)]:=List.prefix_append _ _
 have hlen:((ns++[(t,y,n)]).length:Int)=ns.length+1:=by simp
 refine⟨hI.nod.add ht ht' hy hn hne h1 h2 hnew',fun m id=> ?_⟩
 simp only[put]
 by_cases hm:m=(t,y,n)
 ·subst hm
  simp only[if_true,Option.some.injEq]
  constructor
  ·intro h
   subst h
   exact⟨by omega,by omega,q2u⟩
  ·rintro⟨a,b,c⟩
   by_cases hid:id<ns.length
   ·rw[q2t hp hid a] at c
    exact absurd c (hnew' id a hid)
   ·omega
 ·simp only[if_neg hm]
  rw[hI.ids]
  constructor
  ·rintro⟨a,b,c⟩
   exact⟨a,by omega,by rw[q2t hp b a];exact c⟩
  ·rintro⟨a,b,c⟩
   by_cases hid:id<ns.length
   ·exact⟨a,hid,by rw[q2t hp hid a] at c;exact c⟩
   ·have:id=ns.length:=by omega
    subst this
    rw[q2u] at c
    exact absurd c.symm hm
def q1x(ns:List Nd)(t y n:Int):Prop:=0<=t/\t<=1000/\Ok ns y/\Ok ns n/\t<top ns y/\t<top ns n
instance (ns:List Nd)(id:Int):Decidable (Ok ns id):=by unfold Ok;infer_instance
instance (ns:List Nd)(t y n:Int):Decidable (q1x ns t y n):=by unfold q1x;infer_instance
def node(ns:List Nd)(ids:Nd->Option Int)(full:Bool)(t y n:Int):Int×List Nd×(Nd->Option Int)×Bool:=
 if q1x ns t y n then
  if y=n then (y,ns,ids,full)
  else match ids (t,y,n) with
   |some id=>(id,ns,ids,full)
   |none=>if 4000<=ns.length then (-1002,ns,ids,true) else (ns.length,ns++[(t,y,n)],put ids (t,y,n) ns.length,full)
 else (-1002,ns,ids,full)
structure Grew(ns:List Nd)(ids:Nd->Option Int)(full:Bool)(k:Nat)(ns':List Nd)(ids':Nd->Option Int)(full':Bool):Prop where
 inv:Inv ns' ids'
 pre:ns<+:ns'
 len:ns'.length<=4000
 room:full'=full∨ns'.length=4000
 most:ns'.length<=ns.length+k
theorem Grew.refl{ns:List Nd}{ids:Nd->Option Int}{full:Bool}(hI:Inv ns ids)(hl:ns.length<=4000)(k:Nat):Grew ns ids full k ns ids full:=
 ⟨hI,List.prefix_refl _,hl,.inl rfl,by omega⟩
theorem Grew.trans{ns ns' ns'':List Nd}{ids ids' ids'':Nd->Option Int}{f f' f'':Bool}{k k' m:Nat}(h:Grew ns ids f k ns' ids' f')(h':Grew ns' ids' f' k' ns'' ids'' f'')(hm:k+k'<=m):
  Grew ns ids f m ns'' ids'' f'':=by
 refine⟨h'.inv,h.pre.trans h'.pre,h'.len,?_,?_⟩
 ·rcases h'.room with e|e
  ·rcases h.room with e'|e'
   ·exact .inl (e.trans e')
   ·have:=h'.pre.length_le
    have:=h'.len
    exact .inr (by omega)
  ·exact .inr e
 ·have:=h.most
  have:=h'.most
  omega
theorem z1y{ns:List Nd}{ids:Nd->Option Int}{full:Bool}(hI:Inv ns ids)(hl:ns.length<=4000){t y n:Int}(hO:q1x ns t y n){r:Int}{ns':List Nd}{ids':Nd->Option Int}{full':Bool}
  (he:node ns ids full t y n=(r,ns',ids',full')):Grew ns ids full 1 ns' ids' full'/\(∀b,Tb ns b->t<b->Tb ns' b)/\
   ((r= -1002/\ns'.length=4000/\full'=true)∨(full'=full/\Ok ns' r/\t<=top ns' r/\ ∀h,ev ns' h r=if h t=true then ev ns h y else ev ns h n)):=by
 obtain⟨h1,h2,hy,hn,h3,h4⟩:=hO
 rw[node,if_pos ⟨h1,h2,hy,hn,h3,h4⟩] at he
 by_cases hyn:y=n
 ·rw[if_pos hyn] at he
  cases he
  subst hyn
  exact⟨.refl hI hl 1,fun b h _=>h,.inr ⟨rfl,hy,by omega,fun h=>by simp⟩⟩
 ·rw[if_neg hyn] at he
  cases hid:ids (t,y,n) with
  |some id=>
   rw[hid] at he
   cases he
   obtain⟨a,b,c⟩:=(hI.ids _ _).1 hid
   refine⟨.refl hI hl 1,fun b h _=>h,.inr ⟨rfl,⟨by omega,b⟩,?_,fun h=> ?_⟩⟩
   ·simp only[top,if_neg (show ¬r<0 by omega),c];omega
   ·rw[Ux hI.nod a b,c]
  |none=>
   rw[hid] at he
   simp only at he
   by_cases hf:4000<=ns.length
   ·rw[if_pos hf] at he
    cases he
    exact⟨⟨hI,List.prefix_refl _,hl,.inr (by omega),by omega⟩,fun b h _=>h,.inl ⟨rfl,by omega,rfl⟩⟩
   ·rw[if_neg hf] at he
    cases he
    have hp:ns<+:ns++[(t,y,n)]:=List.prefix_append _ _
    have hI':=hI.add h1 h2 hy hn hyn h3 h4 hid
    have hlen:((ns++[(t,y,n)]).length:Int)=ns.length+1:=by simp
    refine⟨⟨hI',hp,by simp;omega,.inl rfl,by simp⟩,fun b hb ht i h0 hl=> ?_,.inr ⟨rfl,⟨by omega,by omega⟩,?_,fun h=> ?_⟩⟩
    ·by_cases hi:i<ns.length
     ·rw[q2t hp hi h0];exact hb i h0 hi
     ·have:i=ns.length:=by omega
      subst this
      rw[q2u];exact ht
    ·simp only[top,if_neg (show ¬(ns.length:Int)<0 by omega),q2u];omega
    ·rw[Ux hI'.nod (by omega) (by omega),q2u]
     simp only
     rw[Zi hI.nod hI'.nod hp hy,Zi hI.nod hI'.nod hp hn]
theorem z1z{ns:List Nd}{ids:Nd->Option Int}{full:Bool}{t y n:Int}(hO: ¬q1x ns t y n):node ns ids full t y n=(-1002,ns,ids,full):=by
 rw[node,if_neg hO]
def mtop(ns:List Nd)(f g h:Int):Int:=min (min (top ns f) (top ns g)) (top ns h)
def Cse(ns:List Nd)(f g h r:Int):Prop:= ∀v,ev ns v r=if ev ns v f=1 then ev ns v g else ev ns v h
def Cond(ns:List Nd)(f:Int):Prop:= ∀v,ev ns v f=0∨ev ns v f=1
def sd(ns:List Nd)(x t:Int):Int×Int:=if top ns x=t then ((nd ns x).2.1,(nd ns x).2.2) else (x,x)
theorem q5m{ns:List Nd}(hN:Nod ns){x t:Int}(hx:Ok ns x)(ht:t<=1000)(hl:t<=top ns x):
  Ok ns (sd ns x t).1/\Ok ns (sd ns x t).2/\t<top ns (sd ns x t).1/\t<top ns (sd ns x t).2/\ ∀v,ev ns v x=if v t=true then ev ns v (sd ns x t).1 else ev ns v (sd ns x t).2:=by
 unfold sd
 by_cases he:top ns x=t
 ·rw[if_pos he]
  have h0: ¬x<0:=fun hn=>by simp only[top,if_pos hn] at he;omega
  have hx2:=hx.2
  obtain⟨_,_,a,b,c,d,_,e,g⟩:=hN.nod x (by omega) hx.2
  have ht':(nd ns x).1=t:=by simp only[top,if_neg h0] at he;exact he
  refine⟨⟨a,by omega⟩,⟨c,by omega⟩,by rw[←ht'];exact e,by rw[←ht'];exact g,fun v=> ?_⟩
  rw[Ux hN (by omega) hx.2,ht']
 ·rw[if_neg he]
  refine⟨hx,hx,by show t<top ns x;omega,by show t<top ns x;omega,fun v=>by simp⟩
def Kn(ns:List Nd)(m:Nd->Option Int):Prop:= ∀f g h id,m (f,g,h)=some id->(id= -1002/\ns.length=4000)∨(Ok ns f/\Ok ns g/\Ok ns h/\Ok ns id/\Cse ns f g h id/\mtop ns f g h<=top ns id)
theorem Kn.nil(ns:List Nd):Kn ns fun _=>none:=fun _ _ _ _ h=>by cases h
theorem z0n{ns ns':List Nd}(hp:ns<+:ns'){f g h:Int}(hf:Ok ns f)(hg:Ok ns g)(hh:Ok ns h):mtop ns' f g h=mtop ns f g h:=by
 unfold mtop;rw[B7 hp hf.2,B7 hp hg.2,B7 hp hh.2]
theorem Cse.pre{ns ns':List Nd}(hN:Nod ns)(hN':Nod ns')(hp:ns<+:ns'){f g h r:Int}(hf:Ok ns f)(hg:Ok ns g)(hh:Ok ns h)(hr:Ok ns r)(hs:Cse ns f g h r):Cse ns' f g h r:=fun v=>by
 rw[Zi hN hN' hp hf,Zi hN hN' hp hg,Zi hN hN' hp hh,Zi hN hN' hp hr];exact hs v
theorem Kn.pre{ns ns':List Nd}(hN:Nod ns)(hN':Nod ns')(hp:ns<+:ns')(hl:ns'.length<=4000){m:Nd->Option Int}(hK:Kn ns m):Kn ns' m:=fun f g h id hm=>by
 rcases hK f g h id hm with ⟨h1,h2⟩|⟨h1,h2,h3,h4,h5,h6⟩
 ·have:=hp.length_le
  exact .inl ⟨h1,by omega⟩
 ·exact .inr ⟨h1.pre hp,h2.pre hp,h3.pre hp,h4.pre hp,h5.pre hN hN' hp h1 h2 h3 h4,by rw[z0n hp h1 h2 h3,B7 hp h4.2];exact h6⟩
theorem Kn.put{ns:List Nd}{m:Nd->Option Int}(hK:Kn ns m){f g h r:Int}(hr:(r= -1002/\ns.length=4000)∨(Ok ns f/\Ok ns g/\Ok ns h/\Ok ns r/\Cse ns f g h r/\mtop ns f g h<=top ns r)):Kn ns (put m (f,g,h) r):=fun f' g' h' id hm=>by
 unfold Fl.put at hm
 split at hm
 ·rename_i he
  cases hm
  simp only[Prod.mk.injEq] at he
  obtain⟨rfl,rfl,rfl⟩:=he
  exact hr
 ·exact hK f' g' h' id hm
def Dep(S:List Int)(F:(Int->Bool)->Int):Prop:= ∀v v':Int->Bool,(∀x∈S,v x=v' x)->F v=F v'
def cnt(S:List Int)(t:Int):Nat:=S.countP fun x=>decide (t<=x)
def mix(t:Int)(p v:Int->Bool):Int->Bool:=fun x=>if x<t then p x else v x
def Cof(F G:(Int->Bool)->Int):Prop:= ∃t p,∀v,G v=F (mix t p v)
theorem q7t{S:List Int}{t t':Int}(h:t<=t'):cnt S t'<=cnt S t:=
 List.countP_mono_left fun x _ hx=>by simp only[decide_eq_true_eq] at hx⊢;omega
theorem j3r{S:List Int}{t:Int}(h:t∈S):cnt S (t+1)+1<=cnt S t:=by
 unfold cnt
 induction S with
 |nil=>cases h
 |cons a S ih=>
  rw[List.countP_cons,List.countP_cons]
  have mono:=q7t (S:=S) (show t<=t+1 by omega)
  unfold cnt at mono
  by_cases ha:a=t
  ·subst ha
   simp only[decide_eq_true_eq,Int.le_refl,if_true]
   rw[if_neg (by omega)];omega
  ·have:=ih ((List.mem_cons.1 h).resolve_left fun e=>ha e.symm)
   by_cases hb:t<=a
   ·rw[if_pos (by simp only[decide_eq_true_eq];omega),if_pos (by simpa using hb)];omega
   ·rw[if_neg (by simp only[decide_eq_true_eq];omega),if_neg (by simpa using hb)];omega
theorem j4t{S:List Int}{t:Int}:cnt S t<=S.length:=List.countP_le_length
theorem Dep.test{ns:List Nd}(hN:Nod ns){S:List Int}{id:Int}(h0:0<=id)(hl:id<ns.length)(h:Dep S fun v=>ev ns v id):(nd ns id).1∈S:=by
 refine Classical.byContradiction fun hn=> ?_
 obtain⟨_,_,a,b,c,d,ne,_⟩:=hN.nod id h0 hl
 refine ne (j84 hN ⟨a,by omega⟩ ⟨c,by omega⟩ fun v=> ?_)
 rw[←z4a hN h0 hl,←j0x hN h0 hl]
 refine h _ _ fun x hx=> ?_
 have: ¬x=(nd ns id).1:=fun e=>hn (e▸hx)
 simp only[setB,if_neg this]
theorem Dep.set{S:List Int}{F:(Int->Bool)->Int}(h:Dep S F)(t:Int)(b:Bool):Dep S fun v=>F (setB v t b):=fun v v' he=>h _ _ fun x hx=>by
 unfold setB
 split
 ·rfl
 ·exact he x hx
theorem Dep.eq{S:List Int}{F G:(Int->Bool)->Int}(h:Dep S F)(e: ∀v,G v=F v):Dep S G:=fun v v' he=>by rw[e,e];exact h v v' he
theorem z0o{ns:List Nd}(hN:Nod ns){x t:Int}(hx:Ok ns x)(ht:t<=1000)(hl:t<=top ns x)(v:Int->Bool):ev ns v (sd ns x t).1=ev ns (setB v t true) x:=by
 obtain⟨a,_,c,_,e⟩:=q5m hN hx ht hl
 rw[e]
 simp only[setB,if_true]
 exact (q3s hN a c).symm
theorem j66{ns:List Nd}(hN:Nod ns){x t:Int}(hx:Ok ns x)(ht:t<=1000)(hl:t<=top ns x)(v:Int->Bool):ev ns v (sd ns x t).2=ev ns (setB v t false) x:=by
 obtain⟨_,b,_,d,e⟩:=q5m hN hx ht hl
 rw[e]
 simp only[setB,if_true,Bool.false_eq_true,if_false]
 exact (q3s hN b d).symm
abbrev Fc(ns:List Nd)(f g h:Int):(Int->Bool)->Int:=fun v=>if ev ns v f=1 then ev ns v g else ev ns v h
theorem Fc.top{ns:List Nd}(hN:Nod ns){f g h:Int}(hf:Ok ns f)(hg:Ok ns g)(hh:Ok ns h){v v':Int->Bool}(he: ∀x,mtop ns f g h<=x->v x=v' x):Fc ns f g h v=Fc ns f g h v':=by
 have h1:ev ns v f=ev ns v' f:=z39 hN hf fun x hx=>he x (by unfold mtop;omega)
 have h2:ev ns v g=ev ns v' g:=z39 hN hg fun x hx=>he x (by unfold mtop;omega)
 have h3:ev ns v h=ev ns v' h:=z39 hN hh fun x hx=>he x (by unfold mtop;omega)
 simp only[Fc,h1,h2,h3]
theorem Cof.side{F G F1:(Int->Bool)->Int}{t:Int}{b:Bool}(hF: ∀v v',(∀x,t<=x->v x=v' x)->F v=F v')(h1: ∀v,F1 v=F (setB v t b))(h:Cof F1 G):Cof F G:=by
 obtain⟨t',p,h⟩:=h
 refine⟨max t' (t+1),fun x=>if x=t then b else p x,fun v=> ?_⟩
 rw[h,h1]
 refine hF _ _ fun x hx=> ?_
 unfold setB mix
 by_cases he:x=t
 ·rw[if_pos he,if_pos (by omega)]
  simp only[he,if_true]
 ·rw[if_neg he]
  by_cases hl:x<t'
  ·rw[if_pos hl,if_pos (by omega)]
   simp only[he,if_false]
  ·rw[if_neg hl,if_neg (by omega)]
theorem Cof.self{F G:(Int->Bool)->Int}{t:Int}(hF: ∀v v',(∀x,t<=x->v x=v' x)->F v=F v')(h: ∀v,G v=F v):Cof F G:=⟨t,fun _=>true,fun v=>by
 rw[h]
 exact hF _ _ fun x hx=>by unfold mix;rw[if_neg (by omega)]⟩
theorem Cof.node{ns:List Nd}(hN:Nod ns){id:Int}{G:(Int->Bool)->Int}(hi:Ok ns id)(h:Cof (fun v=>ev ns v id) G): ∃j,Ok ns j/\ ∀v,ev ns v j=G v:=by
 obtain⟨t,p,h⟩:=h
 have key: ∀id,Ok ns id-> ∃j,Ok ns j/\ ∀v,ev ns v j=ev ns (mix t p v) id:=fun id hi=>by
  refine ind hN (p:=fun id=> ∃j,Ok ns j/\ ∀v,ev ns v j=ev ns (mix t p v) id) (fun id h1 h2=>⟨id,⟨h1,by omega⟩,fun v=>by rw[Zk h2,Zk h2]⟩) (fun id h0 hl i1 i2=> ?_) hi
  by_cases ht:(nd ns id).1<t
  ·obtain⟨j1,a1,a2⟩:=i1
   obtain⟨j2,b1,b2⟩:=i2
   cases hp:p (nd ns id).1 with
   |true=>exact⟨j1,a1,fun v=>by rw[a2,Ux hN h0 hl,if_pos (by unfold mix;rw[if_pos ht];exact hp)]⟩
   |false=>exact⟨j2,b1,fun v=>by rw[b2,Ux hN h0 hl,if_neg (by unfold mix;rw[if_pos ht,hp];simp)]⟩
  ·have hid:Ok ns id:=⟨by omega,hl⟩
   refine⟨id,hid,fun v=>z39 hN hid fun x hx=> ?_⟩
   have:top ns id=(nd ns id).1:=by simp only[top,if_neg (show ¬id<0 by omega)]
   unfold mix;rw[if_neg (by omega)]
 obtain⟨j,a,b⟩:=key id hi
 exact⟨j,a,fun v=>by rw[b,h]⟩
theorem j0y{ns:List Nd}{ids:Nd->Option Int}{full:Bool}{t y n:Int}:(node ns ids full t y n).2.1=ns∨((node ns ids full t y n).1=ns.length/\(node ns ids full t y n).2.1.length=ns.length+1):=by
 unfold node
 split
 ·split
  ·exact .inl rfl
  ·split
   ·exact .inl rfl
   ·split
    ·exact .inl rfl
    ·exact .inr ⟨rfl,by simp⟩
 ·exact .inl rfl
structure Cho(ns:List Nd)(ids:Nd->Option Int)(full:Bool)(f g h:Int)(r:Int)(ns':List Nd)(ids':Nd->Option Int)(full':Bool):Prop where
 grew:Grew ns ids full 4000 ns' ids' full'
 few: ∀b,Tb ns b->Tb ns' b/\ns'.length+1<=ns.length+2 ^ (b - mtop ns f g h).toNat
 res:(r= -1002/\ns'.length=4000)∨(Ok ns' r/\Cse ns' f g h r/\mtop ns f g h<=top ns' r)
 dep: ∀S,Dep S (fun v=>ev ns v f)->Dep S (fun v=>ev ns v g)->Dep S (fun v=>ev ns v h)->ns'.length+1<=ns.length+2 ^ cnt S (mtop ns f g h)
 cof: ∀i:Int,ns.length<=i->i<ns'.length->Cof (Fc ns f g h) fun v=>ev ns' v i
theorem Cho.stay{ns:List Nd}{ids:Nd->Option Int}{full:Bool}{f g h r:Int}(hI:Inv ns ids)(hl:ns.length<=4000)(hr:(r= -1002/\ns.length=4000)∨(Ok ns r/\Cse ns f g h r/\mtop ns f g h<=top ns r)):Cho ns ids full f g h r ns ids full:=
 ⟨.refl hI hl _,fun b hb=>⟨hb,by have:=Nat.two_pow_pos ((b - mtop ns f g h).toNat);omega⟩,hr,fun S _ _ _=>by have:=Nat.two_pow_pos (cnt S (mtop ns f g h));omega,fun i h1 h2=>by omega⟩
structure Sid(ns:List Nd)(f g h:Int)(ns':List Nd):Prop where
 dep: ∀S,Dep S (fun v=>ev ns v f)->Dep S (fun v=>ev ns v g)->Dep S (fun v=>ev ns v h)->ns'.length+2<=ns.length+2 ^ cnt S (mtop ns f g h)
 cof: ∀i:Int,ns.length<=i->i<ns'.length->Cof (Fc ns f g h) fun v=>ev ns' v i
theorem j3s{ns:List Nd}(hN:Nod ns){S:List Int}{f g h:Int}(hf:Ok ns f)(hg:Ok ns g)(hh:Ok ns h)(ht:mtop ns f g h<=1000)(d1:Dep S fun v=>ev ns v f)(d2:Dep S fun v=>ev ns v g)(d3:Dep S fun v=>ev ns v h):mtop ns f g h∈S:=by
 have one: ∀x,Ok ns x->(Dep S fun v=>ev ns v x)->mtop ns f g h=top ns x->mtop ns f g h∈S:=fun x hx hd e=>by
  by_cases h0:x<0
  ·simp only[top,if_pos h0] at e;omega
  ·have:=Dep.test hN (by omega) hx.2 hd
   rw[e];simp only[top,if_neg h0];exact this
 by_cases e1:mtop ns f g h=top ns f
 ·exact one f hf d1 e1
 ·by_cases e2:mtop ns f g h=top ns g
  ·exact one g hg d2 e2
  ·exact one h hh d3 (by unfold mtop at e1 e2⊢;omega)
theorem Sid.one{ns ns1:List Nd}{ids ids1:Nd->Option Int}{full full1:Bool}{f g h r1:Int}(hN:Nod ns)(hf:Ok ns f)(hg:Ok ns g)(hh:Ok ns h)(ht:mtop ns f g h<=1000)
  (C1:Cho ns ids full (sd ns f (mtop ns f g h)).1 (sd ns g (mtop ns f g h)).1 (sd ns h (mtop ns f g h)).1 r1 ns1 ids1 full1):
  (∀S,Dep S (fun v=>ev ns v f)->Dep S (fun v=>ev ns v g)->Dep S (fun v=>ev ns v h)->ns1.length+1<=ns.length+2 ^ cnt S (mtop ns f g h+1))/\ ∀i:Int,ns.length<=i->i<ns1.length->Cof (Fc ns f g h) fun v=>ev ns1 v i:=by
 have lf:mtop ns f g h<=top ns f:=by unfold mtop;omega
 have lg:mtop ns f g h<=top ns g:=by unfold mtop;omega
 have lh:mtop ns f g h<=top ns h:=by unfold mtop;omega
 have a1:=(q5m hN hf ht lf).2.2.1
 have a2:=(q5m hN hg ht lg).2.2.1
 have a3:=(q5m hN hh ht lh).2.2.1
 refine⟨fun S d1 d2 d3=> ?_,fun i h1 h2=> ?_⟩
 ·have:=C1.dep S ((d1.set (mtop ns f g h) true).eq (z0o hN hf ht lf)) ((d2.set (mtop ns f g h) true).eq (z0o hN hg ht lg)) ((d3.set (mtop ns f g h) true).eq (z0o hN hh ht lh))
  have p1:=Nat.pow_le_pow_right (show 0<2 by omega) (q7t (S:=S) (show mtop ns f g h+1<=mtop ns (sd ns f (mtop ns f g h)).1 (sd ns g (mtop ns f g h)).1 (sd ns h (mtop ns f g h)).1 by show _<=min (min _ _) _;omega))
  omega
 ·refine Cof.side (t:=mtop ns f g h) (b:=true) (fun v v' he=>Fc.top hN hf hg hh he) (fun v=> ?_) (C1.cof i h1 h2)
  simp only[Fc,z0o hN hf ht lf,z0o hN hg ht lg,z0o hN hh ht lh]
theorem Sid.two{ns ns1 ns2:List Nd}{ids ids1 ids2:Nd->Option Int}{full full1 full2:Bool}{f g h r1 r2:Int}(hN:Nod ns)(hf:Ok ns f)(hg:Ok ns g)(hh:Ok ns h)(ht:mtop ns f g h<=1000)
  (C1:Cho ns ids full (sd ns f (mtop ns f g h)).1 (sd ns g (mtop ns f g h)).1 (sd ns h (mtop ns f g h)).1 r1 ns1 ids1 full1)
  (C2:Cho ns1 ids1 full1 (sd ns f (mtop ns f g h)).2 (sd ns g (mtop ns f g h)).2 (sd ns h (mtop ns f g h)).2 r2 ns2 ids2 full2):Sid ns f g h ns2:=by
 obtain⟨o1,o2⟩:=Sid.one hN hf hg hh ht C1
 have lf:mtop ns f g h<=top ns f:=by unfold mtop;omega
 have lg:mtop ns f g h<=top ns g:=by unfold mtop;omega
 have lh:mtop ns f g h<=top ns h:=by unfold mtop;omega
 obtain⟨_,b1,_,a1,_⟩:=q5m hN hf ht lf
 obtain⟨_,b2,_,a2,_⟩:=q5m hN hg ht lg
 obtain⟨_,b3,_,a3,_⟩:=q5m hN hh ht lh
 have hp1:=C1.grew.pre
 have hp2:=C2.grew.pre
 have hN1:=C1.grew.inv.nod
 have hN2:=C2.grew.inv.nod
 have s1: ∀v,ev ns1 v (sd ns f (mtop ns f g h)).2=ev ns (setB v (mtop ns f g h) false) f:=fun v=>by rw[Zi hN hN1 hp1 b1,j66 hN hf ht lf]
 have s2: ∀v,ev ns1 v (sd ns g (mtop ns f g h)).2=ev ns (setB v (mtop ns f g h) false) g:=fun v=>by rw[Zi hN hN1 hp1 b2,j66 hN hg ht lg]
 have s3: ∀v,ev ns1 v (sd ns h (mtop ns f g h)).2=ev ns (setB v (mtop ns f g h) false) h:=fun v=>by rw[Zi hN hN1 hp1 b3,j66 hN hh ht lh]
 refine⟨fun S d1 d2 d3=> ?_,fun i h1 h2=> ?_⟩
 ·have e1:=o1 S d1 d2 d3
  have e2:=C2.dep S ((d1.set (mtop ns f g h) false).eq s1) ((d2.set (mtop ns f g h) false).eq s2) ((d3.set (mtop ns f g h) false).eq s3)
  rw[z0n hp1 b1 b2 b3] at e2
  have p1:=Nat.pow_le_pow_right (show 0<2 by omega) (q7t (S:=S) (show mtop ns f g h+1<=mtop ns (sd ns f (mtop ns f g h)).2 (sd ns g (mtop ns f g h)).2 (sd ns h (mtop ns f g h)).2 by show _<=min (min _ _) _;omega))
  have p2:=Nat.pow_le_pow_right (show 0<2 by omega) (j3r (j3s hN hf hg hh ht d1 d2 d3))
  rw[Nat.pow_succ] at p2
  omega
 ·by_cases hi:i<ns1.length
  ·obtain⟨t,p,h⟩:=o2 i h1 hi
   exact⟨t,p,fun v=>(Zi hN1 hN2 hp2 ⟨by omega,hi⟩).trans (h v)⟩
  ·refine Cof.side (t:=mtop ns f g h) (b:=false) (fun v v' he=>Fc.top hN hf hg hh he) (fun v=> ?_) (C2.cof i (by omega) h2)
   simp only[Fc,s1,s2,s3]
theorem Sid.node{ns ns2 ns3:List Nd}{ids2 ids3:Nd->Option Int}{full2 full3:Bool}{f g h t y n r3:Int}(hN:Nod ns)(hf:Ok ns f)(hg:Ok ns g)(hh:Ok ns h)(hS:Sid ns f g h ns2)(hN2:Nod ns2)(hN3:Nod ns3)(hp3:ns2<+:ns3)(hp:ns<+:ns3)
  (hnode:node ns2 ids2 full2 t y n=(r3,ns3,ids3,full3))(hm:ns3.length<=ns2.length+1)(hr:(r3= -1002/\ns3.length=4000)∨(Ok ns3 r3/\Cse ns3 f g h r3/\mtop ns f g h<=top ns3 r3)):
  (∀S,Dep S (fun v=>ev ns v f)->Dep S (fun v=>ev ns v g)->Dep S (fun v=>ev ns v h)->ns3.length+1<=ns.length+2 ^ cnt S (mtop ns f g h))/\ ∀i:Int,ns.length<=i->i<ns3.length->Cof (Fc ns f g h) fun v=>ev ns3 v i:=by
 refine⟨fun S d1 d2 d3=>by have:=hS.dep S d1 d2 d3;omega,fun i h1 h2=> ?_⟩
 by_cases hi:i<ns2.length
 ·obtain⟨t,p,h⟩:=hS.cof i h1 hi
  exact⟨t,p,fun v=>(Zi hN2 hN3 hp3 ⟨by omega,hi⟩).trans (h v)⟩
 ·have ha:=j0y (ns:=ns2) (ids:=ids2) (full:=full2) (t:=t) (y:=y) (n:=n)
  rw[hnode] at ha
  rcases ha with ha|⟨ha,hb⟩
  ·simp only at ha;subst ha;omega
  ·simp only at ha hb
   have e:i=r3:=by omega
   rw[e]
   rcases hr with ⟨h3,h4⟩|⟨h3,h4,_⟩
   ·omega
   ·refine Cof.self (t:=mtop ns f g h) (fun v v' he=>Fc.top hN hf hg hh he) fun v=> ?_
    rw[h4,Zi hN hN3 hp hf,Zi hN hN3 hp hg,Zi hN hN3 hp hh]
end Go.Dg
end
noncomputable section
set_option maxRecDepth 100000
namespace Go.En
open Go Go.Fl Go.Fl.Lk Go.Fx
theorem Cnd.mk{c A B:Prop}(h:c->A)(k: ¬c->B):Cnd c A B:=⟨h,k⟩
structure DS(list:List Int)(at_:Int):Prop where
 len:list.length<=1000
 lo:0<=at_
 hi:at_<=list.length
 byte: ∀x∈list,0<=x/\x<256
theorem getm{α:Type}{l:List α}{k:Nat}{x:α}(h:l[k]? =some x):x∈l:=List.mem_of_getElem? h
theorem q82(n:Int):(Go.Utf8.encode n).size<=4:=by
 unfold Go.Utf8.encode
 generalize (if Go.Utf8.valid n then n.toNat else Go.Utf8.runeError)=c
 show (if c<0x80 then _ else if c<0x800 then _ else if c<0x10000 then _ else _:ByteArray).size<=4
 have h1: ∀a:UInt8,(ByteArray.mk #[a]).size<=4:=fun _=>(by decide:1<=4)
 have h2: ∀a b:UInt8,(ByteArray.mk #[a,b]).size<=4:=fun _ _=>(by decide:2<=4)
 have h3: ∀a b c:UInt8,(ByteArray.mk #[a,b,c]).size<=4:=fun _ _ _=>(by decide:3<=4)
 have h4: ∀a b c d:UInt8,(ByteArray.mk #[a,b,c,d]).size<=4:=fun _ _ _ _=>(by decide:4<=4)
 split
 ·exact h1 _
 ·split
  ·exact h2 _ _
  ·split
   ·exact h3 _ _ _
   ·exact h4 _ _ _ _
theorem Z6{list:List Int}{at_ n:Int}{K:Int->Int->Prop}(hD:DS list at_)(hn:1<=n)(h: ∀r a,0<=r->r<n->DS list a->K r a):Ge list at_ n K:=by
 obtain⟨h1,h2,h3,h4⟩:=hD
 unfold Ge z1a z09
 refine fun _=>Cnd.mk (fun hl=> ?_) (fun _=>h _ _ (by omega) (by omega) ⟨h1,h2,h3,h4⟩)
 have hl:=of_decide_eq_true hl
 refine⟨by unfold InI;omega,by unfold InI;omega,by omega,fun y hy=>⟨by unfold InI;have:=h4 _ (getm hy);omega,by omega,?_⟩⟩
 obtain⟨a,b⟩:=h4 _ (getm hy)
 exact h _ _ (Int.tmod_nonneg _ a) (by have:=Int.tmod_lt_of_pos y (b:=n) (by omega);omega) ⟨h1,by omega,by omega,h4⟩
theorem j0z{list:List Int}{at_:Int}{K:ByteArray->Int->Prop}(hD:DS list at_)(h: ∀r a,r∈z3r->DS list a->K r a):q7p list at_ K:=by
 unfold q7p z1c
 exact Z6 hD (by decide) fun r a r0 r1 hD=>⟨⟨r0,r1⟩,fun y hy=>h _ _ (getm hy) hD⟩
theorem sz_k(n:Int):(B8 [107]++Go.Utf8.encode n).size<=5:=by
 rw[ByteArray.size_append];have:=q82 n;show 1+_<=5;omega
theorem j3t{list:List Int}{at_:Int}{K:ByteArray->Int->Prop}(hD:DS list at_)(h: ∀r a,r.size<=5->DS list a->K r a):z1b list at_ K:=by
 unfold z1b z5f
 refine Z6 hD (by decide) fun r a r0 r1 hD=>⟨by unfold InI;omega,?_,h _ _ (sz_k _) hD⟩
 have:=q82 (Go.IntKind.i32.wrap (48+r));have e:(B8 [107]).size=1:=rfl;omega
theorem sz0:(ByteArray.mk (Array.mk ([]:List UInt8))).size<=100:=by decide
structure ValS(v:Val):Prop where
 num:InI v.number
 txt:v.text.size<=100
 len:v.list.length<=10
 txs: ∀s∈v.list,s.size<=100
theorem q0u{list:List Int}{at_ kind:Int}{K:Val->Int->Prop}(hD:DS list at_)(h: ∀r a,ValS r->DS list a->K r a):q0j list at_ kind K:=by
 unfold q0j q8o
 have tt: ∀s∈z3r,s.size<=100:=by decide
 have tv: ∀s∈q4u,s.size<=100:=by decide
 have tl: ∀l∈z0j,l.length<=10/\ ∀s∈l,s.size<=100:=by decide
 refine Cnd.mk (fun _=> ?_) fun _=>Cnd.mk (fun _=>fun _=> ?_) fun _=>Cnd.mk (fun _=> ?_) fun _=>Cnd.mk (fun _=> ?_) fun _=> ?_
 ·exact Z6 hD (by decide) fun r a r0 r1 hD=>h _ _ ⟨by unfold InI;simp only;omega,sz0,by simp,by simp⟩ hD
 ·refine Z6 hD (by decide) fun r a r0 r1 hD=>⟨⟨r0,r1⟩,fun y hy=>h _ _ ⟨?_,sz0,by simp,by simp⟩ hD⟩
  have:=getm hy
  have k: ∀y∈[(0:Int),(1:Int),(17:Int),(18:Int),(19:Int),(-5:Int),(64:Int),(1099511627776:Int),(-1099511627776:Int)], -9223372036854775808<=y/\y<=9223372036854775807:=by decide
  exact k y this
 ·exact j0z hD fun r a hr hD=>h _ _ ⟨by unfold InI;simp,tt _ hr,by simp,by simp⟩ hD
 ·exact Z6 hD (by decide) fun r a r0 r1 hD=>⟨⟨r0,r1⟩,fun y hy=>h _ _ ⟨by unfold InI;simp,tv _ (getm hy),by simp,by simp⟩ hD⟩
 ·refine Z6 hD (by decide) fun r a r0 r1 hD=>⟨⟨r0,r1⟩,fun y hy=> ?_⟩
  obtain⟨a1,a2⟩:=tl _ (getm hy)
  exact⟨by unfold Sml;simp;omega,h _ _ ⟨by unfold InI;simp,sz0,by simpa using a1,by simpa using a2⟩ hD⟩
structure VsS(l:List Val):Prop where
 len:l.length<=4
 all: ∀v∈l,ValS v
theorem VsS.nil:VsS []:=⟨by simp,by simp⟩
theorem VsS.one{v:Val}(h:ValS v):VsS [v]:=⟨by simp,by simpa using h⟩
def ExS:Nat->Ex->Prop
 |0,e=>VsS e.values/\(e.name.size<=100/\e.kind.size<=100)/\(InI e.op/\(2<=e.op->e.op<=4->e.kids≠[]))/\e.kids=[]
 |n+1,e=>VsS e.values/\(e.name.size<=100/\e.kind.size<=100)/\(InI e.op/\(2<=e.op->e.op<=4->e.kids≠[]))/\e.kids.length<=3/\ ∀k∈e.kids,ExS n k
theorem ExS.up: ∀{n:Nat} {e:Ex},ExS n e->ExS (n+1) e
 |0,e,h=>⟨h.1,h.2.1,h.2.2.1,by rw[h.2.2.2];simp,by rw[h.2.2.2];simp⟩
 |n+1,e,h=>⟨h.1,h.2.1,h.2.2.1,h.2.2.2.1,fun k hk=>(h.2.2.2.2 k hk).up⟩
theorem ExS.le{n m:Nat}{e:Ex}(h:ExS n e)(hm:n<=m):ExS m e:=by
 induction hm with
 |refl=>exact h
 |step _ ih=>exact ih.up
theorem ExS.kids{n:Nat}{e:Ex}(h:ExS n e):e.kids.length<=3:=by
 cases n with
 |zero=>rw[h.2.2.2];simp
 |succ n=>exact h.2.2.2.1
theorem ExS.kid{n:Nat}{e k:Ex}(h:ExS n e)(hk:k∈e.kids): ∃m,m+1=n/\ExS m k:=by
 cases n with
 |zero=>rw[h.2.2.2] at hk;simp at hk
 |succ n=>exact⟨n,rfl,h.2.2.2.2 k hk⟩
theorem ExS.vals{n:Nat}{e:Ex}(h:ExS n e):VsS e.values:=by cases n<;>exact h.1
theorem ExS.opK{n:Nat}{e:Ex}(h:ExS n e):2<=e.op->e.op<=4->e.kids≠[]:=by cases n<;>exact h.2.2.1.2
def OpL(op:Int):Prop:=InI op/\ ¬(2<=op/\op<=4)
theorem OpL.ok{op:Int}(h:OpL op){l:List Ex}:InI op/\(2<=op->op<=4->l≠[]):=⟨h.1,fun a b=>absurd ⟨a,b⟩ h.2⟩
theorem opl{op:Int}(h:(6<=op/\op<=100)∨op=0∨op=1∨op=5){l:List Ex}:InI op/\(2<=op->op<=4->l≠[]):=⟨by unfold InI;omega,fun a b=>by omega⟩
theorem z10{K:List Decl->Prop}(h: ∀l,l.length=8->(∀d∈l,d.kind.size<=100/\d.name.size<=100/\1<=d.type/\d.type<=5)->K l):Bj K:=by
 unfold Bj
 exact h _ rfl (by decide)
theorem z4b{list:List Int}{at_:Int}{K:Ex->Int->Prop}(hD:DS list at_)(h: ∀r a,ExS 0 r->6<=r.op/\r.op<=15->DS list a->K r a):q28 list at_ K:=by
 unfold q28 z1d
 refine z10 fun l hl hd _=>⟨by unfold InI;omega,Z6 hD (by omega) fun r a r0 r1 hD _=>Cnd.mk (fun _=> ?_) fun hc=>⟨by omega,fun y hy=> ?_⟩⟩
 ·exact j3t hD fun s a hs hD=>h _ _ ⟨.one ⟨by unfold InI;simp,by show s.size<=100;omega,by simp,by simp⟩,⟨(by decide:(ByteArray.mk (Array.mk [107,101,121])).size<=100),(by decide:(ByteArray.mk (Array.mk [117,115,101,114])).size<=100)⟩,opl (by simp),rfl⟩ (by simp) hD
 obtain⟨hy0,hy1,hy2,hy3⟩:=hd y (getm hy)
 have one: ∀{op:Int} {v:Val},OpL op->ValS v->ExS 0 (Ex.mk op y.kind y.name [v] []):=fun ho hv=>⟨.one hv,⟨hy1,hy0⟩,ho.ok,rfl⟩
 refine Jn1.mk (fun x=>(∃b,x=(b,y.kind,y.name,([]:List Val),([]:List Ex),x.2.2.2.2.2.1,0,ByteArray.mk (Array.mk []),ByteArray.mk (Array.mk []),[],[],()))/\DS list x.2.2.2.2.2.1) ?_ ?_
 case refine_2=>
  rintro x ⟨⟨b,hx⟩,hD⟩
  refine q0u hD fun v a hv hD=>h _ _ ?_ (by simp) hD
  rw[hx]
  exact one ⟨by unfold InI;simp,by decide⟩ hv
 refine Z6 hD (by decide) fun q a q0 q1 hD=> ?_
 refine Jn1.mk (fun x=>(∃b,x=(x.1,b,y.kind,y.name,([]:List Val),([]:List Ex),0,ByteArray.mk (Array.mk []),ByteArray.mk (Array.mk []),[],[],()))/\DS list x.1) ?_ ?_
 case refine_2=>
  rintro x ⟨⟨b,hx⟩,hD⟩
  have cmp:Ge list x.1 4 fun r a=>InI (12+r)/\q0j list a y.3 fun v a=>K (Ex.mk (12+r) x.2.2.1 x.2.2.2.1 [v] x.2.2.2.2.2.1) a:=by
   refine Z6 hD (by decide) fun r a r0 r1 hD=>⟨by unfold InI;omega,q0u hD fun v a hv hD=>h _ _ ?_ (by simp only;omega) hD⟩
   rw[hx]
   exact one ⟨by unfold InI;omega,by omega⟩ hv
  refine Cnd.mk (fun _=>cmp) fun _=>Cnd.mk (fun _=>cmp) fun _=>Cnd.mk (fun _=>cmp) fun _=> ?_
  refine⟨⟨b,?_⟩,hD⟩
  rw[hx]
 have nx: ∀{a:Int},DS list a->(fun x:Int×ByteArray×ByteArray×List Val×List Ex×Int×Int×ByteArray×ByteArray×List Val×List Ex×Unit=>(∃b,x=(b,y.kind,y.name,([]:List Val),([]:List Ex),x.2.2.2.2.2.1,0,ByteArray.mk (Array.mk []),ByteArray.mk (Array.mk []),[],[],()))/\DS list x.2.2.2.2.2.1) ((0:Int),y.1,y.2,[],[],a,(0:Int),ByteArray.mk (Array.mk []),ByteArray.mk (Array.mk []),[],[],()):=fun hD=>⟨⟨0,rfl⟩,hD⟩
 refine Cnd.mk (fun _=>h _ _ ⟨.nil,⟨hy1,hy0⟩,opl (by simp),rfl⟩ (by simp) hD) fun _=>Cnd.mk (fun _=> ?_) fun _=>Cnd.mk (fun _=> ?_) fun _=>Cnd.mk (fun _=> ?_) fun _=>Cnd.mk (fun _=> ?_) fun _=>nx hD
 ·refine Cnd.mk (fun _=>nx hD) fun _=> ?_
  refine Lp3.ind (fun i l a=>DS list a/\0<=i/\i<=3/\(l.length:Int)=i/\ ∀v∈l,ValS v) (fun i _ _=>(3 - i).toNat) ?_ ⟨hD,by decide,by decide,rfl,by simp⟩
  rintro i l a ⟨hD,i0,i3,hl,hv⟩
  refine Z6 hD (by decide) fun r a r0 r1 hD=>Cnd.mk (fun hc=>q0u hD fun v a hv' hD=>⟨by unfold Sml;simp;omega,by unfold InI;omega,⟨hD,by omega,by omega,by simp;omega,fun u hu=> ?_⟩,by omega⟩) (fun hc=>h _ _ ⟨⟨by simp only;omega,hv⟩,⟨hy1,hy0⟩,opl (by simp),rfl⟩ (by simp) hD)
  rcases List.mem_append.1 hu with hu|hu
  ·exact hv u hu
  ·rw[List.mem_singleton.1 hu];exact hv'
 ·have c:q0j list a 3 fun v a=>K (Ex.mk 11 y.1 y.2 [v] []) a:=q0u hD fun v a hv hD=>h _ _ (one ⟨by unfold InI;simp,by decide⟩ hv) (by simp) hD
  exact Cnd.mk (fun _=>c) fun _=>Cnd.mk (fun _=>c) fun _=>nx hD
 ·exact Cnd.mk (fun _=>Z6 hD (by decide) fun r a r0 r1 hD=>⟨by unfold InI;omega,q0u hD fun v a hv hD=>h _ _ (one ⟨by unfold InI;omega,by omega⟩ hv) (by simp only;omega) hD⟩) fun _=>⟨⟨0,rfl⟩,hD⟩
 ·exact⟨⟨0,rfl⟩,hD⟩
theorem j86{n:Nat}{e:Ex}(h:ExS n e){k m:ByteArray}(hm:m.size<=100)(hk:k.size<=100):ExS (n+1) (Ex.mk 4 k m [] [e]):=⟨.nil,⟨hm,hk⟩,⟨InI.mk (by simp) (by simp),fun _ _=>by simp⟩,by simp,by simpa using h⟩
theorem z6v{α:Type}{P:α->Prop}{l:List α}{x:α}(h: ∀y∈l,P y)(hx:P x): ∀y∈l++[x],P y:=fun y hy=>by
 rcases List.mem_append.1 hy with hy|hy
 ·exact h y hy
 ·rw[List.mem_singleton.1 hy];exact hx
end Go.En
end
noncomputable section
set_option maxRecDepth 100000
namespace Go.En
open Go Go.Fl Go.Fl.Lk Go.Fx
theorem z0p{α:Type}{a b:List α}(hl:a.length=b.length){F:α->α->(Bool->Prop)->Prop}{K:Bool->Prop}(hF: ∀x∈a,∀y∈b,∀K:Bool->Prop,(∀r,(r=true↔x=y)->K r)->F x y K)(h: ∀r,(r=true↔a=b)->K r):
  Lp1 (fun i Y=>a.length<=9223372036854775807->Cnd (i<(a.length:Int)) ((0<=i/\i<(a.length:Int))/\ ∀x,a[i.toNat]? =some x->(0<=i/\i<(b.length:Int))/\ ∀y,b[i.toNat]? =some y->F x y fun r=>Cnd (r=true) (InI (i+1)/\Y (i+1)) (K false)) (K true)) 0:=by
 refine Lp1.ind (fun (i:Int)=>0<=i/\i<=a.length/\a.take i.toNat=b.take i.toNat) (fun (i:Int)=>(a.length - i).toNat) ?_ ⟨by omega,by omega,by simp⟩
 rintro i ⟨i0,i1,he⟩ _
 refine Cnd.mk (fun hc=>⟨by omega,fun x hx=>⟨by omega,fun y hy=>hF x (getm hx) y (getm hy) _ fun r hr=>Cnd.mk (fun hc=>⟨by unfold InI;omega,⟨by omega,by omega,?_⟩,by omega⟩) fun hc=>h _ ⟨fun h=>(by cases h),fun h=> ?_⟩⟩⟩) fun hc=>h _ ⟨fun _=> ?_,fun _=>rfl⟩
 ·rw[show (i+1).toNat=i.toNat+1 by omega,List.take_add_one,List.take_add_one,he,hx,hy,hr.1 hc]
 ·subst h;rw[hx] at hy;exact absurd (hr.2 (by cases hy;rfl)) hc
 ·rwa [List.take_of_length_le (by omega),List.take_of_length_le (by omega)] at he
theorem z72{a b:List ByteArray}{K:Bool->Prop}(h: ∀r,(r=true↔a=b)->K r):q4z a b K:=by
 unfold q4z
 intro ha hb
 refine Cnd.mk (fun hl=> ?_) fun hl=>h _ ⟨fun h=>(by cases h),fun e=>by rw[e] at hl;exact absurd rfl hl⟩
 refine Lp1.ind (fun (i:Int)=>0<=i/\i<=a.length/\a.take i.toNat=b.take i.toNat) (fun (i:Int)=>(a.length - i).toNat) ?_ ⟨by omega,by omega,by simp⟩
 rintro i ⟨i0,i1,he⟩ _
 refine Cnd.mk (fun hc=>⟨by omega,fun x hx=>⟨by omega,fun y hy=>Cnd.mk (fun hc=>⟨by unfold InI;omega,⟨by omega,by omega,?_⟩,by omega⟩) fun hc=>h _ ⟨fun h=>(by cases h),fun h=> ?_⟩⟩⟩) fun hc=>h _ ⟨fun _=> ?_,fun _=>rfl⟩
 ·rw[show (i+1).toNat=i.toNat+1 by omega,List.take_add_one,List.take_add_one,he,hx,hy,hc]
 ·subst h;rw[hx] at hy;cases hy;exact absurd rfl hc
 ·rwa [List.take_of_length_le (by omega),List.take_of_length_le (by omega)] at he
theorem z5p{a b:Val}{K:Bool->Prop}(h: ∀r,(r=true↔a=b)->K r):q29 a b K:=by
 unfold q29 q6c
 have no:(a≠b)->K false:=fun hn=>h _ ⟨fun h=>(by cases h),fun e=>absurd e hn⟩
 refine Cnd.mk (fun h1=>Cnd.mk (fun h2=>Cnd.mk (fun h3=>z72 fun r hr=>h r (hr.trans ⟨fun h4=> ?_,fun e=>by rw[e]⟩)) fun h=>no fun e=>h (by rw[e])) fun h=>no fun e=>h (by rw[e])) fun h=>no fun e=>h (by rw[e])
 cases a;cases b;simp_all
theorem q7d{a b:List Val}{K:Bool->Prop}(h: ∀r,(r=true↔a=b)->K r):Wa a b K:=by
 unfold Wa R0
 intro ha hb
 exact Cnd.mk (fun hl=>z0p (by omega) (fun x _ y _ K hK=>z5p hK) h) fun hl=>h _ ⟨fun h=>(by cases h),fun e=>by rw[e] at hl;exact absurd rfl hl⟩
theorem V9{e:Ex}:Ex.mk e.op e.kind e.name e.values e.kids=e:=by cases e;rfl
theorem q9u: ∀(n:Nat) {a b:Ex} {K:Bool->Prop},ExS n a->(∀r,(r=true↔a=b)->K r)->Gg a b K:=by
 intro n a b K ha h X hX
 induction n using Nat.strongRecOn generalizing a b K with
 |_ n ih=>
 refine hX _ _ _ ?_
 unfold q1d
 have no:(a≠b)->K false:=fun hn=>h _ ⟨fun h=>(by cases h),fun e=>absurd e hn⟩
 refine Cnd.mk (fun h1=>Cnd.mk (fun h2=>Cnd.mk (fun h3=>q7d fun r hr=>Cnd.mk (fun hc _ _=>Cnd.mk (fun hl=> ?_) fun h=>no fun e=>h (by rw[e])) fun hc=>no fun e=>hc (hr.2 (by rw[e]))) fun h=>no fun e=>h (by rw[e])) fun h=>no fun e=>h (by rw[e])) fun h=>no fun e=>h (by rw[e])
 have h4:=hr.1 hc
 refine z0p (by omega) (fun x hx y _ K hK=> ?_) fun r hr=>h r (hr.trans ⟨fun h5=> ?_,fun e=>by rw[e]⟩)
 ·obtain⟨m,hm,hk⟩:=ha.kid hx
  rw[V9,V9]
  exact ih m (by omega) hk hK
 ·cases a;cases b;simp_all
theorem q83(n:Nat){a b:Ex}{K:Bool->Prop}(ha:ExS n a)(h: ∀r,(r=true↔a=b)->K r):Gg (Ex.mk a.1 a.2 a.3 a.4 a.5) (Ex.mk b.1 b.2 b.3 b.4 b.5) K:=by
 rw[V9,V9];exact q9u n ha h
theorem q6y{n:Nat}{l:List Ex}{e:Ex}{K:Int->Prop}(hl: ∀x∈l,ExS n x)(h: ∀r:Int,(r= -1/\e∉l)∨(0<=r/\l[r.toNat]? =some e/\e∉l.take r.toNat)->K r):J4 l e K:=by
 unfold J4 q30
 refine Lp1.ind (fun (i:Int)=>0<=i/\i<=l.length/\e∉l.take i.toNat) (fun (i:Int)=>(l.length - i).toNat) ?_ ⟨by omega,by omega,by simp⟩
 rintro i ⟨i0,i1,he⟩ _
 refine Cnd.mk (fun hc=>⟨by omega,fun x hx=>q83 n (hl x (getm hx)) fun r hr=>Cnd.mk (fun hc=>h _ (.inr ⟨i0,by rw[hx,hr.1 hc],he⟩)) fun hc=>⟨by unfold InI;omega,⟨by omega,by omega,?_⟩,by omega⟩⟩) fun hc=>h _ (.inl ⟨rfl,?_⟩)
 ·rw[show (i+1).toNat=i.toNat+1 by omega,List.take_add_one,hx]
  have:e≠x:=fun e=>hc (hr.2 e.symm)
  simp[he,this]
 ·rwa [List.take_of_length_le (by omega)] at he
theorem z4c{op:Int}{K:Bool->Prop}(h: ∀r,(r=true↔6<=op/\op<=15)->K r):G0 op K:=by
 unfold G0
 exact Cnd.mk (fun h6=>h _ ⟨fun a=>⟨h6,of_decide_eq_true a⟩,fun a=>decide_eq_true a.2⟩) fun h6=>h _ ⟨fun a=>(by cases a),fun a=>absurd a.1 h6⟩
end Go.En
end
noncomputable section
set_option maxRecDepth 100000
namespace Go.En
open Go Go.Fl Go.Fx Go.Dg
theorem q6z{ns:List Nd}{id:Int}{y:Nd}(h:ns[id.toNat]? =some y):nd ns id=y:=by
 simp[nd,List.getD_eq_getElem?_getD,h]
theorem q1y{ns:List Nd}{ids:Nd->Option Int}{full:Bool}{id:Int}{K:Bool->List Nd->(Nd->Option Int)->Bool->Prop}(h:K (decide (Ok ns id)) ns ids full):Jy ns ids full id K:=by
 unfold Jy
 refine⟨fun h1 _=> ?_,fun h1=> ?_⟩
 ·have:decide (id<(ns.length:Int))=decide (Ok ns id):=decide_eq_decide.2 ⟨fun a=>⟨h1,a⟩,fun a=>a.2⟩
  rw[this];exact h
 ·have:decide (Ok ns id)=false:=decide_eq_false fun a=>h1 a.1
  rw[this] at h;exact h
theorem q2v{ns:List Nd}{ids:Nd->Option Int}{full:Bool}{id:Int}{K:Int->List Nd->(Nd->Option Int)->Bool->Prop}(hi:Ok ns id)(h:K (top ns id) ns ids full):Z1 ns ids full id K:=by
 unfold Z1
 refine⟨fun hn=> ?_,fun hn=>⟨⟨by omega,hi.2⟩,fun y hy=> ?_⟩⟩
 ·simp only[top,if_pos hn] at h;exact h
 ·simp only[top,if_neg hn,q6z hy] at h;exact h
theorem q84{ns:List Nd}{ids:Nd->Option Int}{full:Bool}{id t:Int}{K:Int->Int->List Nd->(Nd->Option Int)->Bool->Prop}(hi:Ok ns id)(ht:t<=1000)(h:K (sd ns id t).1 (sd ns id t).2 ns ids full):Jb ns ids full id t K:=by
 unfold Jb
 refine q2v hi ⟨fun he=> ?_,fun he=> ?_⟩
 ·have h0: ¬id<0:=fun hn=>by simp only[top,if_pos hn] at he;omega
  refine⟨⟨by omega,hi.2⟩,fun y hy=>⟨⟨by omega,hi.2⟩,fun z hz=> ?_⟩⟩
  rw[hy] at hz
  cases hz
  simp only[sd,if_pos he,q6z hy] at h
  exact h
 ·simp only[sd,if_neg he] at h;exact h
theorem z6w{ns:List Nd}{ids:Nd->Option Int}{full:Bool}{t y n:Int}{K:Int->List Nd->(Nd->Option Int)->Bool->Prop}(hl:ns.length<=4000)
  (h:K (node ns ids full t y n).1 (node ns ids full t y n).2.1 (node ns ids full t y n).2.2.1 (node ns ids full t y n).2.2.2):Q8 ns ids full t y n K:=by
 unfold Q8
 by_cases hO:q1x ns t y n
 ·obtain⟨h1,h2,h3,h4,h5,h6⟩:=hO
  refine Cnd.no (by omega) (Cnd.no (by omega) (q1y (Cnd.yes (decide_eq_true h3) (q1y (Cnd.yes (decide_eq_true h4) (q2v h3 (Cnd.no (by omega) (q2v h4 (Cnd.no (by omega) ?_)))))))))
  rw[node,if_pos ⟨h1,h2,h3,h4,h5,h6⟩] at h
  refine⟨fun he=> ?_,fun he=> ?_⟩
  ·rw[if_pos he] at h;exact h
  rw[if_neg he] at h
  cases hid:ids (t,y,n) with
  |some id=>rw[hid] at h;exact Cnd.yes rfl h
  |none=>
   rw[hid] at h
   refine Cnd.no (by simp) fun _=>⟨fun hf=> ?_,fun hf=> ?_⟩
   ·rw[if_pos (by omega)] at h;exact h
   rw[if_neg (by omega)] at h
   have hlen:((ns++[(t,y,n)]).length:Int)=ns.length+1:=by simp
   have e1:((ns++[(t,y,n)]).length:Int) - 1=ns.length:=by omega
   have hs:Sml (ns++[(t,y,n)]).length:=by unfold Sml;simp;omega
   have hi:InI (((ns++[(t,y,n)]).length:Int) - 1):=by constructor<;>omega
   exact fun _=>⟨hs,fun _=>⟨hi,by rw[e1];exact h⟩⟩
 ·rw[z1z hO] at h
  refine⟨fun _=>h,fun h1=>⟨fun _=>h,fun h2=>q1y ⟨fun h3=>q1y ⟨fun h4=>q2v (of_decide_eq_true h3) ⟨fun _=>h,fun h5=>q2v (of_decide_eq_true h4) ⟨fun _=>h,fun h6=> ?_⟩⟩,fun _=>h⟩,fun _=>h⟩⟩⟩
  exact absurd ⟨by omega,by omega,of_decide_eq_true h3,of_decide_eq_true h4,by omega,by omega⟩ hO
theorem z4d{X:List Nd->(Nd->Option Int)->Bool->Int->Int->Int->(Nd->Option Int)->(Int->List Nd->(Nd->Option Int)->Bool->(Nd->Option Int)->Prop)->Prop}{ns:List Nd}{ids:Nd->Option Int}{full:Bool}{f g h:Int}{m:Nd->Option Int}{K:Int->List Nd->(Nd->Option Int)->Bool->(Nd->Option Int)->Prop}(hI:Inv ns ids)(hl:ns.length<=4000)(_:Ok ns f)(hg:Ok ns g)(hh:Ok ns h)(hc:Cond ns f)(hm:Kn ns m)(hn:f<0)
  (hK: ∀r ns' ids' full' m',Cho ns ids full f g h r ns' ids' full'->Kn ns' m'->K r ns' ids' full' m'):Wd Z1 Jb Q8 X ns ids full f g h m K:=by
 have hc0:=hc fun _=>true
 rw[Zk hn] at hc0
 have mk: ∀r,((f= -2/\r=g)∨(f= -1/\r=h))->Cho ns ids full f g h r ns ids full:=by
  rintro r hr
  refine Cho.stay hI hl (.inr ?_)
  rcases hr with ⟨h1,rfl⟩|⟨h1,rfl⟩
  ·exact⟨hg,fun v=>by rw[Zk (id:=f) hn,if_pos (by omega)],by unfold mtop;omega⟩
  ·exact⟨hh,fun v=>by rw[Zk (id:=f) hn,if_neg (by omega)],by unfold mtop;omega⟩
 unfold Wd
 refine⟨fun he=>hK _ _ _ _ _ (mk g (.inl ⟨he,rfl⟩)) hm,fun he=>⟨fun hgh=> ?_,fun hgh=>⟨fun he'=>hK _ _ _ _ _ (mk h (.inr ⟨he',rfl⟩)) hm,fun he'=>absurd hc0 (by omega)⟩⟩⟩
 exact hK _ _ _ _ _ (mk g (.inr ⟨by omega,hgh⟩)) hm
theorem z73: ∀(ns:List Nd) (ids:Nd->Option Int) (full:Bool) (f g h:Int) (m:Nd->Option Int) (K:Int->List Nd->(Nd->Option Int)->Bool->(Nd->Option Int)->Prop),Inv ns ids->ns.length<=4000->Ok ns f->Ok ns g->Ok ns h->Cond ns f->Kn ns m->
  (∀r ns' ids' full' m',Cho ns ids full f g h r ns' ids' full'->Kn ns' m'->K r ns' ids' full' m')->V1 ns ids full f g h m K:=by
 intro ns ids full f g h m K hI hl hf hg hh hc hm hK X hX
 have key: ∀(k:Nat) (ns:List Nd) (ids:Nd->Option Int) (full:Bool) (f g h:Int) (m:Nd->Option Int) (K:Int->List Nd->(Nd->Option Int)->Bool->(Nd->Option Int)->Prop),(1001 - mtop ns f g h).toNat<=k->Inv ns ids->ns.length<=4000->Ok ns f->Ok ns g->Ok ns h->Cond ns f->Kn ns m->
   (∀r ns' ids' full' m',Cho ns ids full f g h r ns' ids' full'->Kn ns' m'->K r ns' ids' full' m')->X ns ids full f g h m K:=by
  intro k
  induction k with
  |zero=>
   intro ns ids full f g h m K hk hI hl hf hg hh hc hm hK
   refine hX _ _ _ _ _ _ _ _ ?_
   have ht:=(q3r hI.nod hf.2)
   have hn:f<0:=by
    refine Int.not_le.1 fun h0=> ?_
    have:=ht.2.2 h0
    unfold mtop at hk;omega
   exact z4d hI hl hf hg hh hc hm hn hK
  |succ k ih=>
   intro ns ids full f g h m K hk hI hl hf hg hh hc hm hK
   refine hX _ _ _ _ _ _ _ _ ?_
   by_cases hn:f<0
   ·exact z4d hI hl hf hg hh hc hm hn hK
   have same: ∀r,(g=h/\r=g)->Cho ns ids full f g h r ns ids full:=by
    rintro r ⟨rfl,rfl⟩
    exact Cho.stay hI hl (.inr ⟨hg,fun v=>by simp,by unfold mtop;omega⟩)
   unfold Wd
   refine Cnd.no (by omega) ⟨fun hgh=>hK _ _ _ _ _ (same g ⟨hgh,rfl⟩) hm,fun hgh=>Cnd.no (by omega) ⟨fun hs=> ?_,fun _=> ?_⟩⟩
   ·obtain⟨id,hid⟩:=Option.isSome_iff_exists.1 hs
    rw[hid]
    refine hK _ _ _ _ _ (Cho.stay hI hl ?_) hm
    rcases hm f g h id hid with h1|⟨_,_,_,h4,h5,h6⟩
    ·exact .inl h1
    ·exact .inr ⟨h4,h5,h6⟩
   have t0:=q3r hI.nod hf.2
   have t1:=q3r hI.nod hg.2
   have t2:=q3r hI.nod hh.2
   have hft:=t0.2.2 (by omega)
   have ht:mtop ns f g h<=1000:=by unfold mtop;omega
   have ht0:0<=mtop ns f g h:=by unfold mtop;omega
   refine q2v hf (q2v hg (q2v hh ?_))
   rw[show min (min (top ns f) (top ns g)) (top ns h)=mtop ns f g h from rfl]
   refine q84 hf ht (q84 hg ht (q84 hh ht ?_))
   obtain⟨fa,fb,fc,fd,fe⟩:=q5m hI.nod hf ht (by unfold mtop;omega)
   obtain⟨ga,gb,gc,gd,ge⟩:=q5m hI.nod hg ht (by unfold mtop;omega)
   obtain⟨ha,hb,hc',hd,he⟩:=q5m hI.nod hh ht (by unfold mtop;omega)
   have cy:Cond ns (sd ns f (mtop ns f g h)).1:=fun v=>by
    have:=hc (setB v (mtop ns f g h) true)
    rw[fe] at this
    simp only[setB,if_true] at this
    rw[q3s hI.nod fa fc] at this
    exact this
   have cn:Cond ns (sd ns f (mtop ns f g h)).2:=fun v=>by
    have:=hc (setB v (mtop ns f g h) false)
    rw[fe] at this
    simp only[setB,if_true,Bool.false_eq_true,if_false] at this
    rw[q3s hI.nod fb fd] at this
    exact this
   have hty:mtop ns f g h<mtop ns (sd ns f (mtop ns f g h)).1 (sd ns g (mtop ns f g h)).1 (sd ns h (mtop ns f g h)).1:=by
    show _<min (min _ _) _;omega
   have htn:mtop ns f g h<mtop ns (sd ns f (mtop ns f g h)).2 (sd ns g (mtop ns f g h)).2 (sd ns h (mtop ns f g h)).2:=by
    show _<min (min _ _) _;omega
   refine ih _ _ _ _ _ _ _ _ (by omega) hI hl fa ga ha cy hm fun r1 ns1 ids1 full1 m1 C1 hm1=> ?_
   have hp1:=C1.grew.pre
   have hN1:=C1.grew.inv.nod
   have htn1:mtop ns1 (sd ns f (mtop ns f g h)).2 (sd ns g (mtop ns f g h)).2 (sd ns h (mtop ns f g h)).2=mtop ns (sd ns f (mtop ns f g h)).2 (sd ns g (mtop ns f g h)).2 (sd ns h (mtop ns f g h)).2:=z0n hp1 fb gb hb
   refine ih _ _ _ _ _ _ _ _ (by rw[htn1];omega) C1.grew.inv C1.grew.len (fb.pre hp1) (gb.pre hp1) (hb.pre hp1) (fun v=>by rw[Zi hI.nod hN1 hp1 fb];exact cn v) hm1 fun r2 ns2 ids2 full2 m2 C2 hm2=> ?_
   have hp2:=C2.grew.pre
   have hN2:=C2.grew.inv.nod
   have hp:=hp1.trans hp2
   have few2: ∀b,Tb ns b->Tb ns2 b/\ns2.length+2<=ns.length+2 ^ (b - mtop ns f g h).toNat:=fun b hb0=>by
    obtain⟨a1,a2⟩:=C1.few b hb0
    obtain⟨a3,a4⟩:=C2.few b a1
    rw[htn1] at a4
    have hlt:mtop ns f g h<b:=by
     have hq:=hb0 f (by omega) hf.2
     have:top ns f=(nd ns f).1:=by simp only[top,if_neg hn]
     unfold mtop;omega
    refine⟨a3,?_⟩
    have e:2 ^ (b - mtop ns f g h).toNat=2*2 ^ (b - mtop ns f g h - 1).toNat:=by
     rw[show (b - mtop ns f g h).toNat=(b - mtop ns f g h - 1).toNat+1 by omega,Nat.pow_succ];omega
    have p1:=Nat.pow_le_pow_right (show 0<2 by omega) (show (b - mtop ns (sd ns f (mtop ns f g h)).1 (sd ns g (mtop ns f g h)).1 (sd ns h (mtop ns f g h)).1).toNat<=(b - mtop ns f g h - 1).toNat by omega)
    have p2:=Nat.pow_le_pow_right (show 0<2 by omega) (show (b - mtop ns (sd ns f (mtop ns f g h)).2 (sd ns g (mtop ns f g h)).2 (sd ns h (mtop ns f g h)).2).toNat<=(b - mtop ns f g h - 1).toNat by omega)
    omega
   have gr2:Grew ns ids full 4000 ns2 ids2 full2:=by
    have:=C1.grew.trans C2.grew (Nat.le_refl _)
    exact⟨this.inv,this.pre,this.len,this.room,by have:=this.len;omega⟩
   have sid:=Sid.two hI.nod hf hg hh ht C1 C2
   have bad:ns2.length=4000->Cho ns ids full f g h (-1002) ns2 ids2 full2:=fun hb0=>⟨gr2,fun b hb1=>⟨(few2 b hb1).1,by have:=(few2 b hb1).2;omega⟩,.inl ⟨rfl,hb0⟩,fun S d1 d2 d3=>by have:=sid.dep S d1 d2 d3;omega,sid.cof⟩
   have full1:r1= -1002->ns2.length=4000:=fun e=>by
    rcases C1.res with h1|h1
    ·have:=hp2.length_le
     have:=C2.grew.len
     omega
    ·have:=h1.1.1;omega
   have full2':r2= -1002->ns2.length=4000:=fun e=>by
    rcases C2.res with h1|h1
    ·exact h1.2
    ·have:=h1.1.1;omega
   have hbad:ns2.length=4000->Kn ns2 (Fl.put m2 (f,g,h) (-1002)):=fun hb0=>hm2.put (.inl ⟨rfl,hb0⟩)
   refine Jn4.mk (fun a b c d=>K a b d c (put m2 (f,g,h) a)) ?_ fun _ _ _ _ h=>h
   refine⟨fun e1=>hK _ _ _ _ _ (bad (full1 e1)) (hbad (full1 e1)),fun e1=>⟨fun e2=>hK _ _ _ _ _ (bad (full2' e2)) (hbad (full2' e2)),fun e2=> ?_⟩⟩
   have o1:Ok ns1 r1/\Cse ns1 (sd ns f (mtop ns f g h)).1 (sd ns g (mtop ns f g h)).1 (sd ns h (mtop ns f g h)).1 r1/\mtop ns (sd ns f (mtop ns f g h)).1 (sd ns g (mtop ns f g h)).1 (sd ns h (mtop ns f g h)).1<=top ns1 r1:=by
    rcases C1.res with h1|h1
    ·exact absurd h1.1 e1
    ·exact h1
   have o2:Ok ns2 r2/\Cse ns2 (sd ns f (mtop ns f g h)).2 (sd ns g (mtop ns f g h)).2 (sd ns h (mtop ns f g h)).2 r2/\mtop ns1 (sd ns f (mtop ns f g h)).2 (sd ns g (mtop ns f g h)).2 (sd ns h (mtop ns f g h)).2<=top ns2 r2:=by
    rcases C2.res with h1|h1
    ·exact absurd h1.1 e2
    ·exact h1
   have o1t:top ns2 r1=top ns1 r1:=B7 hp2 o1.1.2
   have hO:q1x ns2 (mtop ns f g h) r1 r2:=⟨ht0,ht,o1.1.pre hp2,o2.1,by rw[o1t];have:=o1.2.2;omega,by have:=o2.2.2;rw[htn1] at this;omega⟩
   refine z6w C2.grew.len ?_
   obtain⟨hg3,htb,hres⟩:=z1y C2.grew.inv C2.grew.len hO (r:=(node ns2 ids2 full2 (mtop ns f g h) r1 r2).1) (ns':=(node ns2 ids2 full2 (mtop ns f g h) r1 r2).2.1) (ids':=(node ns2 ids2 full2 (mtop ns f g h) r1 r2).2.2.1) (full':=(node ns2 ids2 full2 (mtop ns f g h) r1 r2).2.2.2) rfl
   have hne:node ns2 ids2 full2 (mtop ns f g h) r1 r2=((node ns2 ids2 full2 (mtop ns f g h) r1 r2).1,(node ns2 ids2 full2 (mtop ns f g h) r1 r2).2.1,(node ns2 ids2 full2 (mtop ns f g h) r1 r2).2.2.1,(node ns2 ids2 full2 (mtop ns f g h) r1 r2).2.2.2):=rfl
   generalize (node ns2 ids2 full2 (mtop ns f g h) r1 r2).1=r3 at hg3 htb hres hne
   generalize (node ns2 ids2 full2 (mtop ns f g h) r1 r2).2.1=ns3 at hg3 htb hres hne
   generalize (node ns2 ids2 full2 (mtop ns f g h) r1 r2).2.2.1=ids3 at hg3 htb hres hne
   generalize (node ns2 ids2 full2 (mtop ns f g h) r1 r2).2.2.2=full3 at hg3 htb hres hne
   have hp3:=hp.trans hg3.pre
   have hN3:=hg3.inv.nod
   have hr3:(r3= -1002/\ns3.length=4000)∨(Ok ns3 r3/\Cse ns3 f g h r3/\mtop ns f g h<=top ns3 r3):=by
    rcases hres with h1|⟨_,h1,h2,h3⟩
    ·exact .inl ⟨h1.1,h1.2.1⟩
    ·refine .inr ⟨h1,fun v=> ?_,h2⟩
     rw[h3,Zi hI.nod hN3 hp3 hf,Zi hI.nod hN3 hp3 hg,Zi hI.nod hN3 hp3 hh,fe,ge,he]
     cases v (mtop ns f g h) with
     |true=>
      simp only[if_true]
      rw[Zi hN1 hN2 hp2 o1.1,o1.2.1,Zi hI.nod hN1 hp1 fa,Zi hI.nod hN1 hp1 ga,Zi hI.nod hN1 hp1 ha]
     |false=>
      simp only[Bool.false_eq_true,if_false]
      rw[o2.2.1,Zi hI.nod hN2 hp fb,Zi hI.nod hN2 hp gb,Zi hI.nod hN2 hp hb]
   have hcho:Cho ns ids full f g h r3 ns3 ids3 full3:=by
    have sn:=Sid.node hI.nod hf hg hh sid hN2 hN3 hg3.pre hp3 hne hg3.most hr3
    refine⟨?_,fun b hb0=>⟨?_,?_⟩,hr3,sn.1,sn.2⟩
    ·have:=gr2.trans hg3 (Nat.le_refl _)
     exact⟨this.inv,this.pre,this.len,this.room,by have:=this.len;omega⟩
    ·have hlt:mtop ns f g h<b:=by
      have hq:=hb0 f (by omega) hf.2
      have:top ns f=(nd ns f).1:=by simp only[top,if_neg hn]
      unfold mtop;omega
     exact htb b (few2 b hb0).1 hlt
    ·have:=(few2 b hb0).2
     have:=hg3.most
     omega
   refine hK _ _ _ _ _ hcho (Kn.put (hm2.pre hN2 hN3 hg3.pre hg3.len) ?_)
   rcases hr3 with h1|⟨h1,h2,h3⟩
   ·exact .inl h1
   ·exact .inr ⟨hf.pre hp3,hg.pre hp3,hh.pre hp3,h1,h2,by rw[z0n hp3 hf hg hh];exact h3⟩
 exact key _ ns ids full f g h m K (Nat.le_refl _) hI hl hf hg hh hc hm hK
inductive Rch(ns:List Nd):Int->Int->Prop
 |self (a:Int):Rch ns a a
 |yes {a x:Int}:0<=a->Rch ns (nd ns a).2.1 x->Rch ns a x
 |no {a x:Int}:0<=a->Rch ns (nd ns a).2.2 x->Rch ns a x
theorem Rch.step{ns:List Nd}{a b c:Int}(h:Rch ns a b)(k:Rch ns b c):Rch ns a c:=by
 induction h with
 |self=>exact k
 |yes h0 _ ih=>exact .yes h0 (ih k)
 |no h0 _ ih=>exact .no h0 (ih k)
theorem kids{ns:List Nd}(hN:Nod ns){a:Int}(h:Ok ns a)(h0:0<=a):Ok ns (nd ns a).2.1/\Ok ns (nd ns a).2.2/\(nd ns a).2.1<a/\(nd ns a).2.2<a:=by
 have h2:=h.2
 obtain⟨_,_,a1,a2,a3,a4,_⟩:=hN.nod a h0 h.2
 exact⟨⟨a1,by omega⟩,⟨a3,by omega⟩,a2,a4⟩
theorem Rch.ok{ns:List Nd}(hN:Nod ns){a x:Int}(h:Rch ns a x):Ok ns a->Ok ns x:=by
 induction h with
 |self=>exact id
 |yes h0 _ ih=>exact fun h=>ih (kids hN h h0).1
 |no h0 _ ih=>exact fun h=>ih (kids hN h h0).2.1
def Tr(F:Int->Option Bool):Prop:= ∀x,F x=none∨F x=some true
theorem Tr.get{F:Int->Option Bool}(h:Tr F){x:Int}:(F x).getD false=true↔(F x).isSome=true:=by
 rcases h x with e|e<;>simp[e]
theorem Tr.nil:Tr fun _=>none:=fun _=> .inl rfl
theorem Tr.put{F:Int->Option Bool}(h:Tr F)(x:Int):Tr (put F x true):=fun y=>by
 unfold Fl.put
 split
 ·exact .inr rfl
 ·exact h y
theorem Zq{F:Int->Option Bool}{x y:Int}:(put F x true y).isSome=true↔y=x∨(F y).isSome=true:=by
 unfold Fl.put
 split
 ·rename_i h;simp[h]
 ·rename_i h;simp[h]
theorem Rch.sub{ns:List Nd}{F:Int->Option Bool}{id x:Int}(h:Rch ns id x)(i:(F id).isSome=true)(c: ∀x,(F x).isSome=true->0<=x->(F (nd ns x).2.1).isSome=true/\(F (nd ns x).2.2).isSome=true):(F x).isSome=true:=by
 induction h with
 |self=>exact i
 |yes h0 _ ih=>exact ih (c _ i h0).1
 |no h0 _ ih=>exact ih (c _ i h0).2
def Rc(ns:List Nd)(id:Int)(F:Int->Option Bool):Prop:=Tr F/\ ∀x,(F x).isSome=true↔Rch ns id x
def univ(ns:List Nd):List Int:=(List.range (ns.length+1001)).map fun (i:Nat)=>(i:Int) - 1001
def left(ns:List Nd)(F:Int->Option Bool):Nat:=(univ ns).countP fun x=>(F x).isNone
theorem z6x{ns:List Nd}{x:Int}(h:Ok ns x):x∈univ ns:=by
 obtain⟨h1,h2⟩:=h
 exact List.mem_map.2 ⟨(x+1001).toNat,List.mem_range.2 (by omega),by omega⟩
theorem j00{l:List Int}{F:Int->Option Bool}{x:Int}(hx:x∈l)(hn:F x=none):(l.countP fun y=>(put F x true y).isNone)<l.countP fun y=>(F y).isNone:=by
 induction l with
 |nil=>cases hx
 |cons a l ih=>
  have le:(l.countP fun y=>(put F x true y).isNone)<=l.countP fun y=>(F y).isNone:=by
   refine List.countP_mono_left fun y _ h=> ?_
   unfold Fl.put at h
   split at h
   ·cases h
   ·exact h
  rw[List.countP_cons,List.countP_cons]
  by_cases ha:a=x
  ·subst ha
   simp only[Fl.put,if_true,Option.isNone_some,Bool.false_eq_true,if_false,hn,Option.isNone_none]
   simp only[Fl.put] at le
   omega
  ·have:=ih ((List.mem_cons.1 hx).resolve_left fun e=>ha e.symm)
   have e:put F x true a=F a:=by simp[Fl.put,ha]
   rw[e]
   omega
theorem j3u{ns:List Nd}{F:Int->Option Bool}{x:Int}(h:Ok ns x)(hn:F x=none):left ns (put F x true)<left ns F:=j00 (z6x h) hn
theorem j67{ns:List Nd}{F:Int->Option Bool}:left ns F<=ns.length+1001:=by
 have:=List.countP_le_length (p:=fun x=>(F x).isNone) (l:=univ ns)
 simpa [left,univ] using this
theorem j01{ns:List Nd}{ids:Nd->Option Int}{full:Bool}{id:Int}{K:(Int->Option Bool)->List Nd->(Nd->Option Int)->Bool->Prop}(hN:Nod ns)(hl:ns.length<=4000)(hid:Ok ns id)(h: ∀F,Rc ns id F->K F ns ids full):
  Ui ns ids full id K:=by
 unfold Ui
 refine Lp2.ind (fun todo F=>Tr F/\(∀x∈todo,Ok ns x/\Rch ns id x)/\(∀x,(F x).isSome=true->Ok ns x/\Rch ns id x)/\((F id).isSome=true∨id∈todo)/\
  (∀x,(F x).isSome=true->0<=x->((F (nd ns x).2.1).isSome=true∨(nd ns x).2.1∈todo)/\((F (nd ns x).2.2).isSome=true∨(nd ns x).2.2∈todo))/\todo.length+3*left ns F<=15004)
  (fun todo F=>todo.length+3*left ns F) (fun todo F hI _=> ?_) ⟨Tr.nil,by simpa using ⟨hid,.self _⟩,by simp,.inr (by simp),by simp,by have:=j67 (ns:=ns) (F:=fun _=>none);simp;omega⟩
 obtain⟨i1,i2,i3,i4,i5,i6⟩:=hI
 refine⟨fun hpos=>fun _=>⟨⟨by omega,by omega⟩,⟨by omega,by omega⟩,fun y hy _=>⟨⟨by omega,by omega⟩,⟨by omega,by omega⟩,?_⟩⟩,fun hpos=> ?_⟩
 ·have ht:((todo.length:Int) - 1).toNat=todo.length - 1:=by omega
  rw[ht] at hy⊢
  have hne:todo≠[]:=fun e=>by subst e;simp at hpos
  have hsp:todo=todo.take (todo.length - 1)++[y]:=by
   have h1:todo.getLast hne=y:=by
    rw[List.getLast_eq_getElem]
    rw[List.getElem?_eq_getElem (by omega)] at hy
    exact Option.some.inj hy
   rw[←h1,←List.dropLast_eq_take,List.dropLast_concat_getLast]
  generalize hA:todo.take (todo.length - 1)=A at hsp⊢
  have hlen:todo.length=A.length+1:=by rw[hsp];simp
  obtain⟨hy1,hy2⟩:=i2 y (by rw[hsp];simp)
  have sub: ∀x,x∈todo->x∈A∨x=y:=fun x hx=>by rw[hsp] at hx;simpa using hx
  refine⟨fun hs=>⟨⟨i1,fun x hx=>i2 x (by rw[hsp];simp[hx]),i3,?_,fun x hx h0=> ?_,by omega⟩,by omega⟩,fun hs=> ?_⟩
  ·have hs:=(i1.get).1 hs
   rcases i4 with h|h
   ·exact .inl h
   ·rcases sub _ h with h|rfl
    ·exact .inr h
    ·exact .inl hs
  ·have hs:=(i1.get).1 hs
   obtain⟨a,b⟩:=i5 x hx h0
   refine⟨a.elim .inl fun h=> ?_,b.elim .inl fun h=> ?_⟩
   ·rcases sub _ h with h|h
    ·exact .inr h
    ·exact .inl (by rw[h];exact hs)
   ·rcases sub _ h with h|h
    ·exact .inr h
    ·exact .inl (by rw[h];exact hs)
  ·have hn:F y=none:=by
    rcases i1 y with e|e
    ·exact e
    ·rw[e] at hs;simp at hs
   have hlt:=j3u hy1 hn
   refine⟨fun h0=>⟨⟨h0,hy1.2⟩,fun z hz=>⟨⟨h0,hy1.2⟩,fun z' hz'=> ?_⟩⟩,fun h0=>⟨⟨i1.put y,fun x hx=>i2 x (by rw[hsp];simp[hx]),fun x hx=> ?_,?_,fun x hx hx0=> ?_,by omega⟩,by omega⟩⟩
   ·rw[hz] at hz'
    cases hz'
    have ez:=q6z hz
    obtain⟨k1,k2,_⟩:=kids hN hy1 h0
    rw[ez] at k1 k2
    refine⟨by unfold Sml;simp;omega,⟨i1.put y,fun x hx=> ?_,fun x hx=> ?_,?_,fun x hx hx0=> ?_,by simp;omega⟩,by simp;omega⟩
    ·simp only[List.mem_append,List.mem_cons,List.not_mem_nil,or_false] at hx
     rcases hx with hx|rfl|rfl
     ·exact i2 x (by rw[hsp];simp[hx])
     ·exact⟨k1,hy2.step (.yes h0 (by rw[ez];exact .self _))⟩
     ·exact⟨k2,hy2.step (.no h0 (by rw[ez];exact .self _))⟩
    ·rcases Zq.1 hx with rfl|hx
     ·exact⟨hy1,hy2⟩
     ·exact i3 x hx
    ·rcases i4 with h|h
     ·exact .inl (Zq.2 (.inr h))
     ·rcases sub _ h with h|rfl
      ·exact .inr (by simp[h])
      ·exact .inl (Zq.2 (.inl rfl))
    ·have mv: ∀q,(F q).isSome=true∨q∈todo->(put F y true q).isSome=true∨q∈A++[z.2.1,z.2.2]:=fun q hq=>by
      rcases hq with h|h
      ·exact .inl (Zq.2 (.inr h))
      ·rcases sub _ h with h|rfl
       ·exact .inr (by simp[h])
       ·exact .inl (Zq.2 (.inl rfl))
     rcases Zq.1 hx with rfl|hx
     ·rw[ez];exact⟨.inr (by simp),.inr (by simp)⟩
     ·obtain⟨a,b⟩:=i5 x hx hx0
      exact⟨mv _ a,mv _ b⟩
   ·rcases Zq.1 hx with rfl|hx
    ·exact⟨hy1,hy2⟩
    ·exact i3 x hx
   ·rcases i4 with h|h
    ·exact .inl (Zq.2 (.inr h))
    ·rcases sub _ h with h|rfl
     ·exact .inr h
     ·exact .inl (Zq.2 (.inl rfl))
   ·have mv: ∀q,(F q).isSome=true∨q∈todo->(put F y true q).isSome=true∨q∈A:=fun q hq=>by
     rcases hq with h|h
     ·exact .inl (Zq.2 (.inr h))
     ·rcases sub _ h with h|rfl
      ·exact .inr h
      ·exact .inl (Zq.2 (.inl rfl))
    rcases Zq.1 hx with rfl|hx
    ·exact absurd hx0 h0
    ·obtain⟨a,b⟩:=i5 x hx hx0
     exact⟨mv _ a,mv _ b⟩
 ·have hnil:todo=[]:=List.eq_nil_of_length_eq_zero (by omega)
  subst hnil
  refine h F ⟨i1,fun x=>⟨fun hx=>(i3 x hx).2,fun hx=> ?_⟩⟩
  have i4:(F id).isSome=true:=i4.resolve_right (by simp)
  exact hx.sub i4 fun x hx h0=>⟨(i5 x hx h0).1.resolve_right (by simp),(i5 x hx h0).2.resolve_right (by simp)⟩
theorem j3v{α:Type}[DecidableEq α]{l l':List α}(h:l.Nodup)(hs: ∀x∈l,x∈l'):l.length<=l'.length:=by
 induction l generalizing l' with
 |nil=>simp
 |cons a l ih=>
  rw[List.nodup_cons] at h
  have:=ih (l':=l'.erase a) h.2 fun x hx=>by
   have hne:x≠a:=fun e=>h.1 (e▸hx)
   exact (List.mem_erase_of_ne hne).2 (hs x (by simp[hx]))
  rw[List.length_erase_of_mem (hs a (by simp))] at this
  have hp:=List.length_pos_of_mem (hs a (by simp))
  simp only[List.length_cons]
  omega
def Lvs(ns:List Nd)(id:Int)(l:List Int):Prop:=l.Pairwise (· < ·)/\ ∀n,n∈l↔Ok ns id/\0<=n/\Rch ns id (-1 - n)
theorem z74{ns:List Nd}{ids:Nd->Option Int}{full:Bool}{id:Int}{K:List Int->List Nd->(Nd->Option Int)->Bool->Prop}(hN:Nod ns)(hl:ns.length<=4000)(h: ∀l,Lvs ns id l->K l ns ids full):V0 ns ids full id K:=by
 unfold V0
 by_cases hid:Ok ns id
 ·refine q1y (Cnd.yes (decide_eq_true hid) (j01 hN hl hid fun F hF=> ?_))
  refine Lp2.ind (fun l n=>0<=n/\n<=1001/\l.length<=n/\l.Pairwise (· < ·)/\ ∀x,x∈l↔0<=x/\x<n/\Rch ns id (-1 - x)) (fun _ n=>(1001 - n).toNat) (fun l n hI=> ?_) ⟨by omega,by omega,by simp,by simp,fun x=>by simp;omega⟩
  obtain⟨h0,h1,h2,h3,h4⟩:=hI
  refine⟨fun hn=>⟨⟨by omega,by omega⟩,fun hs=> ?_,fun hs=> ?_⟩,fun hn=> ?_⟩
  ·have hs:=(hF.2 _).1 ((hF.1.get).1 hs)
   refine⟨by unfold Sml;simp;omega,⟨by omega,by omega⟩,⟨by omega,by omega,by simp;omega,?_,fun x=> ?_⟩,by omega⟩
   ·rw[List.pairwise_append]
    exact⟨h3,by simp,fun a ha b hb=>by simp at hb;subst hb;exact ((h4 a).1 ha).2.1⟩
   ·simp only[List.mem_append,List.mem_singleton,h4]
    constructor
    ·rintro (⟨a,b,c⟩|rfl)
     ·exact⟨a,by omega,c⟩
     ·exact⟨h0,by omega,hs⟩
    ·rintro⟨a,b,c⟩
     by_cases hx:x=n
     ·exact .inr hx
     ·exact .inl ⟨a,by omega,c⟩
  ·have hs: ¬Rch ns id (-1 - n):=fun hr=>hs ((hF.1.get).2 ((hF.2 _).2 hr))
   refine⟨⟨by omega,by omega⟩,⟨by omega,by omega,by omega,h3,fun x=> ?_⟩,by omega⟩
   rw[h4]
   constructor
   ·rintro⟨a,b,c⟩;exact⟨a,by omega,c⟩
   ·rintro⟨a,b,c⟩
    refine⟨a,?_,c⟩
    by_cases hx:x=n
    ·subst hx;exact absurd c hs
    ·omega
  ·refine h l ⟨h3,fun x=> ?_⟩
   rw[h4]
   constructor
   ·rintro⟨a,_,c⟩;exact⟨hid,a,c⟩
   ·rintro⟨_,a,c⟩
    have:=(c.ok hN hid).1
    exact⟨a,by omega,c⟩
 ·exact q1y (Cnd.no (by simpa using hid) (h [] ⟨by simp,fun n=>by simp[hid]⟩))
theorem z6y{ns:List Nd}(hN:Nod ns){id:Int}(hid:Ok ns id)(n:Int)(hn:0<=n):Rch ns id (-1 - n)↔ ∃v,ev ns v id=n:=by
 constructor
 ·intro h
  generalize hx: -1 - n=x at h
  induction h with
  |self a=>exact⟨fun _=>true,by rw[Zk (by omega)];omega⟩
  | @yes a x h0 _ ih=>
   obtain⟨v,hv⟩:=ih (kids hN hid h0).1 hx
   exact⟨setB v (nd ns a).1 true,by rw[z4a hN h0 hid.2];exact hv⟩
  | @no a x h0 _ ih=>
   obtain⟨v,hv⟩:=ih (kids hN hid h0).2.1 hx
   exact⟨setB v (nd ns a).1 false,by rw[j0x hN h0 hid.2];exact hv⟩
 ·rintro⟨v,hv⟩
  revert hv
  refine ind hN (p:=fun id=>ev ns v id=n->Rch ns id (-1 - n)) (fun id h1 h2 he=> ?_) (fun id h1 h2 i1 i2 he=> ?_) hid
  ·rw[Zk h2] at he
   rw[show -1 - n=id by omega];exact .self _
  ·rw[Ux hN h1 h2] at he
   split at he
   ·exact .yes h1 (i1 he)
   ·exact .no h1 (i2 he)
theorem j02{ns:List Nd}(hN:Nod ns){id:Int}(hid:Ok ns id)(v:Int->Bool):0<=ev ns v id:=by
 refine ind hN (p:=fun id=>0<=ev ns v id) (fun id h1 h2=> ?_) (fun id h1 h2 i1 i2=> ?_) hid
 ·rw[Zk h2];omega
 ·rw[Ux hN h1 h2];split<;>assumption
theorem z6z{ns:List Nd}(hN:Nod ns){id:Int}(hid:Ok ns id){l:List Int}(hl:Lvs ns id l):Cond ns id↔ ∀n∈l,n<=1:=by
 constructor
 ·intro h n hn
  obtain⟨_,h0,hr⟩:=(hl.2 n).1 hn
  obtain⟨v,hv⟩:=(z6y hN hid n h0).1 hr
  have:=h v
  omega
 ·intro h v
  have h0:=j02 hN hid v
  have:=h (ev ns v id) ((hl.2 _).2 ⟨hid,h0,(z6y hN hid _ h0).2 ⟨v,rfl⟩⟩)
  omega
def OpR(p:Prop)(ns:List Nd)(ids:Nd->Option Int)(full:Bool)(f g h r:Int)(ns':List Nd)(ids':Nd->Option Int)(full':Bool):Prop:=
 (p/\Cho ns ids full f g h r ns' ids' full')∨(¬p/\r= -1002/\ns'=ns/\ids'=ids/\full'=full)
def ChR(ns:List Nd)(ids:Nd->Option Int)(full:Bool)(f g h r:Int)(ns':List Nd)(ids':Nd->Option Int)(full':Bool):Prop:=
 (Ok ns f/\Cond ns f/\Ok ns g/\Ok ns h/\Cho ns ids full f g h r ns' ids' full')∨(¬(Ok ns f/\Cond ns f/\Ok ns g/\Ok ns h)/\r= -1002/\ns'=ns/\ids'=ids/\full'=full)
theorem z11{ns:List Nd}{ids:Nd->Option Int}{full:Bool}{id:Int}{K:Bool->List Nd->(Nd->Option Int)->Bool->Prop}(hN:Nod ns)(hl:ns.length<=4000)(h: ∀b,(b=true↔Ok ns id/\Cond ns id)->K b ns ids full):Zw ns ids full id K:=by
 unfold Zw
 by_cases hid:Ok ns id
 ·refine q1y (Cnd.yes (decide_eq_true hid) (z74 hN hl fun l hL=> ?_))
  have hc:=z6z hN hid hL
  refine Lp1.ind (fun i:Int=>0<=i/\i<=l.length/\ ∀j:Nat,j<i.toNat-> ∀n,l[j]? =some n->n<=1) (fun i:Int=>l.length - i.toNat) (fun i hi hlen=> ?_) ⟨by omega,by omega,fun j hj=>by omega⟩
  obtain⟨h0,h1,h2⟩:=hi
  refine⟨fun hlt=>⟨⟨h0,hlt⟩,fun y hy=>⟨fun h3=>h false ⟨fun e=>(by cases e),fun a=> ?_⟩,fun h3=>⟨⟨by omega,by omega⟩,⟨by omega,by omega,fun j hj n hn=> ?_⟩,by omega⟩⟩⟩,fun hlt=>h true ⟨fun _=>⟨hid,hc.2 fun n hn=> ?_⟩,fun _=>rfl⟩⟩
  ·have:=hc.1 a.2 y (List.mem_of_getElem? hy);omega
  ·by_cases hji:j=i.toNat
   ·subst hji;rw[hy] at hn;cases hn;omega
   ·exact h2 j (by omega) n hn
  ·obtain⟨j,hj⟩:=List.mem_iff_getElem?.1 hn
   exact h2 j (by have:=(List.getElem?_eq_some_iff.1 hj).1;omega) n hj
 ·exact q1y (Cnd.no (by simpa using hid) (h false ⟨fun e=>(by cases e),fun a=>absurd a.1 hid⟩))
theorem q6l{ns:List Nd}{ids:Nd->Option Int}{full:Bool}{f g h:Int}{K:Int->List Nd->(Nd->Option Int)->Bool->Prop}(hI:Inv ns ids)(hl:ns.length<=4000)
  (hK: ∀r ns' ids' full',ChR ns ids full f g h r ns' ids' full'->K r ns' ids' full'):Jk ns ids full f g h K:=by
 unfold Jk
 refine z11 hI.nod hl fun b hb=>⟨fun hbt=> ?_,fun hbt=> ?_⟩
 ·obtain⟨hf,hc⟩:=hb.1 hbt
  refine q1y ⟨fun hg=>q1y ⟨fun hh=> ?_,fun hh=> ?_⟩,fun hg=> ?_⟩
  ·exact z73 _ _ _ _ _ _ _ _ hI hl hf (of_decide_eq_true hg) (of_decide_eq_true hh) hc (Kn.nil ns) fun r ns' ids' full' m' C _=>hK _ _ _ _ (.inl ⟨hf,hc,of_decide_eq_true hg,of_decide_eq_true hh,C⟩)
  ·exact hK _ _ _ _ (.inr ⟨fun a=>hh (decide_eq_true a.2.2.2),rfl,rfl,rfl,rfl⟩)
  ·exact hK _ _ _ _ (.inr ⟨fun a=>hg (decide_eq_true a.2.2.1),rfl,rfl,rfl,rfl⟩)
 ·exact hK _ _ _ _ (.inr ⟨fun a=>hbt (hb.2 ⟨a.1,a.2.1⟩),rfl,rfl,rfl,rfl⟩)
theorem j68{ns:List Nd}{ids:Nd->Option Int}{full:Bool}{f g:Int}{K:Int->List Nd->(Nd->Option Int)->Bool->Prop}(hI:Inv ns ids)(hl:ns.length<=4000)
  (hK: ∀r ns' ids' full',OpR (Ok ns f/\Cond ns f/\Ok ns g/\Cond ns g) ns ids full f g (-1) r ns' ids' full'->K r ns' ids' full'):J8 ns ids full f g K:=by
 unfold J8
 refine z11 hI.nod hl fun b hb=>⟨fun hbt=> ?_,fun hbt=> ?_⟩
 ·refine q6l hI hl fun r ns' ids' full' C=>hK _ _ _ _ ?_
  rcases C with ⟨a1,a2,a3,a4,a5⟩|⟨a1,a2⟩
  ·exact .inl ⟨⟨a1,a2,hb.1 hbt⟩,a5⟩
  ·exact .inr ⟨fun a=>a1 ⟨a.1,a.2.1,a.2.2.1,⟨by omega,by omega⟩⟩,a2⟩
 ·exact hK _ _ _ _ (.inr ⟨fun a=>hbt (hb.2 a.2.2),rfl,rfl,rfl,rfl⟩)
theorem j87{ns:List Nd}{ids:Nd->Option Int}{full:Bool}{f g:Int}{K:Int->List Nd->(Nd->Option Int)->Bool->Prop}(hI:Inv ns ids)(hl:ns.length<=4000)
  (hK: ∀r ns' ids' full',OpR (Ok ns f/\Cond ns f/\Ok ns g/\Cond ns g) ns ids full f (-2) g r ns' ids' full'->K r ns' ids' full'):Wv ns ids full f g K:=by
 unfold Wv
 refine z11 hI.nod hl fun b hb=>⟨fun hbt=> ?_,fun hbt=> ?_⟩
 ·refine q6l hI hl fun r ns' ids' full' C=>hK _ _ _ _ ?_
  rcases C with ⟨a1,a2,a3,a4,a5⟩|⟨a1,a2⟩
  ·exact .inl ⟨⟨a1,a2,hb.1 hbt⟩,a5⟩
  ·exact .inr ⟨fun a=>a1 ⟨a.1,a.2.1,⟨by omega,by omega⟩,a.2.2.1⟩,a2⟩
 ·exact hK _ _ _ _ (.inr ⟨fun a=>hbt (hb.2 a.2.2),rfl,rfl,rfl,rfl⟩)
theorem j69{ns:List Nd}{ids:Nd->Option Int}{full:Bool}{f:Int}{K:Int->List Nd->(Nd->Option Int)->Bool->Prop}(hI:Inv ns ids)(hl:ns.length<=4000)
  (hK: ∀r ns' ids' full',OpR (Ok ns f/\Cond ns f) ns ids full f (-1) (-2) r ns' ids' full'->K r ns' ids' full'):J7 ns ids full f K:=by
 unfold J7
 refine q6l hI hl fun r ns' ids' full' C=>hK _ _ _ _ ?_
 rcases C with ⟨a1,a2,a3,a4,a5⟩|⟨a1,a2⟩
 ·exact .inl ⟨⟨a1,a2⟩,a5⟩
 ·exact .inr ⟨fun a=>a1 ⟨a.1,a.2,⟨by omega,by omega⟩,⟨by omega,by omega⟩⟩,a2⟩
end Go.En
end
noncomputable section
set_option maxRecDepth 100000
namespace Go.En
open Go Go.Fl Go.Fl.Lk Go.Fx Go.Dg
structure Dgm(ns:List Nd)(F:(Int->Bool)->Bool)(S:List Int)(id:Int):Prop where
 ok:Ok ns id
 ev: ∀v,ev ns v id=if F v=true then 1 else 0
 dep: ∀v v':Int->Bool,(∀x∈S,v x=v' x)->F v=F v'
theorem Dgm.cond{ns:List Nd}{F:(Int->Bool)->Bool}{S:List Int}{id:Int}(h:Dgm ns F S id):Cond ns id:=fun v=>by
 rw[h.ev]
 cases F v
 ·exact .inl rfl
 ·exact .inr rfl
theorem Dgm.wide{ns:List Nd}{F:(Int->Bool)->Bool}{S S':List Int}{id:Int}(h:Dgm ns F S id)(hs: ∀x∈S,x∈S'):Dgm ns F S' id:=⟨h.ok,h.ev,fun v v' e=>h.dep v v' fun x hx=>e x (hs x hx)⟩
theorem Dgm.pre{ns ns':List Nd}{F:(Int->Bool)->Bool}{S:List Int}{id:Int}(h:Dgm ns F S id)(hN:Nod ns)(hN':Nod ns')(hp:ns<+:ns'):Dgm ns' F S id:=⟨h.ok.pre hp,fun v=>by rw[Zi hN hN' hp h.ok];exact h.ev v,h.dep⟩
theorem Dgm.tru{ns:List Nd}{S:List Int}:Dgm ns (fun _=>true) S (-2):=⟨⟨by omega,by omega⟩,fun v=>by rw[Zk (by omega)];rfl,fun _ _ _=>rfl⟩
theorem Dgm.fls{ns:List Nd}{S:List Int}:Dgm ns (fun _=>false) S (-1):=⟨⟨by omega,by omega⟩,fun v=>by rw[Zk (by omega)];rfl,fun _ _ _=>rfl⟩
theorem Dgm.dp{ns:List Nd}{F:(Int->Bool)->Bool}{S:List Int}{id:Int}(h:Dgm ns F S id):Dep S fun v=>Go.Dg.ev ns v id:=fun v v' e=>by
 show Go.Dg.ev ns v id=Go.Dg.ev ns v' id
 rw[h.ev,h.ev,h.dep v v' e]
structure Gro(ns:List Nd)(full:Bool)(k:Nat)(ns':List Nd)(ids':Nd->Option Int)(full':Bool):Prop where
 inv:Inv ns' ids'
 pre:ns<+:ns'
 len:ns'.length<=ns.length+k
 full:full'=full
theorem Gro.refl{ns:List Nd}{ids:Nd->Option Int}{full:Bool}(hI:Inv ns ids):Gro ns full 0 ns ids full:=⟨hI,List.prefix_refl _,by omega,rfl⟩
theorem Gro.trans{ns ns' ns'':List Nd}{ids' ids'':Nd->Option Int}{f f' f'':Bool}{k k' m:Nat}(h:Gro ns f k ns' ids' f')(h':Gro ns' f' k' ns'' ids'' f'')(hm:k+k'<=m):Gro ns f m ns'' ids'' f'':=
 ⟨h'.inv,h.pre.trans h'.pre,by have:=h.len;have:=h'.len;omega,h'.full.trans h.full⟩
theorem Gro.le{ns ns':List Nd}{ids':Nd->Option Int}{f f':Bool}{k m:Nat}(h:Gro ns f k ns' ids' f')(hm:k<=m):Gro ns f m ns' ids' f':=⟨h.inv,h.pre,by have:=h.len;omega,h.full⟩
theorem q60{n m:Nat}(h:n<=m):2 ^ n<=2 ^ m:=Nat.pow_le_pow_right (by omega) h
theorem z5q{ns:List Nd}{ids:Nd->Option Int}{full:Bool}{f g h r:Int}{ns':List Nd}{ids':Nd->Option Int}{full':Bool}(C:Cho ns ids full f g h r ns' ids' full')(hI:Inv ns ids){F G H:(Int->Bool)->Bool}{S:List Int}(hf:Dgm ns F S f)(hg:Dgm ns G S g)(hh:Dgm ns H S h)(room:ns.length+2 ^ S.length<=4000):
  Dgm ns' (fun v=>if F v=true then G v else H v) S r/\Gro ns full (2 ^ S.length) ns' ids' full':=by
 have hd:=C.dep S hf.dp hg.dp hh.dp
 have hc:2 ^ cnt S (mtop ns f g h)<=2 ^ S.length:=q60 j4t
 have hp:=C.grew.pre
 have hN:=hI.nod
 have hN':=C.grew.inv.nod
 refine⟨?_,C.grew.inv,hp,by omega,?_⟩
 ·rcases C.res with ⟨_,e⟩|⟨ok,hs,_⟩
  ·omega
  ·refine⟨ok,fun v=> ?_,fun v v' e=>by show (if F v=true then G v else H v)=if F v'=true then G v' else H v';rw[hf.dep v v' e,hg.dep v v' e,hh.dep v v' e]⟩
   rw[hs v,(hf.pre hN hN' hp).ev,(hg.pre hN hN' hp).ev,(hh.pre hN hN' hp).ev]
   show (if (if F v=true then (1:Int) else 0)=1 then (if G v=true then (1:Int) else 0) else if H v=true then 1 else 0)=if (if F v=true then G v else H v)=true then 1 else 0
   by_cases hF:F v=true
   ·rw[if_pos hF,if_pos hF,if_pos rfl]
   ·rw[if_neg hF,if_neg hF,if_neg (by decide)]
 ·rcases C.grew.room with e|e
  ·exact e
  ·omega
theorem j3w{ns:List Nd}{ids:Nd->Option Int}{full:Bool}{f g:Int}{F G:(Int->Bool)->Bool}{S:List Int}{K:Int->List Nd->(Nd->Option Int)->Bool->Prop}(hI:Inv ns ids)(room:ns.length+2 ^ S.length<=4000)(hf:Dgm ns F S f)(hg:Dgm ns G S g)
  (hK: ∀r ns' ids' full',Dgm ns' (fun v=>F v && G v) S r->Gro ns full (2 ^ S.length) ns' ids' full'->K r ns' ids' full'):J8 ns ids full f g K:=by
 refine j68 hI (Nat.le_trans (Nat.le_add_right _ _) room) fun r ns' ids' full' C=> ?_
 rcases C with ⟨_,C⟩|⟨n,_⟩
 ·obtain⟨a,b⟩:=z5q C hI hf hg Dgm.fls room
  refine hK _ _ _ _ ⟨a.ok,fun v=> ?_,fun v v' e=> ?_⟩ b
  ·rw[a.ev];show (if (if F v=true then G v else false)=true then _ else _)=if (F v && G v)=true then _ else _;cases F v<;>simp
  ·show (F v && G v)=(F v' && G v');rw[hf.dep v v' e,hg.dep v v' e]
 ·exact absurd ⟨hf.ok,hf.cond,hg.ok,hg.cond⟩ n
theorem j7a{ns:List Nd}{ids:Nd->Option Int}{full:Bool}{f g:Int}{F G:(Int->Bool)->Bool}{S:List Int}{K:Int->List Nd->(Nd->Option Int)->Bool->Prop}(hI:Inv ns ids)(room:ns.length+2 ^ S.length<=4000)(hf:Dgm ns F S f)(hg:Dgm ns G S g)
  (hK: ∀r ns' ids' full',Dgm ns' (fun v=>F v||G v) S r->Gro ns full (2 ^ S.length) ns' ids' full'->K r ns' ids' full'):Wv ns ids full f g K:=by
 refine j87 hI (Nat.le_trans (Nat.le_add_right _ _) room) fun r ns' ids' full' C=> ?_
 rcases C with ⟨_,C⟩|⟨n,_⟩
 ·obtain⟨a,b⟩:=z5q C hI hf Dgm.tru hg room
  refine hK _ _ _ _ ⟨a.ok,fun v=> ?_,fun v v' e=> ?_⟩ b
  ·rw[a.ev];show (if (if F v=true then true else G v)=true then _ else _)=if (F v||G v)=true then _ else _;cases F v<;>simp
  ·show (F v||G v)=(F v'||G v');rw[hf.dep v v' e,hg.dep v v' e]
 ·exact absurd ⟨hf.ok,hf.cond,hg.ok,hg.cond⟩ n
theorem j3x{ns:List Nd}{ids:Nd->Option Int}{full:Bool}{f:Int}{F:(Int->Bool)->Bool}{S:List Int}{K:Int->List Nd->(Nd->Option Int)->Bool->Prop}(hI:Inv ns ids)(room:ns.length+2 ^ S.length<=4000)(hf:Dgm ns F S f)
  (hK: ∀r ns' ids' full',Dgm ns' (fun v=> !F v) S r->Gro ns full (2 ^ S.length) ns' ids' full'->K r ns' ids' full'):J7 ns ids full f K:=by
 refine j69 hI (Nat.le_trans (Nat.le_add_right _ _) room) fun r ns' ids' full' C=> ?_
 rcases C with ⟨_,C⟩|⟨n,_⟩
 ·obtain⟨a,b⟩:=z5q C hI hf Dgm.fls Dgm.tru room
  refine hK _ _ _ _ ⟨a.ok,fun v=> ?_,fun v v' e=> ?_⟩ b
  ·rw[a.ev];show (if (if F v=true then false else true)=true then _ else _)=if (!F v)=true then _ else _;cases F v<;>simp
  ·show (!F v)=(!F v');rw[hf.dep v v' e]
 ·exact absurd ⟨hf.ok,hf.cond⟩ n
theorem j03{ns:List Nd}{ids:Nd->Option Int}{full:Bool}{t:Int}{K:Int->List Nd->(Nd->Option Int)->Bool->Prop}(hI:Inv ns ids)(room:ns.length+1<=3999)(h0:0<=t)(h1:t<=1000)
  (hK: ∀r ns' ids' full',Dgm ns' (fun v=>v t) [t] r->Gro ns full 1 ns' ids' full'->K r ns' ids' full'):Q8 ns ids full t (-2) (-1) K:=by
 have hO:q1x ns t (-2) (-1):=⟨h0,h1,⟨by omega,by omega⟩,⟨by omega,by omega⟩,by show t<if (-2:Int)<0 then 1001 else _;rw[if_pos (by decide)];omega,by show t<if (-1:Int)<0 then 1001 else _;rw[if_pos (by decide)];omega⟩
 refine z6w (by omega) ?_
 obtain⟨g,_,q⟩:=z1y (r:=(node ns ids full t (-2) (-1)).1) (ns':=(node ns ids full t (-2) (-1)).2.1) (ids':=(node ns ids full t (-2) (-1)).2.2.1) (full':=(node ns ids full t (-2) (-1)).2.2.2) hI (by omega) hO rfl
 have hm:=g.most
 rcases q with ⟨_,e,_⟩|⟨ef,ok,_,hev⟩
 ·omega
 ·refine hK _ _ _ _ ⟨ok,fun v=> ?_,fun v v' e=>e t (List.mem_singleton.2 rfl)⟩ ⟨g.inv,g.pre,hm,ef⟩
  rw[hev v,Zk (by omega),Zk (by omega)];rfl
end Go.En
end
noncomputable section
set_option maxRecDepth 100000
namespace Go.En
open Go Go.Fl Go.Fl.Lk Go.Fx Go.Dg
theorem z5r:Inv [] fun _=>none:=⟨⟨fun i h0 hl=>by simp at hl;omega,fun i j h0 hl=>by simp at hl;omega⟩,fun n id=>by simp;omega⟩
end Go.En
end
noncomputable section
set_option maxRecDepth 100000
namespace Go.En
open Go Go.Fl Go.Fl.Lk Go.Fx Go.Dg
mutual
def bev(L:Ex->Bool):Ex->Bool
 |⟨op,kind,name,values,kids⟩=>if op=1 then true else if op=2 then bevA L kids else if op=3 then bevO L kids else if op=4 then bevN L kids else L ⟨op,kind,name,values,kids⟩
def bevA(L:Ex->Bool):List Ex->Bool
 |[]=>true
 |k::l=>bev L k && bevA L l
def bevO(L:Ex->Bool):List Ex->Bool
 |[]=>false
 |k::l=>bev L k||bevO L l
def bevN(L:Ex->Bool):List Ex->Bool
 |[]=>false
 |k::_=> !(bev L k)
end
theorem j04(L:Ex->Bool)(e:Ex):bev L e=if e.1=1 then true else if e.1=2 then bevA L e.5 else if e.1=3 then bevO L e.5 else if e.1=4 then bevN L e.5 else L e:=by
 cases e;rfl
mutual
def lvE:Ex->List Ex
 |⟨op,kind,name,values,kids⟩=>if op=1 then [] else if op=2∨op=3∨op=4 then lvEL kids else [⟨op,kind,name,values,kids⟩]
def lvEL:List Ex->List Ex
 |[]=>[]
 |k::l=>lvE k++lvEL l
end
theorem R7(e:Ex):lvE e=if e.1=1 then [] else if e.1=2∨e.1=3∨e.1=4 then lvEL e.5 else [e]:=by
 cases e;rfl
theorem q5n{a:Ex}{l:List Ex}:a∈lvEL l↔ ∃k∈l,a∈lvE k:=by
 induction l with
 |nil=>simp[lvEL]
 |cons k l ih=>simp[lvEL,ih]
mutual
def cst:Ex->Nat
 |⟨op,_,_,_,kids⟩=>if op=1 then 0 else if op=2∨op=3∨op=4 then cstL kids+kids.length*2 ^ (lvEL kids).length else 1
def cstL:List Ex->Nat
 |[]=>0
 |k::l=>cst k+cstL l
end
theorem q85(e:Ex):cst e=if e.1=1 then 0 else if e.1=2∨e.1=3∨e.1=4 then cstL e.5+e.5.length*2 ^ (lvEL e.5).length else 1:=by
 cases e;rfl
theorem q7u(l m:List Ex):cstL (l++m)=cstL l+cstL m:=by
 induction l with
 |nil=>simp[cstL]
 |cons k l ih=>simp only[List.cons_append,cstL,ih];omega
theorem j05(L:Ex->Bool)(l:List Ex)(k:Ex):bevA L (l++[k])=(bevA L l && bev L k):=by
 induction l with
 |nil=>simp[bevA]
 |cons a l ih=>simp only[List.cons_append,bevA,ih,Bool.and_assoc]
theorem j06(L:Ex->Bool)(l:List Ex)(k:Ex):bevO L (l++[k])=(bevO L l||bev L k):=by
 induction l with
 |nil=>simp[bevO]
 |cons a l ih=>simp only[List.cons_append,bevO,ih,Bool.or_assoc]
open Classical in
def ixL:List Ex->Ex->Nat
 |[],_=>0
 |a::l,e=>if a=e then 0 else ixL l e+1
theorem j07: ∀{l:List Ex} {r:Nat} {e:Ex},l[r]? =some e->e∉l.take r->ixL l e=r
 |[],r,e,h,_=>by simp at h
 |a::l,r,e,h,hn=>by
  cases r with
  |zero=>
   rw[List.getElem?_cons_zero] at h
   unfold ixL;rw[if_pos (Option.some.inj h)]
  |succ r=>
   rw[List.getElem?_cons_succ] at h
   rw[List.take_succ_cons,List.mem_cons,not_or] at hn
   unfold ixL
   rw[if_neg (fun e'=>hn.1 e'.symm),j07 h hn.2]
def lvs(ats:List Ex)(e:Ex):List Int:=(lvE e).map fun x=>(ixL ats x:Int)
def sem(ats:List Ex)(e:Ex)(v:Int->Bool):Bool:=bev (fun x=>v (ixL ats x)) e
theorem j08{l:List Ex}{k:Ex}(h:k∈l):cst k<=cstL l:=by
 induction l with
 |nil=>cases h
 |cons a l ih=>
  rcases List.mem_cons.1 h with rfl|h
  ·simp only[cstL];omega
  ·have:=ih h
   simp only[cstL];omega
theorem q6m{ats:List Ex}(ha: ∀x∈ats,ExS 5 x)(hal:ats.length<=1000): ∀(n:Nat) {ns:List Nd} {ids:Nd->Option Int} {full:Bool} {e:Ex} {K:Int->List Nd->(Nd->Option Int)->Bool->Prop},ExS n e->(∀x∈lvE e,x∈ats)->Inv ns ids->ns.length+cst e<=3900->
  (∀r ns' ids' full',Dgm ns' (sem ats e) (lvs ats e) r->Gro ns full (cst e) ns' ids' full'->K r ns' ids' full')->Gh ns ids full ats e K:=by
 intro n ns ids full e K he hin hI room h X hX
 induction n using Nat.strongRecOn generalizing ns ids full e K with
 |_ n ih=>
 refine hX _ _ _ _ _ _ ?_
 unfold R2
 rw[V9]
 have hop:=he.opK
 have zero:2<=e.op->e.op<=4->(0:Int)<(e.kids.length:Int):=fun a b=>by have:=List.length_pos_iff.2 (hop a b);omega
 have kid: ∀{y:Ex} {ns ids full} {K:Int->List Nd->(Nd->Option Int)->Bool->Prop},y∈e.kids->(∀x∈lvE y,x∈ats)->Inv ns ids->ns.length+cst y<=3900->(∀r ns' ids' full',Dgm ns' (sem ats y) (lvs ats y) r->Gro ns full (cst y) ns' ids' full'->K r ns' ids' full')->X ns ids full ats (Ex.mk y.1 y.2 y.3 y.4 y.5) K:=fun hy hi hI hr hK=>by
  obtain⟨m,hm,hk⟩:=he.kid hy
  rw[V9]
  exact ih m (by omega) hk hi hI hr hK
 have hse: ∀v,sem ats e v=if e.1=1 then true else if e.1=2 then bevA (fun x=>v (ixL ats x)) e.5 else if e.1=3 then bevO (fun x=>v (ixL ats x)) e.5 else if e.1=4 then bevN (fun x=>v (ixL ats x)) e.5 else v (ixL ats e):=fun v=>j04 _ e
 have hle:=R7 e
 have hce:=q85 e
 have hls:lvs ats e=(lvE e).map fun x=>(ixL ats x:Int):=rfl
 have node:2<=e.op->e.op<=4->(e.1≠1/\(e.1=2∨e.1=3∨e.1=4)):=fun a b=>⟨by show e.op≠1;omega,by show e.op=2∨e.op=3∨e.op=4;omega⟩
 have nod2:2<=e.op->e.op<=4->(∀y∈e.kids,(∀x∈lvE y,x∈ats)/\ ∀i∈lvs ats y,i∈lvs ats e)/\cst e=cstL e.5+e.5.length*2 ^ (lvs ats e).length:=fun a b=>by
  obtain⟨n1,n2⟩:=node a b
  rw[if_neg n1,if_pos n2] at hle hce
  refine⟨fun y hy=>⟨fun x hx=>hin x (by rw[hle];exact q5n.2 ⟨y,hy,hx⟩),fun i hi=> ?_⟩,by rw[hce,hls,hle,List.length_map]⟩
  obtain⟨x,hx,rfl⟩:=List.mem_map.1 hi
  rw[hls,hle]
  exact List.mem_map.2 ⟨x,q5n.2 ⟨y,hy,hx⟩,rfl⟩
 refine Cnd.mk (fun h1=> ?_) fun h1=>Cnd.mk (fun h4=> ?_) fun h4=> ?_
 ·rw[if_pos h1] at hce
  refine h _ _ _ _ ⟨⟨by omega,by omega⟩,fun v=> ?_,fun v v' _=> ?_⟩ (by rw[hce];exact Gro.refl hI)
  ·rw[hse,if_pos h1,Zk (by omega)];rfl
  ·rw[hse,hse,if_pos h1,if_pos h1]
 ·obtain⟨k1,k2⟩:=nod2 (by omega) (by omega)
  refine⟨⟨by omega,zero (by omega) (by omega)⟩,fun y hy=> ?_⟩
  have hy0:e.kids[0]? =some y:=hy
  have hlen:=Qe hy0
  obtain⟨q1,q2⟩:=k1 y (getm hy)
  have hcy:=j08 (getm hy)
  have hW:1*2 ^ (lvs ats e).length<=e.5.length*2 ^ (lvs ats e).length:=Nat.mul_le_mul_right _ (by have:0<e.kids.length:=hlen;omega)
  rw[Nat.one_mul] at hW
  refine kid (getm hy) q1 hI (by omega) fun r ns1 ids1 full1 d1 g1=> ?_
  have hg1:=g1.len
  refine j3x (S:=lvs ats e) g1.inv (by omega) (d1.wide q2) fun r2 ns2 ids2 full2 d2 g2=>h _ _ _ _ ⟨d2.ok,fun v=> ?_,fun v v' ee=> ?_⟩ (g1.trans g2 (by omega))
  ·rw[d2.ev,hse,if_neg h1,if_neg (show ¬e.1=2 by omega),if_neg (show ¬e.1=3 by omega),if_pos h4]
   have: ∃l,e.5=y::l:=by
    cases hk:e.5 with
    |nil=>rw[hk] at hy0;cases hy0
    |cons a l=>rw[hk] at hy0;exact⟨l,by rw[Option.some.inj hy0]⟩
   obtain⟨l,hl⟩:=this
   rw[hl];rfl
  ·have:=d2.dep v v' ee
   have e1: ∀v,sem ats e v= !(sem ats y v):=fun v=>by
    rw[hse,if_neg h1,if_neg (show ¬e.1=2 by omega),if_neg (show ¬e.1=3 by omega),if_pos h4]
    cases hk:e.5 with
    |nil=>rw[hk] at hy0;cases hy0
    |cons a l=>rw[hk] at hy0;rw[←Option.some.inj hy0];rfl
   rw[e1,e1];exact this
 refine Jn1.mk (fun b=>(b=true->e.op=2∨e.op=3)/\(b=false->e.op≠2/\e.op≠3)) (Cnd.mk (fun hc=>⟨fun _=> .inl hc,fun hb=>absurd hc (of_decide_eq_false hb)⟩) fun hc=>⟨fun hd=> .inr (of_decide_eq_true hd),fun hd=>⟨hc,of_decide_eq_false hd⟩⟩) fun b hb=>Cnd.mk (fun hc=> ?_) fun hc=> ?_
 ·have h23:=hb.1 hc
  have o1:2<=e.op:=by omega
  have o2:e.op<=4:=by omega
  obtain⟨k1,k2⟩:=nod2 o1 o2
  refine⟨⟨by omega,zero o1 o2⟩,fun y hy=> ?_⟩
  have hy0:e.kids[0]? =some y:=hy
  have hlen:=Qe hy0
  obtain⟨q1,q2⟩:=k1 y (getm hy)
  have hcy:=j08 (getm hy)
  generalize hWd:2 ^ (lvs ats e).length=W at k2
  refine kid (getm hy) q1 hI (by omega) fun r ns1 ids1 full1 d1 g1=> ?_
  have t1:e.kids.take 1=[y]:=by
   cases hk:e.kids with
   |nil=>rw[hk] at hy0;cases hy0
   |cons a l=>rw[hk] at hy0;rw[←Option.some.inj hy0];rfl
  let FF:List Ex->(Int->Bool)->Bool:=fun l v=>if e.1=2 then bevA (fun x=>v (ixL ats x)) l else bevO (fun x=>v (ixL ats x)) l
  have f1: ∀v,FF (e.kids.take 1) v=sem ats y v:=fun v=>by
   show (if e.1=2 then bevA _ (e.kids.take 1) else bevO _ (e.kids.take 1))=_
   rw[t1]
   by_cases h2:e.1=2
   ·rw[if_pos h2];simp[bevA,sem]
   ·rw[if_neg h2];simp[bevO,sem]
  refine Lp5.ind (fun (f i:Int) ns2 full2 ids2=> ∃j:Nat,i=(j:Int)/\1<=j/\j<=e.kids.length/\Dgm ns2 (FF (e.kids.take j)) (lvs ats e) f/\Gro ns full (cstL (e.kids.take j)+j*W) ns2 ids2 full2) (fun _ (i:Int) _ _ _=>(e.kids.length - i).toNat) ?_ ⟨1,rfl,by omega,by omega,⟨d1.ok,fun v=>by rw[f1];exact d1.ev v,fun v v' ee=>by rw[f1,f1];exact (d1.wide q2).dep v v' ee⟩,by rw[t1];refine g1.le ?_;show cst y<=cst y+0+1*W;omega⟩
  rintro f i ns2 full2 ids2 ⟨j,rfl,j1,j2,d2,g2⟩ _
  refine Cnd.mk (fun hc2=>⟨by omega,fun z hz=> ?_⟩) fun hc2=> ?_
  ·have hz:e.kids[j]? =some z:=hz
   obtain⟨z1,z2⟩:=k1 z (getm hz)
   have tk:e.kids.take (j+1)=e.kids.take j++[z]:=by rw[List.take_add_one,hz];rfl
   have c1:cstL (e.kids.take (j+1))=cstL (e.kids.take j)+cst z:=by rw[tk,q7u];simp[cstL]
   have c2:cstL (e.kids.take (j+1))+cstL (e.kids.drop (j+1))=cstL e.kids:=by rw[←q7u,List.take_append_drop]
   have m1:(j+1)*W=j*W+W:=by rw[Nat.add_mul,Nat.one_mul]
   have m2:(j+1)*W<=e.kids.length*W:=Nat.mul_le_mul_right _ (by omega)
   have hg2:=g2.len
   have hk2:cst e=cstL e.kids+e.kids.length*W:=k2
   refine kid (getm hz) z1 g2.inv (by omega) fun r3 ns3 ids3 full3 d3 g3=> ?_
   have hg3:=g3.len
   have d2':=d2.pre g2.inv.nod g3.inv.nod g3.pre
   have rm:ns3.length+2 ^ (lvs ats e).length<=4000:=by rw[hWd];omega
   have fin: ∀{G:(Int->Bool)->Bool} {r4:Int} {ns4:List Nd} {ids4:Nd->Option Int} {full4:Bool},(∀v,G v=FF (e.kids.take (j+1)) v)->Dgm ns4 G (lvs ats e) r4->Gro ns3 full3 (2 ^ (lvs ats e).length) ns4 ids4 full4->InI ((j:Int)+1)/\(∃j':Nat,(j:Int)+1=(j':Int)/\1<=j'/\j'<=e.kids.length/\Dgm ns4 (FF (e.kids.take j')) (lvs ats e) r4/\Gro ns full (cstL (e.kids.take j')+j'*W) ns4 ids4 full4)/\(e.kids.length - ((j:Int)+1)).toNat<(e.kids.length - (j:Int)).toNat:=fun hG d4 g4=>by
    have hk3:=he.kids
    refine⟨by unfold InI;omega,⟨j+1,by omega,by omega,by omega,⟨d4.ok,fun v=>by rw[←hG];exact d4.ev v,fun v v' ee=>by rw[←hG,←hG];exact d4.dep v v' ee⟩,(g2.trans g3 (Nat.le_refl _)).trans g4 (by rw[hWd];omega)⟩,by omega⟩
   refine Cnd.mk (fun h2=>j3w (S:=lvs ats e) g3.inv rm d2' (d3.wide z2) fun r4 ns4 ids4 full4 d4 g4=>fin (fun v=> ?_) d4 g4) fun h2=>j7a (S:=lvs ats e) g3.inv rm d2' (d3.wide z2) fun r4 ns4 ids4 full4 d4 g4=>fin (fun v=> ?_) d4 g4
   ·show ((if e.1=2 then bevA _ (e.kids.take j) else _) && _)=if e.1=2 then bevA _ (e.kids.take (j+1)) else _
    rw[if_pos h2,if_pos h2,tk,j05];rfl
   ·show ((if e.1=2 then _ else bevO _ (e.kids.take j))||_)=if e.1=2 then _ else bevO _ (e.kids.take (j+1))
    rw[if_neg h2,if_neg h2,tk,j06];rfl
  ·have hj:j=e.kids.length:=by omega
   subst hj
   rw[List.take_of_length_le (Nat.le_refl _)] at d2 g2
   have es: ∀v,sem ats e v=FF e.kids v:=fun v=>by
    rw[hse,if_neg h1]
    show _=if e.1=2 then bevA _ e.kids else bevO _ e.kids
    by_cases h2:e.1=2
    ·rw[if_pos h2,if_pos h2]
    ·rw[if_neg h2,if_neg h2,if_pos (h23.resolve_left h2)]
   exact h _ _ _ _ ⟨d2.ok,fun v=>by rw[es];exact d2.ev v,fun v v' ee=>by rw[es,es];exact d2.dep v v' ee⟩ (g2.le (by rw[k2];exact Nat.le_refl _))
 ·obtain⟨n2,n3⟩:=hb.2 (by simpa using hc)
  have nn: ¬(e.1=2∨e.1=3∨e.1=4):=fun o=>o.elim n2 fun o=>o.elim n3 h4
  rw[if_neg h1,if_neg nn] at hle hce
  refine q6y ha fun r hr=> ?_
  rcases hr with ⟨rfl,hne⟩|⟨r0,hr,hnt⟩
  ·exact absurd (hin e (by rw[hle];exact List.mem_singleton.2 rfl)) hne
  have hix:=j07 hr hnt
  have hrl:=Qe hr
  refine Cnd.no (by omega) (j03 hI (by omega) r0 (by omega) fun r2 ns2 ids2 full2 d g=>h _ _ _ _ ?_ (by rw[hce];exact g))
  have hr2:((ixL ats e:Nat):Int)=r:=by rw[hix];omega
  have es: ∀v,sem ats e v=v r:=fun v=>by rw[hse,if_neg h1,if_neg n2,if_neg n3,if_neg h4,hr2]
  refine⟨d.ok,fun v=>by rw[es];exact d.ev v,fun v v' ee=> ?_⟩
  rw[es,es]
  refine ee r ?_
  rw[hls,hle,←hr2];exact List.mem_singleton.2 rfl
end Go.En
end
noncomputable section
set_option maxRecDepth 100000
namespace Go.Sg
open Go
abbrev bts(s:ByteArray):List UInt8:=s.data.toList
theorem get!_of{s:ByteArray}{i:Nat}(h:i<s.size):(bts s)[i]? =some (s.get! i):=by
 have h':i<s.data.size:=h
 show s.data.toList[i]? =some (s.data[i]!)
 rw[Array.getElem?_toList,Array.getElem?_eq_getElem h',getElem!_pos s.data i h']
theorem j09{s:ByteArray}{i:Nat}(h:(s.get! i).toNat<128):Utf8.decode s i=((s.get! i).toNat,1):=by
 unfold Utf8.decode
 simp only[Nat.add_zero]
 rw[if_pos h]
theorem j1a{s:ByteArray}{i:Nat}(h:128<=(s.get! i).toNat):128<=(Utf8.decode s i).1/\1<=(Utf8.decode s i).2/\ ∀k,k<(Utf8.decode s i).2->128<=(s.get! (i+k)).toNat:=by
 have k1: ∀k,k<1->128<=(s.get! (i+k)).toNat:=fun k hk=>by rw[show k=0 by omega];exact h
 have bad:128<=(Utf8.runeError,1).1/\1<=(Utf8.runeError,1).2/\ ∀k,k<(Utf8.runeError,1).2->128<=(s.get! (i+k)).toNat:=⟨by decide,by decide,k1⟩
 unfold Utf8.decode
 simp only[Nat.add_zero]
 rw[if_neg (by omega)]
 split
 ·rename_i hc
  simp only[Bool.and_eq_true,beq_iff_eq,decide_eq_true_eq] at hc
  split
  ·rename_i h2
   refine⟨h2,by simp,fun k hk=> ?_⟩
   have:k=0∨k=1:=by simp only at hk;omega
   rcases this with rfl|rfl
   ·exact h
   ·omega
  ·exact bad
 ·split
  ·rename_i _ hc
   simp only[Bool.and_eq_true,beq_iff_eq,decide_eq_true_eq] at hc
   split
   ·rename_i h2
    simp only[Bool.and_eq_true,decide_eq_true_eq] at h2
    refine⟨by simp only;omega,by simp,fun k hk=> ?_⟩
    have:k=0∨k=1∨k=2:=by simp only at hk;omega
    rcases this with rfl|rfl|rfl
    ·exact h
    ·omega
    ·omega
   ·exact bad
  ·split
   ·rename_i _ _ hc
    simp only[Bool.and_eq_true,beq_iff_eq,decide_eq_true_eq] at hc
    split
    ·rename_i h2
     simp only[Bool.and_eq_true,decide_eq_true_eq] at h2
     refine⟨by simp only;omega,by simp,fun k hk=> ?_⟩
     have:k=0∨k=1∨k=2∨k=3:=by simp only at hk;omega
     rcases this with rfl|rfl|rfl|rfl
     ·exact h
     ·omega
     ·omega
     ·omega
    ·exact bad
   ·exact bad
structure RuneP(p:Nat->Prop):Prop where
 hi: ∀n,128<=n->(p n↔p 128)
def Clr(p:Nat->Prop)(s:ByteArray)(k:Nat):Prop:= ∀i,i<k->i<s.size-> ¬p (s.get! i).toNat
theorem Clr.zero{p:Nat->Prop}{s:ByteArray}:Clr p s 0:=fun _ h=>absurd h (Nat.not_lt_zero _)
theorem j7b(s:ByteArray)(k:Nat):1<=(Utf8.decode s k).2:=by
 rcases Nat.lt_or_ge (s.get! k).toNat 128 with h|h
 ·rw[j09 h];exact Nat.le_refl 1
 ·exact (j1a h).2.1
theorem Clr.step{p:Nat->Prop}(hp:RuneP p){s:ByteArray}{k:Nat}(h:Clr p s k)(hk: ¬p (Utf8.decode s k).1):Clr p s (k+(Utf8.decode s k).2):=by
 intro i hi hs
 rcases Nat.lt_or_ge i k with h1|h1
 ·exact h i h1 hs
 rcases Nat.lt_or_ge (s.get! k).toNat 128 with h2|h2
 ·rw[j09 h2] at hk hi
  simp only at hk hi
  rw[show i=k by omega];exact hk
 ·obtain⟨a,_,c⟩:=j1a h2
  have:=c (i - k) (by omega)
  rw[show k+(i - k)=i by omega] at this
  rw[hp.hi _ this,←hp.hi _ a];exact hk
theorem z60{p:Nat->Prop}(hp:RuneP p){s:ByteArray}{k:Nat}(hk:p (Utf8.decode s k).1):p (s.get! k).toNat:=by
 rcases Nat.lt_or_ge (s.get! k).toNat 128 with h2|h2
 ·rw[j09 h2] at hk;exact hk
 ·rw[hp.hi _ h2,←hp.hi _ (j1a h2).1];exact hk
theorem Clr.all{p:Nat->Prop}{s:ByteArray}{k:Nat}(h:Clr p s k)(hk:s.size<=k): ∀c∈bts s,¬p c.toNat:=by
 intro c hc
 obtain⟨i,hi⟩:=List.mem_iff_getElem?.1 hc
 have hl:i<s.size:=(List.getElem?_eq_some_iff.1 hi).1
 have:=get!_of hl
 rw[hi] at this
 cases this
 exact h i (by omega) hl
theorem j1b{s:ByteArray}{k:Nat}(h:k<s.size):s.get! k∈bts s:=List.mem_of_getElem? (get!_of h)
def good(c:UInt8):Bool:=decide (32<=c.toNat) && decide (c.toNat≠127)
def vld(s:ByteArray):Bool:=decide (s.size<=200) && Go.Lib.validD (bts s) && (bts s).all good
def isD(c:UInt8):Bool:=decide (48<=c.toNat) && decide (c.toNat<=57)
def w0z(n:Nat)(c:UInt8):Nat:=10*n+(c.toNat - 48)
def valD(n:Nat)(l:List UInt8):Nat:=l.foldl w0z n
def digs(s:ByteArray):ByteArray:=if s[0]? =some 45 then s.extract 1 s.size else s
def pnum(s:ByteArray):Int×Int:=
 if (bts (digs s)).all isD=false then (0,1)
 else if (digs s).size=0∨((digs s)[0]? =some 48/\s≠ByteArray.mk (Array.mk [48])) then (0,1)
 else if 1099511627776<valD 0 (bts (digs s)) then (0,3)
 else (if (digs s).size<s.size then -(valD 0 (bts (digs s)):Int) else valD 0 (bts (digs s)),0)
def dot(s:ByteArray)(k:Nat):Nat:=k+((bts s).drop k).idxOf 46
def okp(p:Int×Int):Bool:=decide (p.2=0) && decide (0<=p.1) && decide (p.1<=999999)
def j7c(s:ByteArray)(k:Nat):Int×Int:=pnum (s.extract k (dot s k))
def j88(s:ByteArray):Prop:=(dot s 0<s.size/\okp (j7c s 0)=true)/\(dot s (dot s 0+1)<s.size/\okp (j7c s (dot s 0+1))=true)/\ ¬dot s (dot s (dot s 0+1)+1)<s.size/\okp (j7c s (dot s (dot s 0+1)+1))=true
instance (s:ByteArray):Decidable (j88 s):=by unfold j88;infer_instance
end Go.Sg
end
noncomputable section
set_option maxRecDepth 100000
namespace Go.En
open Go Go.Fl Go.Fl.Lk Go.Fx Go.Sg
theorem j7d{s:ByteArray}{K:Bool->Prop}(hs:s.size<=1000)(h:K (Go.Lib.validD (bts s))):Vj s K:=⟨by omega,h⟩
theorem badP:RuneP fun n=>n<32∨n=127:=⟨fun n h=>by omega⟩
theorem z61{s:ByteArray}(h:200<s.size∨Go.Lib.validD (bts s)=false∨ ∃c∈bts s,c.toNat<32∨c.toNat=127):vld s=false:=by
 unfold vld
 rcases h with h|h|⟨c,hc,h⟩
 ·rw[decide_eq_false (by omega)];rfl
 ·rw[h];simp
 ·have:(bts s).all good=false:=by
   rw[List.all_eq_false]
   refine⟨c,hc,?_⟩
   unfold good
   simp only[Bool.and_eq_true,decide_eq_true_eq]
   omega
  rw[this];simp
theorem j7e{s:ByteArray}(h1: ¬200<s.size)(h2:Go.Lib.validD (bts s)=true)(h3: ∀c∈bts s,¬(c.toNat<32∨c.toNat=127)):vld s=true:=by
 unfold vld
 rw[h2,decide_eq_true (show s.size<=200 by omega)]
 simp only[Bool.and_true,Bool.true_and,List.all_eq_true]
 intro c hc
 have:=h3 c hc
 unfold good
 simp only[Bool.and_eq_true,decide_eq_true_eq]
 omega
end Go.En
end
noncomputable section
set_option maxRecDepth 100000
namespace Go.En
open Go Go.Fl Go.Fl.Lk Go.Fx Go.Sg
theorem z13{s:ByteArray}{K:Bool->Prop}(h:K (vld s)):Bg s K:=by
 unfold Bg q2c
 refine Cnd.mk (fun h1=>by rwa [z61 (.inl (by omega))] at h) fun h1=>j7d (by omega) (Cnd.mk (fun h2=> ?_) fun h2=>by rwa [z61 (.inr (.inl (by simpa using h2)))] at h)
 refine Lp1.ind (fun (x:ByteArray×Nat)=>x.1=s/\Clr (fun n=>n<32∨n=127) s x.2) (fun x=>s.size - x.2) ?_ ⟨rfl,Clr.zero⟩
 rintro⟨s',p⟩ ⟨rfl,hc⟩
 dsimp only at hc⊢
 refine Cnd.mk (fun h3=>Cnd.mk (fun h4=> ?_) fun h4=>Cnd.mk (fun h5=> ?_) fun h5=>⟨⟨rfl,hc.step badP (fun e=>by rcases e with e|e<;>omega)⟩,by have:=j7b s' p;omega⟩) fun h3=>by rwa [j7e (by omega) h2 (hc.all (by omega))] at h
 ·rwa [z61 (.inr (.inr ⟨_,j1b h3,z60 badP (.inl (by omega))⟩))] at h
 ·rwa [z61 (.inr (.inr ⟨_,j1b h3,z60 badP (.inr (by omega))⟩))] at h
end Go.En
end
noncomputable section
set_option maxRecDepth 100000
namespace Go.En
open Go Go.Fl Go.Fl.Lk Go.Fx Go.Sg
theorem q9v{v:Val}{K:Val->Prop}(hv:v.list.length<=2000000)(h:K v):Vx v K:=by
 unfold Vx
 refine fun b hb=>Cnd.mk (fun e=> ?_) fun _=>⟨by unfold Sml;simp only[List.nil_append];omega,h⟩
 have:=hb e
 cases v
 simp only at this
 subst this
 exact h
end Go.En
end
noncomputable section
set_option maxRecDepth 100000
namespace Go.En
open Go Go.Fl Go.Fl.Lk Go.Fx Go.Sg
open Classical in
def dec(p:Prop):Bool:=decide p
theorem q86{a b:List ByteArray}{K:Bool->Prop}(h: ∀r,(r=true↔a=b)->K r):Zf a b K:=by
 unfold Zf
 intro ha hb
 refine Cnd.mk (fun hl _=> ?_) fun hl=>h _ ⟨fun h=>(by cases h),fun e=>by rw[e] at hl;exact absurd rfl hl⟩
 refine Lp1.ind (fun (i:Int)=>0<=i/\i<=a.length/\a.take i.toNat=b.take i.toNat) (fun (i:Int)=>(a.length - i).toNat) ?_ ⟨by omega,by omega,by simp⟩
 rintro i ⟨i0,i1,he⟩
 refine Cnd.mk (fun hc=>⟨by omega,fun x hx=>⟨by omega,fun y hy=>Cnd.mk (fun hc=>⟨by unfold InI;omega,⟨by omega,by omega,?_⟩,by omega⟩) fun hc=>h _ ⟨fun h=>(by cases h),fun h=> ?_⟩⟩⟩) fun hc=>h _ ⟨fun _=> ?_,fun _=>rfl⟩
 ·rw[show (i+1).toNat=i.toNat+1 by omega,List.take_add_one,List.take_add_one,he,hx,hy,hc]
 ·subst h;rw[hx] at hy;cases hy;exact absurd rfl hc
 ·rwa [List.take_of_length_le (by omega),List.take_of_length_le (by omega)] at he
def cnt(v w:Val):Bool:=if w.1=3 then (if v.1=5 then dec (w.3∈v.4) else if v.1=3 then Go.Lib.contains (bts v.3) (bts w.3) else false) else false
def ValB(w:Val):Prop:=w.3.size<=2000000/\w.4.length<=2000000
theorem q9w{op:Int}{K:Bool->Prop}(h: ∀r,(r=true↔6<=op/\op<=15)->K r):Vw op K:=by
 unfold Vw
 exact Cnd.mk (fun h6=>h _ ⟨fun a=>⟨h6,of_decide_eq_true a⟩,fun a=>decide_eq_true a.2⟩) fun h6=>h _ ⟨fun a=>(by cases a),fun a=>absurd a.1 h6⟩
end Go.En
end
noncomputable section
set_option maxRecDepth 100000
namespace Go.Gr
open Go.Fl Go.Fl.Lk
abbrev E2:=ByteArray×ByteArray
variable {ns ms:List ByteArray}{E D:List E2}{o o':List ByteArray}{x y:ByteArray}
def Rch(E:List E2)(x y:ByteArray):Prop:= ∀p:ByteArray->Prop,(∀e∈E,e.1=x∨p e.1->p e.2)->p y
theorem Rch.step{e:E2}(h:Rch E x e.1)(he:e∈E):Rch E x e.2:=fun p hp=>hp e he (.inr (h p hp))
def nd(E:List E2)(x:ByteArray):List ByteArray:=(E.filter fun e=>decide (e.1=x)).map (·.2)
end Go.Gr
end
noncomputable section
set_option maxRecDepth 100000
namespace Go.En
open Go Go.Fl Go.Fl.Lk Go.Fx Go.Sg
mutual
def evl(T:Ex->Bool)(I:ByteArray->Bool):Ex->Bool
 |⟨op,kind,name,values,kids⟩=>if op=1 then true else if op=2 then evlA T I kids else if op=3 then evlO T I kids else if op=4 then evlN T I kids else if op=5 then I name else T ⟨op,kind,name,values,kids⟩
def evlA(T:Ex->Bool)(I:ByteArray->Bool):List Ex->Bool
 |[]=>true
 |k::l=>if evl T I k=true then evlA T I l else false
def evlO(T:Ex->Bool)(I:ByteArray->Bool):List Ex->Bool
 |[]=>false
 |k::l=>if evl T I k=true then true else evlO T I l
def evlN(T:Ex->Bool)(I:ByteArray->Bool):List Ex->Bool
 |[]=>false
 |k::_=> !(evl T I k)
end
mutual
def subs:Ex->List Ex
 |⟨op,kind,name,values,kids⟩=>⟨op,kind,name,values,kids⟩::z75 kids
def z75:List Ex->List Ex
 |[]=>[]
 |k::l=>subs k++z75 l
end
theorem B9(e:Ex):subs e=e::z75 e.5:=by cases e;rfl
theorem Hm{a:Ex}{l:List Ex}:a∈z75 l↔ ∃k∈l,a∈subs k:=by
 induction l with
 |nil=>simp[z75]
 |cons k l ih=>simp[z75,ih]
mutual
def wt:Ex->Nat
 |⟨_,_,_,values,kids⟩=>1+wtV values+wtL kids
def wtL:List Ex->Nat
 |[]=>0
 |k::l=>wt k+wtL l
def wtV:List Val->Nat
 |[]=>0
 |v::l=>1+v.4.length+wtV l
end
theorem z14(e:Ex):wt e=1+wtV e.4+wtL e.5:=by cases e;rfl
theorem z0q(e:Ex):1<=wt e:=by rw[z14];omega
theorem j7f(l:List Ex):l.length<=wtL l:=by
 induction l with
 |nil=>simp
 |cons k l ih=>have:=z0q k;simp only[List.length_cons,wtL];omega
theorem j7g{k:Ex}{l:List Ex}(h:k∈l):wt k<=wtL l:=by
 induction l with
 |nil=>simp at h
 |cons a l ih=>
  simp only[wtL]
  rcases List.mem_cons.1 h with rfl|h
  ·omega
  ·have:=ih h;omega
theorem j7h(l:List Val):l.length<=wtV l:=by
 induction l with
 |nil=>simp
 |cons k l ih=>simp only[List.length_cons,wtV];omega
theorem j7i{v:Val}{l:List Val}(h:v∈l):v.4.length<wtV l:=by
 induction l with
 |nil=>simp at h
 |cons a l ih=>
  simp only[wtV]
  rcases List.mem_cons.1 h with rfl|h
  ·omega
  ·have:=ih h;omega
theorem z62{e k:Ex}(h:k∈e.5):wt k<wt e:=by have:=j7g h;rw[z14 e];omega
theorem j1c{e:Ex}:e.5.length<wt e:=by have:=j7f e.5;rw[z14 e];omega
theorem j7j{e:Ex}:e.4.length<wt e:=by have:=j7h e.4;rw[z14 e];omega
theorem j89{e:Ex}{v:Val}(h:v∈e.4):v.4.length<wt e:=by have:=j7i h;rw[z14 e];omega
def EvB(e:Ex):Prop:= ∀a∈subs e,∀w∈a.4,ValB w
end Go.En
end
noncomputable section
set_option maxRecDepth 100000
namespace Go.En
open Go Go.Fl Go.Fl.Lk Go.Fx Go.Sg
theorem z15{a b:Val}{K:Bool->Prop}(h: ∀r,(r=true↔a=b)->K r):Uz a b K:=by
 unfold Uz q2a
 have no:(a≠b)->K false:=fun hn=>h _ ⟨fun h=>(by cases h),fun e=>absurd e hn⟩
 refine Cnd.mk (fun h1=>Cnd.mk (fun h2=>Cnd.mk (fun h3=>q86 fun r hr=>h r (hr.trans ⟨fun h4=> ?_,fun e=>by rw[e]⟩)) fun h=>no fun e=>h (by rw[e])) fun h=>no fun e=>h (by rw[e])) fun h=>no fun e=>h (by rw[e])
 cases a;cases b;simp_all
theorem q2w: ∀(n:Nat) {a b:Ex} {K:Bool->Prop},wt b<=n->(∀r,(r=true↔a=b)->K r)->Ja a b K:=by
 intro n a b K hn h X hX
 induction n generalizing a b K with
 |zero=>have:=z0q b;omega
 |succ n ih=>
 refine hX _ _ _ ?_
 unfold q3y
 have no:(a≠b)->K false:=fun hn=>h _ ⟨fun h=>(by cases h),fun e=>absurd e hn⟩
 refine Cnd.mk (fun h1=>Cnd.mk (fun h2=>Cnd.mk (fun h3 ha4 _=>Cnd.mk (fun hl _=> ?_) fun h=>no fun e=>h (by rw[e])) fun h=>no fun e=>h (by rw[e])) fun h=>no fun e=>h (by rw[e])) fun h=>no fun e=>h (by rw[e])
 refine Lp1.ind (fun (i:Int)=>0<=i/\i<=a.4.length/\a.4.take i.toNat=b.4.take i.toNat) (fun (i:Int)=>(a.4.length - i).toNat) ?_ ⟨by omega,by omega,by simp⟩
 rintro i ⟨i0,i1,he⟩
 refine Cnd.mk (fun hc=>⟨by omega,fun x hx=>⟨by omega,fun y hy=>z15 fun r hr=>Cnd.mk (fun hb=>⟨by unfold InI;omega,⟨by omega,by omega,?_⟩,by omega⟩) fun hb=>no fun e=> ?_⟩⟩) fun hc ha5 _=>Cnd.mk (fun hl5 _=> ?_) fun h=>no fun e=>h (by rw[e])
 ·rw[show (i+1).toNat=i.toNat+1 by omega,List.take_add_one,List.take_add_one,he,hx,hy,hr.1 hb]
 ·subst e;rw[hx] at hy;cases hy;exact hb (hr.2 rfl)
 rw[List.take_of_length_le (by omega),List.take_of_length_le (by omega)] at he
 refine Lp1.ind (fun (i:Int)=>0<=i/\i<=a.5.length/\a.5.take i.toNat=b.5.take i.toNat) (fun (i:Int)=>(a.5.length - i).toNat) ?_ ⟨by omega,by omega,by simp⟩
 rintro i ⟨i0,i1,he5⟩
 refine Cnd.mk (fun hc=>⟨by omega,fun x hx=>⟨by omega,fun y hy=> ?_⟩⟩) fun hc=>h _ ⟨fun _=> ?_,fun _=>rfl⟩
 ·dsimp only;rw[V9,V9]
  have hkid:=z62 (getm hy)
  refine ih (by omega) fun r hr=>Cnd.mk (fun hb=>⟨by unfold InI;omega,⟨by omega,by omega,?_⟩,by omega⟩) fun hb=>no fun e=> ?_
  ·rw[show (i+1).toNat=i.toNat+1 by omega,List.take_add_one,List.take_add_one,he5,hx,hy,hr.1 hb]
  ·subst e;rw[hx] at hy;cases hy;exact hb (hr.2 rfl)
 ·rw[List.take_of_length_le (by omega),List.take_of_length_le (by omega)] at he5
  cases a;cases b;simp_all
theorem z16: ∀(n:Nat) {e:Ex} {K:Ex->Prop},wt e<=n->wt e<=2000000->K e->Bd e K:=by
 intro n e K hn hw h X hX
 induction n generalizing e K with
 |zero=>have:=z0q e;omega
 |succ n ih=>
 refine hX _ _ ?_
 unfold q2b
 have h4:=j7j (e:=e)
 have h5:=j1c (e:=e)
 refine fun _=>⟨⟨by omega,by omega,by unfold Sml;omega⟩,fun _=> ?_⟩
 refine Lp2.ind (fun (r:List Val) (i:Int)=>0<=i/\i<=e.4.length/\r=e.4.take i.toNat) (fun _ (i:Int)=>(e.4.length - i).toNat) ?_ ⟨by omega,by omega,rfl⟩
 rintro r i ⟨i0,i1,rfl⟩
 refine Cnd.mk (fun hc=>⟨by omega,fun y hy=>q9v (by have:=j89 (getm hy);omega) ⟨?_,by unfold InI;omega,⟨by omega,by omega,?_⟩,by omega⟩⟩) fun hc _=>⟨⟨by omega,by omega,by unfold Sml;omega⟩,fun _=> ?_⟩
 ·unfold Sml;simp only[List.length_append,List.length_take,List.length_cons,List.length_nil];omega
 ·rw[show (i+1).toNat=i.toNat+1 by omega,List.take_add_one,hy];rfl
 rw[List.take_of_length_le (by omega)]
 refine Lp2.ind (fun (r:List Ex) (i:Int)=>0<=i/\i<=e.5.length/\r=e.5.take i.toNat) (fun _ (i:Int)=>(e.5.length - i).toNat) ?_ ⟨by omega,by omega,rfl⟩
 rintro r i ⟨i0,i1,rfl⟩
 refine Cnd.mk (fun hc=>⟨by omega,fun y hy=> ?_⟩) fun hc=> ?_
 ·have hkid:=z62 (getm hy)
  dsimp only;rw[V9]
  refine ih (by omega) (by omega) ?_
  rw[V9]
  refine⟨?_,by unfold InI;omega,⟨by omega,by omega,?_⟩,by omega⟩
  ·unfold Sml;simp only[List.length_append,List.length_take,List.length_cons,List.length_nil];omega
  ·rw[show (i+1).toNat=i.toNat+1 by omega,List.take_add_one,hy];rfl
 ·rw[List.take_of_length_le (by omega)]
  cases e;exact h
def nms(e:Ex):List ByteArray:=((subs e).filter fun a=>decide (a.1=5)).map Ex.name
theorem z5s{e:Ex}{x:ByteArray}:x∈nms e↔ ∃a∈subs e,a.1=5/\a.3=x:=by
 unfold nms
 simp only[List.mem_map,List.mem_filter,decide_eq_true_eq]
 exact⟨fun ⟨a,⟨h1,h2⟩,h3⟩=>⟨a,h1,h2,h3⟩,fun ⟨a,h1,h2,h3⟩=>⟨a,⟨h1,h2⟩,h3⟩⟩
theorem z63(e:Ex)(x:ByteArray):x∈nms e↔(e.1=5/\e.3=x)∨ ∃k∈e.5,x∈nms k:=by
 rw[z5s,B9]
 constructor
 ·rintro⟨a,ha,h⟩
  rcases List.mem_cons.1 ha with rfl|ha
  ·exact .inl h
  ·obtain⟨k,hk,ha⟩:=Hm.1 ha
   exact .inr ⟨k,hk,z5s.2 ⟨a,ha,h⟩⟩
 ·rintro (h|⟨k,hk,h⟩)
  ·exact⟨e,List.mem_cons_self,h⟩
  ·obtain⟨a,ha,h⟩:=z5s.1 h
   exact⟨a,List.mem_cons_of_mem _ (Hm.2 ⟨k,hk,ha⟩),h⟩
end Go.En
end
noncomputable section
set_option maxRecDepth 100000
namespace Go.En
open Go Go.Fl Go.Fl.Lk Go.Fx Go.Sg
structure ClE(segs:List ByteArray)(Q:Nat->Ex->Prop):Prop where
 hT: ∀k,Q k (Ex.mk 1 (ByteArray.mk (Array.mk [])) (ByteArray.mk (Array.mk [])) [] [])
 hS: ∀k b,b∈segs->Q k (Ex.mk 5 (ByteArray.mk (Array.mk [])) b [] [])
 ht: ∀k e,ExS 0 e->6<=e.1/\e.1<=15->Q k e
 hN: ∀k e,Q k e->Q (k+1) (Ex.mk 4 (ByteArray.mk (Array.mk [])) (ByteArray.mk (Array.mk [])) [] [e])
 hA: ∀k op l,op=2∨op=3->l.length<=3->l≠[]->(∀e∈l,Q k e∨ ∃e',Q k e'/\e=Ex.mk 4 (ByteArray.mk (Array.mk [])) (ByteArray.mk (Array.mk [])) [] [e'])->Q (k+1) (Ex.mk op (ByteArray.mk (Array.mk [])) (ByteArray.mk (Array.mk [])) [] l)
theorem ClE.and{segs:List ByteArray}{Q R:Nat->Ex->Prop}(a:ClE segs Q)(b:ClE segs R):ClE segs fun k e=>Q k e/\R k e:=
 ⟨fun k=>⟨a.hT k,b.hT k⟩,fun k x hx=>⟨a.hS k x hx,b.hS k x hx⟩,fun k e h1 h2=>⟨a.ht k e h1 h2,b.ht k e h1 h2⟩,fun k e h=>⟨a.hN k e h.1,b.hN k e h.2⟩,
  fun k op l h1 h2 h3 h=>⟨a.hA k op l h1 h2 h3 fun e he=>(h e he).imp (·.1) fun ⟨e',h,h'⟩=>⟨e',h.1,h'⟩,b.hA k op l h1 h2 h3 fun e he=>(h e he).imp (·.2) fun ⟨e',h,h'⟩=>⟨e',h.2,h'⟩⟩⟩
theorem z76{list:List Int}{segs:List ByteArray}{Q:Nat->Ex->Prop}(c:ClE segs Q):
  ∀(k:Nat) {at_ levels:Int} {K:Ex->Int->Prop},k<=100->levels<=k+1->1<=levels->DS list at_->(∀r a,Q k r->DS list a->K r a)->q4w list at_ segs levels K:=by
 obtain⟨hT,hS,ht,hN,hA⟩:=c
 intro k at_ levels K hk0 hk hl hD h X hX
 induction k generalizing at_ levels K with
 |zero=>
  refine hX _ _ _ _ _ ?_
  unfold q7r
  refine Z6 hD (by decide) fun r a r0 r1 hD=>Jn1.mk (fun x=>0<=x/\x<=3) (Cnd.mk (fun _=>Cnd.mk (fun _=>⟨by unfold InI;omega,by omega,by omega⟩) fun _=>⟨by omega,by omega⟩) fun _=>by omega) fun x hx=> ?_
  have t:=z4b (K:=fun r a=>K (Ex.mk r.1 r.2 r.3 r.4 r.5) a) hD fun r a hr h6 hD=>h _ a (by rw[V9];exact ht 0 r hr h6) hD
  refine Cnd.mk (fun _=>h _ _ (hT 0) hD) fun _=>Cnd.mk (fun _ _=>Cnd.mk (fun hc _=> ?_) fun _=>t) fun _=>Cnd.mk (fun hc=>by omega) fun _=> ?_
  ·exact Z6 hD (by omega) fun r a r0 r1 hD=>⟨⟨r0,r1⟩,fun y hy=>h _ _ (hS 0 y (getm hy)) hD⟩
  ·exact Jn1.mk (fun x=>x=false) (Cnd.mk (fun hc=>by omega) fun _=>decide_eq_false (by omega)) fun x hx=>Cnd.mk (fun hc=>by rw[hx] at hc;cases hc) fun _=>t
 |succ k ih=>
  refine hX _ _ _ _ _ ?_
  unfold q7r
  have go: ∀{at_:Int} {K:Ex->Int->Prop},1<=levels - 1->DS list at_->(∀r a,Q k r->DS list a->K r a)->X list at_ segs (levels - 1) K:=fun h1 hD hK=>ih (by omega) (by omega) h1 hD hK
  refine Z6 hD (by decide) fun r a r0 r1 hD=>Jn1.mk (fun x=>0<=x/\x<=7/\(levels<=1->x<=3)) (Cnd.mk (fun _=>Cnd.mk (fun _=>⟨by unfold InI;omega,by omega,by omega,by omega⟩) fun _=>⟨by omega,by omega,by omega⟩) fun _=>by omega) fun x hx=> ?_
  have t:=z4b (K:=fun r a=>K (Ex.mk r.1 r.2 r.3 r.4 r.5) a) hD fun r a hr h6 hD=>h _ a (by rw[V9];exact ht _ r hr h6) hD
  refine Cnd.mk (fun _=>h _ _ (hT _) hD) fun _=>Cnd.mk (fun _ _=>Cnd.mk (fun hc _=> ?_) fun _=>t) fun _=>Cnd.mk (fun hc=> ?_) fun _=> ?_
  ·exact Z6 hD (by omega) fun r a r0 r1 hD=>⟨⟨r0,r1⟩,fun y hy=>h _ _ (hS _ y (getm hy)) hD⟩
  ·refine⟨by unfold InI;omega,go (by omega) hD fun e a he hD=>h _ _ ?_ hD⟩
   rw[V9];exact hN k e he
  refine Jn1.mk (fun y=>y=true->2<=levels) (Cnd.mk (fun hc _=>by omega) fun _ hc=>by have:=of_decide_eq_true hc;omega) fun y hy=>Cnd.mk (fun hc=> ?_) fun _=>t
  have hy:=hy hc
  refine Z6 hD (by decide) fun r a r0 r1 hD=>⟨by unfold InI;omega,Z6 hD (by decide) fun q a q0 q1 hD=>⟨by unfold InI;omega,?_⟩⟩
  refine LpH.ind (fun x=>0<=x.1/\x.1<=2+q/\DS list x.2.1/\x.2.2=(2+r,ByteArray.mk (Array.mk []),ByteArray.mk (Array.mk []),[],x.2.2.2.2.2.2.1,())/\(x.2.2.2.2.2.2.1.length:Int)=x.1/\ ∀e∈x.2.2.2.2.2.2.1,Q k e∨ ∃e',Q k e'/\e=Ex.mk 4 (ByteArray.mk (Array.mk [])) (ByteArray.mk (Array.mk [])) [] [e']) (fun x=>(3 - x.1).toNat) ?_ ⟨Int.le_refl 0,by simp only;omega,hD,rfl,rfl,by simp⟩
  rintro⟨i,a,x⟩ ⟨i0,i1,hD,hx,hl,he⟩
  simp only at i0 i1 hD hx hl he
  generalize x.2.2.2.2.1=l at*
  subst hx
  simp only at hl he⊢
  refine Cnd.mk (fun hc=>⟨by unfold InI;omega,go (by omega) hD fun e a hk hD=> ?_⟩) fun hc=>h _ _ (hA k (2+r) l (by omega) (by omega) (fun e=>by rw[e] at hl;simp at hl;omega) he) hD
  refine Jn1.mk (fun z=>(fun e=>Q k e∨ ∃e',Q k e'/\e=Ex.mk 4 (ByteArray.mk (Array.mk [])) (ByteArray.mk (Array.mk [])) [] [e']) (Ex.mk z.1 z.2.1 z.2.2.1 z.2.2.2.1 z.2.2.2.2.1)) (Cnd.mk (fun _=> .inr ⟨e,hk,by simp only;rw[V9]⟩) fun _=> .inl (by simp only;rw[V9];exact hk)) fun z hz=> ?_
  exact⟨by unfold Sml;simp;omega,by unfold InI;omega,⟨by omega,by omega,hD,trivial,by simp;omega,z6v he hz⟩,by omega⟩
structure DrE(segs:List ByteArray)(w:Nat)(e:Ex):Prop where
 wt:wt e<=w
 nms: ∀x∈nms e,x∈segs
 ev:EvB e
theorem EvB.mk'{e:Ex}(h: ∀w∈e.4,ValB w)(hk: ∀k∈e.5,EvB k):EvB e:=fun a ha=>by
 rw[B9] at ha
 rcases List.mem_cons.1 ha with rfl|ha
 ·exact h
 ·obtain⟨k,hk',ha⟩:=Hm.1 ha
  exact hk k hk' a ha
theorem j9a{l:List Val}{b:Nat}(h: ∀v∈l,v.4.length<=b):wtV l<=l.length*(1+b):=by
 induction l with
 |nil=>simp[wtV]
 |cons v l ih=>
  have h1:=h v List.mem_cons_self
  have h2:=ih fun v hv=>h v (List.mem_cons_of_mem _ hv)
  simp only[wtV,List.length_cons,Nat.add_mul,Nat.one_mul] at*
  omega
theorem j9b{l:List Ex}{b:Nat}(h: ∀e∈l,wt e<=b):wtL l<=l.length*b:=by
 induction l with
 |nil=>simp[wtL]
 |cons v l ih=>
  have h1:=h v List.mem_cons_self
  have h2:=ih fun v hv=>h v (List.mem_cons_of_mem _ hv)
  simp only[wtL,List.length_cons,Nat.add_mul,Nat.one_mul] at*
  omega
def lvl:Nat->Nat
 |0=>45
 |k+1=>4+3*lvl k
theorem j1d(k:Nat):45<=lvl k:=by
 induction k with
 |zero=>exact Nat.le_refl _
 |succ k ih=>simp only[lvl];omega
theorem j9c{segs:List ByteArray}:ClE segs fun k e=>DrE segs (lvl k) e:=by
 have leaf: ∀{e:Ex} {x:ByteArray},e.5=[]->x∈nms e->e.1=5/\e.3=x:=fun {e x} h5 hx=>by
  rw[z63,h5] at hx
  exact hx.elim id fun ⟨k,hk,_⟩=>by simp at hk
 refine⟨fun k=>⟨?_,fun x hx=> ?_,EvB.mk' (by simp) (by simp)⟩,fun k b hb=>⟨?_,fun x hx=> ?_,EvB.mk' (by simp) (by simp)⟩,fun k e he h6=>⟨?_,fun x hx=> ?_,EvB.mk' (fun w hw=> ?_) (by rw[he.2.2.2];simp)⟩,fun k e he=>⟨?_,fun x hx=> ?_,EvB.mk' (by simp) (by simpa using he.ev)⟩,fun k op l hop h3 hne he=>⟨?_,fun x hx=> ?_,EvB.mk' (by simp) fun e hm=> ?_⟩⟩
 ·have:=j1d k;simp only[wt,wtV,wtL];omega
 ·have:=(leaf rfl hx).1;simp at this
 ·have:=j1d k;simp only[wt,wtV,wtL];omega
 ·rw[←(leaf rfl hx).2];exact hb
 ·have h1:=j1d k
  have h2:=j9a (l:=e.4) (b:=10) fun v hv=>(he.vals.all v hv).len
  have h3:=he.vals.len
  rw[z14,he.2.2.2]
  simp only[wtL];omega
 ·have:=(leaf he.2.2.2 hx).1;omega
 ·exact⟨Nat.le_trans (he.vals.all w hw).txt (by decide),Nat.le_trans (he.vals.all w hw).len (by decide)⟩
 ·have:=he.wt;simp only[wt,wtV,wtL,lvl];omega
 ·rw[z63] at hx
  rcases hx with hx|⟨k,hk,hx⟩
  ·simp at hx
  ·have:k=e:=by simpa using hk
   rw[this] at hx;exact he.nms x hx
 ·rw[z14]
  have:wtL l<=l.length*(1+lvl k):=j9b fun e hm=>by
   rcases he e hm with h|⟨e',h,rfl⟩
   ·have:=h.wt;omega
   ·have:=h.wt;simp only[wt,wtV,wtL];omega
  have h4:l.length*(1+lvl k)<=3*(1+lvl k):=Nat.mul_le_mul_right _ h3
  simp only[wtV,lvl];omega
 ·rw[z63] at hx
  rcases hx with hx|⟨q,hq,hx⟩
  ·simp only at hx;omega
  ·rcases he q hq with h|⟨e',h,rfl⟩
   ·exact h.nms x hx
   ·rw[z63] at hx
    rcases hx with hx|⟨k,hk,hx⟩
    ·simp at hx
    ·have:k=e':=by simpa using hk
     rw[this] at hx;exact h.nms x hx
 ·rcases he e hm with h|⟨e',h,rfl⟩
  ·exact h.ev
  ·exact EvB.mk' (by simp) (by simpa using h.ev)
theorem j1e{segs:List ByteArray}(hs: ∀s∈segs,s.size<=100):ClE segs fun k e=>ExS (2*k) e:=
 ⟨fun k=>ExS.le (n:=0) ⟨.nil,⟨sz0,sz0⟩,opl (by simp),rfl⟩ (by omega),fun k b hb=>ExS.le (n:=0) ⟨.nil,⟨hs _ hb,sz0⟩,opl (by simp),rfl⟩ (by omega),fun k e he _=>he.le (by omega),fun k e he=>(j86 he sz0 sz0).le (by omega),
  fun k op l hop h3 hne he=>⟨.nil,⟨sz0,sz0⟩,⟨InI.mk (by simp only;omega) (by simp only;omega),fun _ _=>hne⟩,h3,fun e hm=>by
   rcases he e hm with h|⟨e',h,rfl⟩
   ·exact h.up
   ·exact j86 h sz0 sz0⟩⟩
def Byts(l:List Int):Prop:= ∀x∈l,0<=x/\x<256
theorem j3y{l:List Int}{most:Int}{K:List Int->Int->Prop}(hb:Byts l)(h0:0<=most)(h1:most<=1000)(h: ∀r,DS r 0->K r 0):z08 l most K:=by
 unfold z08
 refine Jn1.mk (fun r=>DS r 0) ?_ h
 refine fun _=>Cnd.mk (fun hc=>⟨by omega,?_⟩) fun hc=>⟨by omega,by omega,by omega,hb⟩
 rw[show List.drop (Int.toNat 0) (List.take most.toNat l)=l.take most.toNat from rfl]
 exact⟨by rw[List.length_take];omega,by omega,by omega,fun x hx=>hb x (List.mem_of_mem_take hx)⟩
end Go.En
end
noncomputable section
set_option maxRecDepth 100000
namespace Go.En
open Go Go.Fl Go.Fl.Lk Go.Fx Go.Dg
def WfX(e:Ex):Prop:= ∀a∈subs e,1<=a.1/\a.1<=15/\(a.1=1∨5<=a.1->a.5=[])
theorem WfX.self{e:Ex}(h:WfX e):1<=e.1/\e.1<=15/\(e.1=1∨5<=e.1->e.5=[]):=h e (by rw[B9];exact List.mem_cons_self)
theorem WfX.kid{e k:Ex}(h:WfX e)(hk:k∈e.5):WfX k:=fun a ha=>h a (by rw[B9];exact List.mem_cons_of_mem _ (Hm.2 ⟨k,hk,ha⟩))
theorem WfX.mk'{e:Ex}(h:1<=e.1/\e.1<=15/\(e.1=1∨5<=e.1->e.5=[]))(hk: ∀k∈e.5,WfX k):WfX e:=fun a ha=>by
 rw[B9] at ha
 rcases List.mem_cons.1 ha with rfl|ha
 ·exact h
 ·obtain⟨k,hk',ha⟩:=Hm.1 ha
  exact hk k hk' a ha
def CC:Nat->Nat
 |0=>1
 |k+1=>3*(CC k+2 ^ (3 ^ k))+3*2 ^ (3 ^ (k+1))
theorem j9d(k:Nat):1<=CC k:=by
 cases k with
 |zero=>exact Nat.le_refl _
 |succ k=>have:=Nat.two_pow_pos (3 ^ (k+1));unfold CC;omega
theorem CC2:CC 2=1659:=by decide
structure DrC(k:Nat)(e:Ex):Prop where
 w:WfX e
 n:(lvE e).length<=3 ^ k
 c:cst e<=CC k
theorem z64{m:Nat}{l:List Ex}(h: ∀e∈l,(lvE e).length<=m):(lvEL l).length<=l.length*m:=by
 induction l with
 |nil=>simp[lvEL]
 |cons a l ih=>
  have h1:=h a List.mem_cons_self
  have h2:=ih fun e he=>h e (List.mem_cons_of_mem _ he)
  simp only[lvEL,List.length_append,List.length_cons,Nat.add_mul,Nat.one_mul];omega
theorem j7k{m:Nat}{l:List Ex}(h: ∀e∈l,cst e<=m):cstL l<=l.length*m:=by
 induction l with
 |nil=>simp[cstL]
 |cons a l ih=>
  have h1:=h a List.mem_cons_self
  have h2:=ih fun e he=>h e (List.mem_cons_of_mem _ he)
  simp only[cstL,List.length_cons,Nat.add_mul,Nat.one_mul];omega
theorem z65{k:Nat}{e:Ex}(h0:e.5=[])(h1:5<=e.1)(h2:e.1<=15):DrC k e where
 w:=WfX.mk' ⟨by omega,h2,fun _=>h0⟩ fun x hx=>by rw[h0] at hx;cases hx
 n:=by
  rw[R7,if_neg (by omega),if_neg (by omega)]
  exact Nat.one_le_pow _ _ (by decide)
 c:=by
  rw[q85,if_neg (by omega),if_neg (by omega)]
  exact j9d k
theorem j1f{k:Nat}{e:Ex}(h:DrC k e):WfX (Ex.mk 4 (ByteArray.mk (Array.mk [])) (ByteArray.mk (Array.mk [])) [] [e])/\(lvE (Ex.mk 4 (ByteArray.mk (Array.mk [])) (ByteArray.mk (Array.mk [])) [] [e])).length<=3 ^ k/\cst (Ex.mk 4 (ByteArray.mk (Array.mk [])) (ByteArray.mk (Array.mk [])) [] [e])<=CC k+2 ^ (3 ^ k):=by
 have hn:=h.n
 have hc:=h.c
 have e1:lvE (Ex.mk 4 (ByteArray.mk (Array.mk [])) (ByteArray.mk (Array.mk [])) [] [e])=lvE e:=by rw[R7];simp[lvEL]
 have e2:cst (Ex.mk 4 (ByteArray.mk (Array.mk [])) (ByteArray.mk (Array.mk [])) [] [e])=cst e+1*2 ^ (lvE e).length:=by rw[q85];simp[lvEL,cstL]
 have:=q60 hn
 refine⟨WfX.mk' ⟨by show (1:Int)<=4;decide,by show (4:Int)<=15;decide,fun o=>o.elim (fun e=>absurd e (by show ¬(4:Int)=1;decide)) fun e=>absurd e (by show ¬(5:Int)<=4;decide)⟩ fun x hx=> ?_,by rw[e1];exact hn,by rw[e2];omega⟩
 rw[List.mem_singleton.1 hx];exact h.w
theorem j9e{segs:List ByteArray}:ClE segs DrC where
 hT k:=⟨WfX.mk' ⟨by show (1:Int)<=1;decide,by show (1:Int)<=15;decide,fun _=>rfl⟩ fun x hx=>(by cases hx),by rw[R7,if_pos rfl];exact Nat.zero_le _,by rw[q85,if_pos rfl];exact Nat.zero_le _⟩
 hS k b _:=z65 rfl (by show (5:Int)<=5;decide) (by show (5:Int)<=15;decide)
 ht k e h h6:=z65 h.2.2.2 (by omega) h6.2
 hN k e h:=by
  obtain⟨a,b,c⟩:=j1f h
  have h3:3 ^ k<=3 ^ (k+1):=Nat.pow_le_pow_right (by decide) (by omega)
  exact⟨a,Nat.le_trans b h3,Nat.le_trans c (by show _<=3*(CC k+2 ^ (3 ^ k))+3*2 ^ (3 ^ (k+1));omega)⟩
 hA k op l ho hl hne h:=by
  have hh: ∀e∈l,WfX e/\(lvE e).length<=3 ^ k/\cst e<=CC k+2 ^ (3 ^ k):=fun e he=>by
   rcases h e he with h|⟨e',h,rfl⟩
   ·exact⟨h.w,h.n,Nat.le_trans h.c (Nat.le_add_right _ _)⟩
   ·exact j1f h
  have n1:=z64 fun e he=>(hh e he).2.1
  have c1:=j7k fun e he=>(hh e he).2.2
  have m1:l.length*3 ^ k<=3*3 ^ k:=Nat.mul_le_mul_right _ hl
  have m2:l.length*(CC k+2 ^ (3 ^ k))<=3*(CC k+2 ^ (3 ^ k)):=Nat.mul_le_mul_right _ hl
  have p1:3 ^ (k+1)=3*3 ^ k:=by rw[Nat.pow_succ,Nat.mul_comm]
  have n2:(lvEL l).length<=3 ^ (k+1):=by omega
  have m3:l.length*2 ^ (lvEL l).length<=3*2 ^ (3 ^ (k+1)):=Nat.mul_le_mul hl (q60 n2)
  have o1: ¬op=1:=by omega
  have o2:op=2∨op=3∨op=4:=by omega
  refine⟨WfX.mk' ⟨by show 1<=op;omega,by show op<=15;omega,fun o=>by (have o:op=1∨5<=op:=o);omega⟩ fun x hx=>(hh x hx).1,?_,?_⟩
  ·rw[R7,if_neg o1,if_pos o2];exact n2
  ·rw[q85,if_neg o1,if_pos o2]
   show cstL l+l.length*2 ^ (lvEL l).length<=3*(CC k+2 ^ (3 ^ k))+3*2 ^ (3 ^ (k+1))
   omega
theorem z17(l m:List Ex):lvEL (l++m)=lvEL l++lvEL m:=by
 induction l with
 |nil=>simp[lvEL]
 |cons k l ih=>simp[lvEL,ih]
end Go.En
end
noncomputable section
set_option maxRecDepth 100000
namespace Go.En
open Go Go.Fl Go.Fl.Lk Go.Fx Go.Dg
def Hol(ms:List Nd)(F:(Int->Bool)->Int):Prop:= ∃j,Ok ms j/\ ∀v,ev ms v j=F v
theorem Hol.cof{ms:List Nd}{F G:(Int->Bool)->Int}(h:Hol ms F)(hN:Nod ms)(hc:Cof F G):Hol ms G:=by
 obtain⟨j,ok,e⟩:=h
 obtain⟨t,p,hg⟩:=hc
 exact Cof.node hN ok ⟨t,p,fun v=>by rw[hg];exact (e _).symm⟩
end Go.En
end
noncomputable section
set_option maxRecDepth 100000
namespace Go.En
open Go Go.Fl Go.Fl.Lk Go.Fx Go.Dg
theorem q1z{ns:List Nd}: ¬Ok ns (-1002):=fun h=>by have:=h.1;omega
def WfN(e:Ex):Prop:= ∀a∈subs e,a.1=4->a.5.length=1
theorem WfN.self{e:Ex}(h:WfN e):e.1=4->e.5.length=1:=h e (by rw[B9];exact List.mem_cons_self)
theorem WfN.kid{e k:Ex}(h:WfN e)(hk:k∈e.5):WfN k:=fun a ha=>h a (by rw[B9];exact List.mem_cons_of_mem _ (Hm.2 ⟨k,hk,ha⟩))
theorem WfN.mk'{e:Ex}(h:e.1=4->e.5.length=1)(hk: ∀k∈e.5,WfN k):WfN e:=fun a ha=>by
 rw[B9] at ha
 rcases List.mem_cons.1 ha with rfl|ha
 ·exact h
 ·obtain⟨k,hk',ha⟩:=Hm.1 ha
  exact hk k hk' a ha
theorem j9f{segs:List ByteArray}:ClE segs fun _ e=>WfN e where
 hT k:=WfN.mk' (fun h=>absurd h (by show ¬(1:Int)=4;decide)) fun x hx=>by cases hx
 hS k b _:=WfN.mk' (fun h=>absurd h (by show ¬(5:Int)=4;decide)) fun x hx=>by cases hx
 ht k e h h6:=WfN.mk' (fun h4=>by omega) fun x hx=>by
  have h0:e.5=[]:=h.2.2.2
  rw[h0] at hx;cases hx
 hN k e h:=WfN.mk' (fun _=>rfl) fun x hx=>by rw[List.mem_singleton.1 hx];exact h
 hA k op l ho hl hne h:=WfN.mk' (fun h4=>by (have h4:op=4:=h4);omega) fun x hx=>by
  rcases h x hx with h|⟨e',h,rfl⟩
  ·exact h
  ·exact WfN.mk' (fun _=>rfl) fun x hx=>by rw[List.mem_singleton.1 hx];exact h
end Go.En
end
noncomputable section
set_option maxRecDepth 100000
namespace Go.En
open Go Go.Fl Go.Fl.Lk Go.Fx Go.Dg
def semI(ats:List Ex)(a:Ex)(v:Int->Bool):Int:=if sem ats a v=true then 1 else 0
def HolS(ats:List Ex)(ms:List Nd)(e:Ex):Prop:= ∀a∈subs e,Hol ms (semI ats a)
end Go.En
end
noncomputable section
set_option maxRecDepth 100000
namespace Go.En
open Go Go.Fl Go.Fl.Lk Go.Fx Go.Dg
def anyv(ats:List Ex)(l:List Rul)(v:Int->Bool):Bool:=l.any fun r=>sem ats r.2 v
def anyI(ats:List Ex)(l:List Rul)(v:Int->Bool):Int:=if anyv ats l v=true then 1 else 0
theorem j1g(ats:List Ex)(l:List Rul)(r:Rul)(v:Int->Bool):anyv ats (l++[r]) v=(anyv ats l v||sem ats r.2 v):=by
 unfold anyv;rw[List.any_append];simp
def Unr(ats:List Ex)(l:List Rul)(i:Nat):Prop:= ∀r,l[i]? =some r-> ∀v,sem ats r.2 v=true->anyv ats (l.take i) v=true
open Classical in
def unr(ats:List Ex)(l:List Rul)(k:Nat):List Int:=((List.range k).filter fun i=>decide (Unr ats l i)).map fun i:Nat=>((i:Nat):Int)+1
theorem j1h{ats:List Ex}{l:List Rul}{k:Nat}(h:Unr ats l k):unr ats l (k+1)=unr ats l k++[(k:Int)+1]:=by
 classical
 unfold unr
 rw[List.range_succ,List.filter_append,List.map_append,List.filter_cons_of_pos (by simpa using h)];rfl
theorem j4u{ats:List Ex}{l:List Rul}{k:Nat}(h: ¬Unr ats l k):unr ats l (k+1)=unr ats l k:=by
 classical
 unfold unr
 rw[List.range_succ,List.filter_append,List.map_append,List.filter_cons_of_neg (by simpa using h)];simp
theorem z66(ats:List Ex)(l:List Rul):unr ats l 0=[]:=by
 unfold unr;rfl
theorem j7l(ats:List Ex)(l:List Rul)(k:Nat):(unr ats l k).length<=k:=by
 classical
 unfold unr
 rw[List.length_map]
 exact Nat.le_trans (List.length_filter_le _ _) (by rw[List.length_range];exact Nat.le_refl _)
theorem j7m{ats:List Ex}{l:List Rul}{k:Nat}{y:Rul}(hy:l[k]? =some y){ns:List Nd}(hN:Nod ns){S:List Int}{a b:Int}(da:Dgm ns (anyv ats (l.take k)) S a)(db:Dgm ns (fun v=>anyv ats (l.take k) v||sem ats y.2 v) S b):b=a↔Unr ats l k:=by
 constructor
 ·rintro rfl r hr v hv
  rw[hy] at hr;cases hr
  have h1:=da.ev v
  rw[db.ev v] at h1
  rw[hv,Bool.or_true,if_pos rfl] at h1
  by_cases h2:anyv ats (l.take k) v=true
  ·exact h2
  ·rw[if_neg h2] at h1;cases h1
 ·intro hu
  refine j84 hN db.ok da.ok fun v=> ?_
  rw[da.ev,db.ev]
  have e:(anyv ats (l.take k) v||sem ats y.2 v)=anyv ats (l.take k) v:=by
   cases h1:sem ats y.2 v with
   |false=>rw[Bool.or_false]
   |true=>rw[hu y hy v h1];rfl
  rw[e]
end Go.En
end
