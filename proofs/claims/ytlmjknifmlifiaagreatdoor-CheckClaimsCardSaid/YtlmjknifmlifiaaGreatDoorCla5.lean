/- CheckClaims This is part 5 of 11. Conditions: those in the statements. -/
import Derived.Test.YtlmjknifmlifiaaGreatDoorProg
import Derived.Test.YtlmjknifmlifiaaGreatDoorCla4
import Derived.KernelRfl
import Derived.Conc.MuLone
import Derived.RangeFuncMany
import Derived.Sort.MapsRangeIn
import Derived.WalkKit
import Derived.OwnWalkIn
import Derived.TacticsInMore
import Derived.RegionIn
import Derived.LoopNIn
import Derived.LoopIn
import Derived.RangeFuncLeaves
import Derived.Shelf.SlIter.Collect
import Derived.Sort.OwnSortedInts
import GoSem.Core.Utf8
import Derived.Lib.ValidU
set_option maxRecDepth 100000
noncomputable section
namespace Go.Proofs.YtlmjknifmlifiaaGreatDoor
open Go Go.Proofs Go.RowKit Go.Fl
theorem _root_.Go.Fl.St.freezeM{c:Cx}{w:World}{σ:Hv}{ms ms':List HObj}(h:St c w σ ms){i:Nat}{o:HObj}(hi:ms[i]? =some o){j:Nat}{o2:HObj}(_:ms[j]? =some o2)(_:j≠i)(_:c.M=o2.foot.toList)
  (hms:ms.eraseIdx i=ms'): ∃σ1,St c w σ1 ms'/\Go.Fl.Sub σ σ1/\∀k,o.foot=some k->σ1 k=w.heap[k]? :=h.freeze' hi hms
theorem _root_.Go.Fl.St.freeze{c:Cx}{w:World}{σ:Hv}{ms ms':List HObj}(h:St c w σ ms){i:Nat}{o:HObj}(hi:ms[i]? =some o)(_:c.M=[])
  (hms:ms.eraseIdx i=ms'): ∃σ1,St c w σ1 ms'/\Go.Fl.Sub σ σ1/\∀k,o.foot=some k->σ1 k=w.heap[k]? :=h.freeze' hi hms
theorem y04:w8d zB 10000 (w03 Tryz.t236.zero)=true:=by kernel_rfl
theorem u0s:w8d zI 10001 (w03 Tryz.t285.zero)=true:=by kernel_rfl
theorem c_of{σ:Hv}{w:World}(v:Value)(ls:List (List (Int×Int)))(hV:View σ w)(hv:RSl 1 (RSs 2 (REnc z2e)) σ v ls)(hn:ls.flatten.length<=1152921504606846976):
  Calls Tryz.prog 177 #[v] w fun e w1=>e= .returned (.agg (brow 10000 (Sp.cov ls.flatten)).toArray)/\Grow [] σ w σ w1:=by
 refine enter Tryz.func177 rfl rfl rfl ?_;obtain⟨a,cap,rfl,h1,h2,hel⟩:=hv;have hS:=St.start hV;refine Qz ?_;refine z84 (cs:=brow 10000 (fun i=>false)) hS (j0i Tryz.type236 (z61 v9p y04) (by omega)) (by simp[Value.cells,j0j]) ?_;intro b1 w1 hS1;refine wpList_nil ?_;refine Qp ?_;refine Qz ?_;refine z84 (cs:=irow 10001 (fun i=>0)) hS1 (j0i Tryz.type285 (z61 y90 u0s) (by omega)) (by simp[Value.cells,v45]) ?_;intro b2 w2 hS2;refine wpList_nil ?_;refine Qp ?_;refine wp_seq ?_;refine Qz ?_;refine Qv (v:=(.slice a ls.length cap)) rfl ?_;refine q73 rfl Tryz.underlying284 ?_;refine Qv (v:=(.int .i64 (0:Int))) rfl ?_;refine wpList_nil ?_;refine Qp ?_;refine wp_block ?_;refine loop (fun m f z=> ∃(k1:Nat) (g:Fr),m=ls.length - k1/\f=(upd (upd (upd (upd (upd g 2 (.pointer (some ⟨b1,0,none⟩))) 3 (.pointer (some ⟨b2,0,none⟩))) 13 (.slice a ls.length cap)) 14 (.int .i64 ((ls.length:Nat):Int))) 15 (.int .i64 ((k1:Nat):Int)))/\St ⟨w,σ,[]⟩ z σ [blk b2 285 (irow 10001 (Sp.dep ((ls.take k1).flatten))),blk b1 236 (brow 10000 (fun i=>false))]/\(k1<=ls.length)) (m0:=_) ⟨0,_,rfl,(Qq rfl (Qq rfl (Qq rfl (Qq rfl (Qq rfl rfl))))),hS2,(Nat.zero_le _)⟩ ?_;rintro _ _ w3 ⟨k1,g,rfl,rfl,hS3,hk1⟩;refine Qz ?_;refine w45 (r:=(decide (((k1:Nat):Int)<((ls.length:Nat):Int)))) rfl rfl rfl ?_;refine wpList_nil ?_;refine Qp ?_;refine wp_seq ?_;refine if_d (((k1:Nat):Int)<((ls.length:Nat):Int)) rfl (fun ht1=> ?_) (fun ht1=> ?_)
 .refine wp_skip ?_;refine Qp ?_;refine wp_seq ?_;refine wp_block ?_;refine Qz ?_;obtain⟨x1,hx1⟩:=getq (l:=ls) (k:=k1) (by omega);obtain⟨ad1,cs1,ha1,hl1,hr1,hR1⟩:=hel k1 _ hx1;obtain⟨v1,rfl,a1,cap1,rfl,h2,h3,hel1⟩:=hR1;refine Up (k:=k1) (a':=(ad1.add (k1*1))) (congrArg (fun z=>Value.slice z _ _) ha1) rfl (by omega) (Qj hx1) Tryz.underlying284 Tryz.sizeOf63 rfl ?_;refine q74 (v:=(.slice a1 x1.length cap1)) rfl Tryz.isAgg63 (hr1.cell hS3.view 0 rfl rfl) ?_;refine Q8 (v:=(.slice a1 x1.length cap1)) rfl ?_;refine wpList_nil ?_;refine Qp ?_;refine Qz ?_;refine Qv (v:=(.slice a1 x1.length cap1)) rfl ?_;refine q73 rfl Tryz.underlying63 ?_;refine Qv (v:=(.int .i64 (0:Int))) rfl ?_;refine wpList_nil ?_;refine Qp ?_;refine wp_block ?_;refine loop (fun m f z=> ∃(k2:Nat) (g:Fr),m=x1.length - k2/\f=(upd (upd (upd (upd (upd (upd (upd (upd g 2 (.pointer (some ⟨b1,0,none⟩))) 3 (.pointer (some ⟨b2,0,none⟩))) 13 (.slice a ls.length cap)) 14 (.int .i64 ((ls.length:Nat):Int))) 15 (.int .i64 ((k1:Nat):Int))) 19 (.slice a1 x1.length cap1)) 20 (.int .i64 ((x1.length:Nat):Int))) 21 (.int .i64 ((k2:Nat):Int)))/\St ⟨w,σ,[]⟩ z σ [blk b2 285 (irow 10001 (Sp.dep ((ls.take k1).flatten++x1.take k2))),blk b1 236 (brow 10000 (fun i=>false))]/\(k2<=x1.length)) (m0:=_) ⟨0,_,rfl,(Qq rfl (Qq rfl (Qq rfl (Qq rfl (Qq rfl (Qq rfl (Qq rfl (Qq rfl rfl)))))))),(by rw[List.take_zero,List.append_nil];exact hS3),(Nat.zero_le _)⟩ ?_;rintro _ _ w4 ⟨k2,g,rfl,rfl,hS4,hk2⟩;refine Qz ?_;refine w45 (r:=(decide (((k2:Nat):Int)<((x1.length:Nat):Int)))) rfl rfl rfl ?_;refine wpList_nil ?_;refine Qp ?_;refine wp_seq ?_;refine if_d (((k2:Nat):Int)<((x1.length:Nat):Int)) rfl (fun ht2=> ?_) (fun ht2=> ?_)
  .refine wp_skip ?_;refine Qp ?_;refine wp_seq ?_;refine wp_block ?_;refine Qz ?_;obtain⟨x2,hx2⟩:=getq (l:=x1) (k:=k2) (by omega);obtain⟨ad2,cs2,ha2,hl2,hr2,hR2⟩:=hel1 k2 _ hx2;cases hR2;refine Up (k:=k2) (a':=(ad2.add (k2*2))) (congrArg (fun z=>Value.slice z _ _) ha2) rfl (by omega) (Qj hx2) Tryz.underlying63 Tryz.sizeOf126 rfl ?_;refine w79 (cs:=[(.int .i64 x2.1),(.int .i64 x2.2)]) rfl Tryz.isAgg126 Tryz.sizeOf126 rfl (hr2.row hS4.view) ?_;refine z84 (cs:=[(.int .i64 (0:Int)),(.int .i64 (0:Int))]) hS4 Tryz.zeroValue126 rfl ?_;intro b3 w5 hS5;refine z4u (T:=126) (vs:=[(.int .i64 x2.1),(.int .i64 x2.2)]) (cs':=[(.int .i64 x2.1),(.int .i64 x2.2)]) (ms':=[blk b3 126 [(.int .i64 x2.1),(.int .i64 x2.2)],blk b2 285 (irow 10001 (Sp.dep ((ls.take k1).flatten++x1.take k2))),blk b1 236 (brow 10000 (fun i=>false))]) (i:=0) hS5 rfl rfl rfl Tryz.sizeOf126 rfl (ones rfl) rfl (Nat.le_of_ble_eq_true rfl) rfl rfl ?_;intro w6 hS6;refine wpList_nil ?_;refine Qp ?_;refine wp_seq ?_;refine y7m (fun z=>St ⟨w,σ,[]⟩ z σ [blk b3 126 [(.int .i64 x2.1),(.int .i64 x2.2)],blk b2 285 (irow 10001 (Sp.dep ((ls.take k1).flatten++x1.take k2))),blk b1 236 (brow 10000 (fun i=>false))]) (by kernel_rfl) rfl rfl ?_;have hS7:=hS6.drew;refine j0l (i:=0) (v:=(.pointer (some ⟨b3,0,none⟩))) (l':= #[true,false,false,false,false,false,false,false]) rfl (by kernel_rfl) (by kernel_rfl) (by kernel_rfl) rfl rfl (fun _ _ _ h=>h) hS7 (fun w hJ K hK=> ?_) ?_
   .refine z83 (a':=⟨b3,0,none⟩) rfl Tryz.underlying126 rfl Tryz.sizeOf3 rfl ?_;exact⟨rfl,hK⟩
   refine j0l (i:=1) (v:=(.int .i64 x2.1)) (l':= #[true,true,false,false,false,false,false,false]) rfl (by kernel_rfl) (by kernel_rfl) (by kernel_rfl) rfl rfl (fun _ _ _ h=>h) hS7 (fun w hJ K hK=> ?_) ?_
   .refine q74 (v:=(.int .i64 x2.1)) rfl Tryz.isAgg3 (hJ.cell (i:=0) rfl rfl) ?_;exact⟨rfl,hK⟩
   refine j0l (i:=2) (v:=(.int .i64 (max x2.1 (0:Int)))) (l':= #[true,true,true,false,false,false,false,false]) rfl (by kernel_rfl) (by kernel_rfl) (by kernel_rfl) rfl rfl (fun _ _ _ h=>h) hS7 (fun w hJ K hK=> ?_) ?_
   .refine y9x (r:=(max x2.1 (0:Int))) rfl rfl rfl ?_;exact⟨rfl,hK⟩
   refine j0l (i:=3) (v:=(.pointer (some ⟨b3,1,none⟩))) (l':= #[true,true,true,true,false,false,false,false]) rfl (by kernel_rfl) (by kernel_rfl) (by kernel_rfl) rfl rfl (fun _ _ _ h=>h) hS7 (fun w hJ K hK=> ?_) ?_
   .refine z83 (a':=⟨b3,1,none⟩) rfl Tryz.underlying126 rfl Tryz.sizeOf3 rfl ?_;exact⟨rfl,hK⟩
   refine j0l (i:=4) (v:=(.int .i64 x2.2)) (l':= #[true,true,true,true,true,false,false,false]) rfl (by kernel_rfl) (by kernel_rfl) (by kernel_rfl) rfl rfl (fun _ _ _ h=>h) hS7 (fun w hJ K hK=> ?_) ?_
   .refine q74 (v:=(.int .i64 x2.2)) rfl Tryz.isAgg3 (hJ.cell (i:=0) rfl rfl) ?_;exact⟨rfl,hK⟩
   refine j0l (i:=5) (v:=(.int .i64 (min x2.2 (10000:Int)))) (l':= #[true,true,true,true,true,true,false,false]) rfl (by kernel_rfl) (by kernel_rfl) (by kernel_rfl) rfl rfl (fun _ _ _ h=>h) hS7 (fun w hJ K hK=> ?_) ?_
   .refine y9y (r:=(min x2.2 (10000:Int))) rfl rfl rfl ?_;exact⟨rfl,hK⟩
   refine j0l (i:=6) (v:=(.int .i64 (max x2.1 (0:Int)))) (l':= #[true,true,true,true,true,true,true,false]) rfl (by kernel_rfl) (by kernel_rfl) (by kernel_rfl) rfl rfl (fun _ _ _ h=>h) hS7 (fun w hJ K hK=> ?_) ?_
   .refine Q8 (v:=(.int .i64 (max x2.1 (0:Int)))) rfl ?_;exact⟨rfl,hK⟩
   refine j0l (i:=7) (v:=(.int .i64 (min x2.2 (10000:Int)))) (l':= #[true,true,true,true,true,true,true,true]) rfl (by kernel_rfl) (by kernel_rfl) (by kernel_rfl) rfl rfl (fun _ _ _ h=>h) hS7 (fun w hJ K hK=> ?_) ?_
   .refine Q8 (v:=(.int .i64 (min x2.2 (10000:Int)))) rfl ?_;exact⟨rfl,hK⟩
   refine y2r (by kernel_rfl) ?_;refine Qp ?_;refine Qz ?_;refine Qv (v:=(.int .i64 (max x2.1 (0:Int)))) rfl ?_;refine Qv (v:=(.int .i64 (min x2.2 (10000:Int)))) rfl ?_;refine w45 (r:=(decide ((max x2.1 (0:Int))<(min x2.2 (10000:Int))))) rfl rfl rfl ?_;refine wpList_nil ?_;refine Qp ?_;refine if_d ((max x2.1 (0:Int))<(min x2.2 (10000:Int))) rfl (fun ht3=> ?_) (fun ht3=> ?_)
   .obtain⟨fa,hfa⟩: ∃fa:Nat,((fa:Nat):Int)=max x2.1 0:=⟨(max x2.1 0).toNat,by omega⟩;obtain⟨fb,hfb⟩: ∃fb:Nat,((fb:Nat):Int)=min x2.2 10000:=⟨(min x2.2 10000).toNat,by omega⟩;have hda:=Sp.dep_bound ((ls.take k1).flatten++x1.take k2) fa;have hdb:=Sp.dep_bound ((ls.take k1).flatten++x1.take k2) fb;have hlen:(((ls.take k1).flatten++x1.take k2)).length<=ls.flatten.length:=Sp.part_le hx1 (by omega);refine Qz ?_;refine Qv (v:=(.int .i64 (max x2.1 (0:Int)))) rfl ?_;refine R5 (k:=fa) (a':=⟨b2,fa,none⟩) rfl rfl (by omega) (by omega) Tryz.underlying285 Tryz.sizeOf3 (by simp[Jq]) ?_;refine q74 (v:=(.int .i64 (Sp.dep ((ls.take k1).flatten++x1.take k2) fa))) rfl Tryz.isAgg3 (hS7.cell (i:=1) rfl (j2y (by omega))) ?_;refine z2c (r:=((Sp.dep ((ls.take k1).flatten++x1.take k2) fa)+(1:Int))) rfl rfl (nw (by omega) (by omega) (by omega)) ?_;refine R5 (k:=fa) (a':=⟨b2,fa,none⟩) rfl rfl (by omega) (by omega) Tryz.underlying285 Tryz.sizeOf3 (by simp[Jq]) ?_;refine z4u (T:=285) (vs:=[(.int .i64 ((Sp.dep ((ls.take k1).flatten++x1.take k2) fa)+(1:Int)))]) (cs':=irow 10001 (fun i=>(if i=fa then ((Sp.dep ((ls.take k1).flatten++x1.take k2) fa)+(1:Int)) else Sp.dep ((ls.take k1).flatten++x1.take k2) i))) (ms':=[blk b3 126 [(.int .i64 x2.1),(.int .i64 x2.2)],blk b2 285 (irow 10001 (fun i=>(if i=fa then ((Sp.dep ((ls.take k1).flatten++x1.take k2) fa)+(1:Int)) else Sp.dep ((ls.take k1).flatten++x1.take k2) i))),blk b1 236 (brow 10000 (fun i=>false))]) (i:=1) hS7 rfl rfl rfl Tryz.sizeOf3 rfl (ones rfl) rfl (by rw[z62];omega) (v0z (by omega)) rfl ?_;intro w7 hS8;refine wpList_nil ?_;refine Qp ?_;refine Ge ?_;refine Qv (v:=(.int .i64 (min x2.2 (10000:Int)))) rfl ?_;refine R5 (k:=fb) (a':=⟨b2,fb,none⟩) rfl rfl (by omega) (by omega) Tryz.underlying285 Tryz.sizeOf3 (by simp[Jq]) ?_;refine q74 (v:=(.int .i64 ((if fb=fa then ((Sp.dep ((ls.take k1).flatten++x1.take k2) fa)+(1:Int)) else Sp.dep ((ls.take k1).flatten++x1.take k2) fb)))) rfl Tryz.isAgg3 (hS8.cell (i:=1) rfl (j2y (by omega))) ?_;refine v42 (r:=(((if fb=fa then ((Sp.dep ((ls.take k1).flatten++x1.take k2) fa)+(1:Int)) else Sp.dep ((ls.take k1).flatten++x1.take k2) fb)) - (1:Int))) rfl rfl (nw (by omega) (by omega) (by omega)) ?_;refine R5 (k:=fb) (a':=⟨b2,fb,none⟩) rfl rfl (by omega) (by omega) Tryz.underlying285 Tryz.sizeOf3 (by simp[Jq]) ?_;refine z4u (T:=285) (vs:=[(.int .i64 (((if fb=fa then ((Sp.dep ((ls.take k1).flatten++x1.take k2) fa)+(1:Int)) else Sp.dep ((ls.take k1).flatten++x1.take k2) fb)) - (1:Int)))]) (cs':=irow 10001 (Sp.dep (((ls.take k1).flatten++x1.take k2)++[x2]))) (ms':=[blk b3 126 [(.int .i64 x2.1),(.int .i64 x2.2)],blk b2 285 (irow 10001 (Sp.dep (((ls.take k1).flatten++x1.take k2)++[x2]))),blk b1 236 (brow 10000 (fun i=>false))]) (i:=1) hS8 rfl rfl rfl Tryz.sizeOf3 rfl (ones rfl) rfl (by rw[z62];omega) ((v0z (by omega)).trans (w05 (fun i _=>Sp.dep_step ((ls.take k1).flatten++x1.take k2) x2 fa fb hfa hfb (by unfold Sp.lo Sp.hi;omega) i))) rfl ?_;intro w8 hS9;refine wpList_nil ?_;refine j0h ?_;refine Qp ?_;refine Ge ?_;refine z2c (r:=((k2+1:Nat):Int)) rfl rfl (nw (by omega) (by omega) (by omega)) ?_;refine Qv (v:=(.int .i64 ((k2+1:Nat):Int))) rfl ?_;refine wpList_nil ?_;refine Qp ?_;have hE:x1.take (k2+1)=x1.take k2++[x2]:=take_snoc hx2;exact⟨_,_,rfl,⟨k2+1,_,rfl,(Qq rfl (Qq rfl (Qq rfl (Qq rfl (Qq rfl (Qq rfl (Qq rfl (Qq rfl rfl)))))))),(by rw[hE,<-List.append_assoc];exact hS9.drop 0 rfl),(by have:=Qj hx2;omega)⟩,by have:=Qj hx2;omega⟩
   .refine wp_skip ?_;refine j0h ?_;refine Qp ?_;refine Ge ?_;refine z2c (r:=((k2+1:Nat):Int)) rfl rfl (nw (by omega) (by omega) (by omega)) ?_;refine Qv (v:=(.int .i64 ((k2+1:Nat):Int))) rfl ?_;refine wpList_nil ?_;refine Qp ?_;have hE:x1.take (k2+1)=x1.take k2++[x2]:=take_snoc hx2;exact⟨_,_,rfl,⟨k2+1,_,rfl,(Qq rfl (Qq rfl (Qq rfl (Qq rfl (Qq rfl (Qq rfl (Qq rfl (Qq rfl rfl)))))))),(by rw[hE,<-List.append_assoc,w05 (fun i _=>Sp.dep_skip ((ls.take k1).flatten++x1.take k2) x2 ht3 i)];exact hS7.drop 0 rfl),(by have:=Qj hx2;omega)⟩,by have:=Qj hx2;omega⟩
  .refine wp_exit ?_;refine q5i ?_;refine q5i ?_;refine z2d ?_;refine j0h ?_;refine Qp ?_;refine Ge ?_;refine z2c (r:=((k1+1:Nat):Int)) rfl rfl (nw (by omega) (by omega) (by omega)) ?_;refine Qv (v:=(.int .i64 ((k1+1:Nat):Int))) rfl ?_;refine wpList_nil ?_;refine Qp ?_;have hSl:=hS4;rw[t99 (show x1.length<=k2 by omega)] at hSl;exact⟨_,_,rfl,⟨k1+1,_,rfl,(Qq rfl (Qq rfl (Qq rfl (Qq rfl (Qq rfl rfl))))),(by rw[Sp.flat_take hx1];exact hSl),(by have:=Qj hx1;omega)⟩,by have:=Qj hx1;omega⟩
 .refine wp_exit ?_;refine q5i ?_;refine q5i ?_;refine z2d ?_;refine Qp ?_;refine Qz ?_;refine z84 (cs:=brow 10000 (fun i=>false)) hS3 (j0i Tryz.type236 (z61 v9p y04) (by omega)) (by simp[Value.cells,j0j]) ?_;intro b4 w9 hS10;refine wpList_nil ?_;refine Qp ?_;refine Qz ?_;refine Q8 (v:=(.int .i64 (0:Int))) rfl ?_;refine wpList_nil ?_;refine Qp ?_;refine wp_seq ?_;refine Qz ?_;refine Qv (v:=(.int .i64 (0:Int))) rfl ?_;refine wpList_nil ?_;refine Qp ?_;refine wp_block ?_;rw[t99 (show ls.length<=k1 by omega)] at hS10;refine loop (fun m f z=> ∃(k3:Nat) (g:Fr),m=10000 - k3/\f=(upd (upd (upd (upd (upd g 2 (.pointer (some ⟨b1,0,none⟩))) 3 (.pointer (some ⟨b2,0,none⟩))) 10 (.pointer (some ⟨b4,0,none⟩))) 11 (.int .i64 (Sp.psum (Sp.dep ls.flatten) k3))) 46 (.int .i64 ((k3:Nat):Int)))/\St ⟨w,σ,[]⟩ z σ [blk b4 236 (brow 10000 (fun i=>(decide (i<k3) && Sp.cov ls.flatten i))),blk b2 285 (irow 10001 (Sp.dep ls.flatten)),blk b1 236 (brow 10000 (fun i=>false))]/\(k3<=10000)) (m0:=_) ⟨0,_,rfl,(Qq rfl (Qq rfl (Qq rfl (Qq rfl (Qq rfl rfl))))),(by simpa using hS10),(Nat.zero_le _)⟩ ?_;rintro _ _ w10 ⟨k3,g,rfl,rfl,hS11,hk3⟩;refine Qz ?_;refine w45 (r:=(decide (((k3:Nat):Int)<(10000:Int)))) rfl rfl rfl ?_;refine wpList_nil ?_;refine Qp ?_;refine wp_seq ?_;refine if_d (((k3:Nat):Int)<(10000:Int)) rfl (fun ht4=> ?_) (fun ht4=> ?_)
  .refine wp_skip ?_;refine Qp ?_;refine wp_seq ?_;refine wp_block ?_;refine Qz ?_;refine Qv (v:=(.int .i64 ((k3:Nat):Int))) rfl ?_;refine Q8 (v:=(.int .i64 ((k3:Nat):Int))) rfl ?_;refine wpList_nil ?_;refine Qp ?_;refine Qz ?_;have hps:=Sp.psum_nonneg ls.flatten k3 (by omega);have hps2:Sp.psum (Sp.dep ls.flatten) (k3+1)=Sp.psum (Sp.dep ls.flatten) k3+Sp.dep ls.flatten k3:=rfl;refine Qv (v:=(.int .i64 (Sp.psum (Sp.dep ls.flatten) k3))) rfl ?_;refine Qv (v:=(.int .i64 ((k3:Nat):Int))) rfl ?_;refine R5 (k:=k3) (a':=⟨b2,k3,none⟩) rfl rfl (by omega) (by omega) Tryz.underlying285 Tryz.sizeOf3 (by simp[Jq]) ?_;refine q74 (v:=(.int .i64 (Sp.dep ls.flatten k3))) rfl Tryz.isAgg3 (hS11.cell (i:=1) rfl (j2y (by omega))) ?_;refine z2c (r:=((Sp.psum (Sp.dep ls.flatten) k3)+(Sp.dep ls.flatten k3))) rfl rfl (nw (by omega) (by omega) (by omega)) ?_;refine Q8 (v:=(.int .i64 ((Sp.psum (Sp.dep ls.flatten) k3)+(Sp.dep ls.flatten k3)))) rfl ?_;refine wpList_nil ?_;refine Qp ?_;refine Ge ?_;refine Qv (v:=(.int .i64 ((k3:Nat):Int))) rfl ?_;refine Qv (v:=(.int .i64 ((Sp.psum (Sp.dep ls.flatten) k3)+(Sp.dep ls.flatten k3)))) rfl ?_;refine y3w (r:=(decide ((0:Int)<((Sp.psum (Sp.dep ls.flatten) k3)+(Sp.dep ls.flatten k3))))) rfl rfl rfl ?_;refine R5 (k:=k3) (a':=⟨b4,k3,none⟩) rfl rfl (by omega) (by omega) Tryz.underlying236 Tryz.sizeOf4 (by simp[Jq]) ?_;refine z4u (T:=236) (vs:=[(.bool (decide ((0:Int)<((Sp.psum (Sp.dep ls.flatten) k3)+(Sp.dep ls.flatten k3)))))]) (cs':=brow 10000 (fun i=>(decide (i<k3+1) && Sp.cov ls.flatten i))) (ms':=[blk b4 236 (brow 10000 (fun i=>(decide (i<k3+1) && Sp.cov ls.flatten i))),blk b2 285 (irow 10001 (Sp.dep ls.flatten)),blk b1 236 (brow 10000 (fun i=>false))]) (i:=0) hS11 rfl rfl rfl Tryz.sizeOf4 rfl (ones rfl) rfl (by rw[Gl];omega) ((v9q (by omega)).trans (w04 (fun i _=>Sp.set_step ls.flatten k3 (by omega) i))) rfl ?_;intro w11 hS12;refine wpList_nil ?_;refine j0h ?_;refine Qp ?_;refine Ge ?_;refine z2c (r:=((k3+1:Nat):Int)) rfl rfl (nw (by omega) (by omega) (by omega)) ?_;refine Qv (v:=(.int .i64 ((k3+1:Nat):Int))) rfl ?_;refine wpList_nil ?_;refine Qp ?_;exact⟨_,_,rfl,⟨k3+1,_,rfl,(Qq rfl (Qq rfl (Qq rfl (Qq rfl (Qq rfl rfl))))),hS12,(by omega)⟩,by omega⟩
  .refine wp_exit ?_;refine q5i ?_;refine q5i ?_;refine z2d ?_;refine Qp ?_;refine Qz ?_;refine w79 (cs:=brow 10000 (fun i=>(decide (i<k3) && Sp.cov ls.flatten i))) rfl Tryz.isAgg236 Tryz.sizeOf236 (Gl _ _) (q2j (hS11.get (i:=0) rfl)) ?_;refine z4u (T:=236) (vs:=brow 10000 (fun i=>(decide (i<k3) && Sp.cov ls.flatten i))) (cs':=brow 10000 (fun i=>(decide (i<k3) && Sp.cov ls.flatten i))) (ms':=[blk b4 236 (brow 10000 (fun i=>(decide (i<k3) && Sp.cov ls.flatten i))),blk b2 285 (irow 10001 (Sp.dep ls.flatten)),blk b1 236 (brow 10000 (fun i=>(decide (i<k3) && Sp.cov ls.flatten i)))]) (i:=2) hS11 rfl rfl (j64 _) Tryz.sizeOf236 (Gl _ _) (j68 _ _) rfl (by simp[Gl]) (z63 (by simp[Gl])) rfl ?_;intro w12 hS13;refine wpList_nil ?_;refine Qp ?_;refine wp_ret ?_;refine y7i rfl rfl (hS13.get (i:=2) rfl) Tryz.underlying236 rfl ((show (Tryz.prog.info? 236).map (·.size)=some 10000 from rfl).trans (by simp[Gl])) ?_;exact⟨congrArg (fun l:List Value=>Ending.returned (.agg l.toArray)) (w04 (fun i hi=>Sp.all_step ls.flatten k3 i (by omega))),hS13.done⟩
end Go.Proofs.YtlmjknifmlifiaaGreatDoor
end
noncomputable section
namespace Go.Proofs.YtlmjknifmlifiaaGreatDoor
open Go Go.Proofs Go.RowKit Go.Fl
theorem y5q{σ:Hv}{w:World}(fid:FuncId)(C:List Value)(p:Nat->Bool)(O:Nat->HObj)(bo:Option Nat)(hfo: ∀k,(O k).foot=bo)(hcall: ∀args w,(callFunc fid args).run Tryz.prog w= .ok (.enter fid args) w)
  (hcl: ∀(k:Nat) (w1:World),k<10000->View σ w1->(O k).ok w1->Calls Tryz.prog fid ((.int .i64 ((k:Nat):Int))::C).toArray w1 fun e w2=>e= .returned (.bool (p k))/\Grow bo.toList σ w1 σ w2/\(O (k+1)).ok w2)
  (hV:View σ w)(hO:(O 0).ok w)(hσ: ∀k,(O 0).foot=some k->σ k=none):
  Calls Tryz.prog 178 #[(.func (.func fid) #[] (C).toArray)] w fun e w1=> ∃(v:Value) (σ1:Hv),e= .returned v/\Grow bo.toList σ w σ1 w1/\RSl 2 (REnc z2e) σ1 v (Sp.runs p 10000)/\(O 10000).ok w1:=by
 refine enter Tryz.func178 rfl rfl rfl ?_;have hS:=St.startO hV hO hσ;refine Qz ?_;refine Q8 (v:=(.slice none 0 0)) rfl ?_;refine wpList_nil ?_;refine Qp ?_;refine Qz ?_;refine Q8 (v:=(.slice none 0 0)) rfl ?_;refine wpList_nil ?_;refine Qp ?_;refine wp_seq ?_;refine Qz ?_;refine Qv (v:=(.int .i64 (0:Int))) rfl ?_;refine wpList_nil ?_;refine Qp ?_;refine wp_block ?_;have hSn:=hS.addNil 126 2;refine loop (fun m f z=> ∃(k:Nat) (v:Value) (g:Fr),m=10000 - k/\f=(upd (upd (upd g 0 (.func (.func fid) #[] (C).toArray)) 3 v) 6 (.int .i64 ((k:Nat):Int)))/\St ⟨w,σ,(O 0).foot.toList⟩ z σ [vec v 126 2 ((Sp.runs p k).length) ((Sp.runs p k).flatMap z2e),O k]/\(v.oneCell'=true)/\(k<=10000)) (m0:=_) ⟨0,_,_,rfl,(Qq rfl (Qq rfl (Qq rfl rfl))),hSn,(rfl),(Nat.zero_le _)⟩ ?_;rintro _ _ w1 ⟨k,v,g,rfl,rfl,hS1,hone,hk⟩;have hrl:=Sp.runs_len p k;refine Qz ?_;refine w45 (r:=(decide (((k:Nat):Int)<(10000:Int)))) rfl rfl rfl ?_;refine wpList_nil ?_;refine Qp ?_;refine wp_seq ?_;refine if_d (((k:Nat):Int)<(10000:Int)) rfl (fun ht1=> ?_) (fun ht1=> ?_)
 .refine wp_skip ?_;refine Qp ?_;refine wp_seq ?_;refine wp_block ?_;refine Qz ?_;refine Qv (v:=(.int .i64 ((k:Nat):Int))) rfl ?_;refine Q8 (v:=(.int .i64 ((k:Nat):Int))) rfl ?_;refine wpList_nil ?_;refine Qp ?_;refine wp_seq ?_;refine Qz ?_;refine Qv (v:=(.func (.func fid) #[] (C).toArray)) rfl ?_;refine Qv (v:=(.int .i64 ((k:Nat):Int))) rfl ?_;refine y3x (first:=[]) (captured:=C) (args:=(.int .i64 ((k:Nat):Int))::C) rfl rfl hcall (Calls.mono (hcl k _ (by omega) hS1.view (hS1.get (i:=1) rfl)) ?_);rintro _ w2 ⟨rfl,hg1,ho1⟩;refine⟨_,rfl,?_⟩;have hS2:=hS1.growO hg1 (i:=1) (o':=O (k+1)) rfl (hfo _) (hfo _) ho1 (ms':=[vec v 126 2 ((Sp.runs p k).length) ((Sp.runs p k).flatMap z2e),O (k+1)]) rfl;refine y7j (r:=(!p k)) rfl rfl ?_;refine wpList_nil ?_;refine Qp ?_;refine y7k rfl (fun ht2=> ?_) (fun ht2=> ?_)
  .refine wp_exit ?_;refine q5i ?_;refine z2d ?_;refine Qp ?_;refine Ge ?_;refine z2c (r:=((k+1:Nat):Int)) rfl rfl (nw (by omega) (by omega) (by omega)) ?_;refine Qv (v:=(.int .i64 ((k+1:Nat):Int))) rfl ?_;refine wpList_nil ?_;refine Qp ?_;have hE:=Sp.runs_no ht2;exact⟨_,_,rfl,⟨k+1,v,_,rfl,(Qq rfl (Qq rfl (Qq rfl rfl))),(by rw[hE];simpa using hS2),(hone),(by omega)⟩,by omega⟩
  .refine wp_skip ?_;refine Qp ?_;refine Qz ?_;refine Qv (v:=v) rfl ?_;refine z4v hS2 rfl (i:=0) rfl Tryz.underlying63 ?_;refine Q8 (v:=(.int .i64 (((Sp.runs p k).length:Nat):Int))) rfl ?_;refine wpList_nil ?_;refine Qp ?_;refine Qz ?_;refine Qv (v:=(.int .i64 (((Sp.runs p k).length:Nat):Int))) rfl ?_;refine y3w (r:=(decide ((0:Int)<(((Sp.runs p k).length:Nat):Int)))) rfl rfl rfl ?_;by_cases hb1:(0:Int)<(((Sp.runs p k).length:Nat):Int)
   .refine Qv (v:=(.bool true)) (congrArg Value.bool (decide_eq_true hb1)) ?_;refine o_on rfl rfl ?_;refine Qv (v:=v) rfl ?_;refine o_on rfl rfl ?_;refine Qv (v:=(.int .i64 (((Sp.runs p k).length:Nat):Int))) rfl ?_;refine o_on rfl rfl ?_;refine v42 (r:=((((Sp.runs p k).length:Nat):Int) - (1:Int))) rfl rfl (nw (by omega) (by omega) (by omega)) ?_;refine o_on rfl rfl ?_;obtain⟨g1,cp1,rfl⟩:=w8a (hS2.get (i:=0) rfl) (by omega);refine Up (k:=((Sp.runs p k).length - 1)) (a':=⟨g1,((Sp.runs p k).length - 1)*2,none⟩) rfl rfl (by omega) (by omega) Tryz.underlying63 Tryz.sizeOf126 (by simp[Jq]) ?_;refine o_on rfl rfl ?_;refine z83 (a':=⟨g1,((Sp.runs p k).length - 1)*2+1,none⟩) rfl Tryz.underlying126 rfl Tryz.sizeOf3 rfl ?_;refine o_on rfl rfl ?_;obtain⟨x1,hx1⟩:=getq (l:=Sp.runs p k) (k:=((Sp.runs p k).length - 1)) (by omega);refine q74 (v:=(.int .i64 x1.2)) rfl Tryz.isAgg3 (v01 j69 (j:=1) (hS2.get (i:=0) rfl) hx1 rfl) ?_;refine o_on rfl rfl ?_;refine Qv (v:=(.int .i64 ((k:Nat):Int))) rfl ?_;refine o_on rfl rfl ?_;refine y9w (r:=(decide (x1.2=((k:Nat):Int)))) rfl rfl rfl ?_;refine v0x (v:=(.bool (decide (x1.2=((k:Nat):Int))))) rfl rfl ?_;refine wpList_nil ?_;refine Qp ?_;refine if_d (x1.2=((k:Nat):Int)) rfl (fun ht3=> ?_) (fun ht3=> ?_)
    .refine Ge ?_;refine Qv (v:=(.slice (some ⟨g1,0,none⟩) (Sp.runs p k).length cp1)) rfl ?_;refine Qv (v:=(.int .i64 (((Sp.runs p k).length:Nat):Int))) rfl ?_;refine v42 (r:=((((Sp.runs p k).length:Nat):Int) - (1:Int))) rfl rfl (nw (by omega) (by omega) (by omega)) ?_;refine Qv (v:=(.int .i64 ((k:Nat):Int))) rfl ?_;refine z2c (r:=((k+1:Nat):Int)) rfl rfl (nw (by omega) (by omega) (by omega)) ?_;refine Up (k:=((Sp.runs p k).length - 1)) (a':=⟨g1,((Sp.runs p k).length - 1)*2,none⟩) rfl rfl (by omega) (by omega) Tryz.underlying63 Tryz.sizeOf126 (by simp[Jq]) ?_;refine z83 (a':=⟨g1,((Sp.runs p k).length - 1)*2+1,none⟩) rfl Tryz.underlying126 rfl Tryz.sizeOf3 rfl ?_;refine w8b (xs':=((Sp.runs p k).set ((Sp.runs p k).length - 1) (x1.1,((k+1:Nat):Int))).flatMap z2e) (ms':=[vec (.slice (some ⟨g1,0,none⟩) (Sp.runs p k).length cp1) 126 2 ((Sp.runs p k).length) (((Sp.runs p k).set ((Sp.runs p k).length - 1) (x1.1,((k+1:Nat):Int))).flatMap z2e),O (k+1)]) (vs:=[(.int .i64 ((k+1:Nat):Int))]) (i:=0) hS2 rfl rfl rfl Tryz.sizeOf3 rfl (ones rfl) rfl (by omega) (v00 j69 hx1 rfl (Nat.le_of_ble_eq_true rfl)) rfl ?_;intro w3 hS3;refine wpList_nil ?_;refine j0h ?_;refine Qp ?_;refine Ge ?_;refine z2c (r:=((k+1:Nat):Int)) rfl rfl (nw (by omega) (by omega) (by omega)) ?_;refine Qv (v:=(.int .i64 ((k+1:Nat):Int))) rfl ?_;refine wpList_nil ?_;refine Qp ?_;have hE:=Sp.runs_ext ht2 hx1 ht3;exact⟨_,_,rfl,⟨k+1,(.slice (some ⟨g1,0,none⟩) (Sp.runs p k).length cp1),_,rfl,(Qq rfl (Qq rfl (Qq rfl rfl))),(by rw[hE];simpa using hS3),(rfl),(by omega)⟩,by omega⟩
    .refine Ge ?_;refine Qv (v:=(.slice (some ⟨g1,0,none⟩) (Sp.runs p k).length cp1)) rfl ?_;refine Qv (v:=(.int .i64 ((k:Nat):Int))) rfl ?_;refine Qv (v:=(.int .i64 ((k:Nat):Int))) rfl ?_;refine z2c (r:=((k+1:Nat):Int)) rfl rfl (nw (by omega) (by omega) (by omega)) ?_;refine v43 (v:=(.agg #[(.int .i64 ((k:Nat):Int)),(.int .i64 ((k+1:Nat):Int))])) (fun _=>by kernel_rfl) ?_;refine q6r (cs:=[(.int .i64 ((k:Nat):Int)),(.int .i64 ((k+1:Nat):Int))]) (e:=126) hS2 (fun _=>by kernel_rfl) ?_;intro b1 w4 hS4;refine w2c (Ms:=fun v1=>[blk b1 126 [(.int .i64 ((k:Nat):Int)),(.int .i64 ((k+1:Nat):Int))],vec v1 126 2 ((Sp.runs p k).length+1) ((Sp.runs p k++[(((k:Nat):Int),((k+1:Nat):Int))]).flatMap z2e),O (k+1)]) (xs':=(Sp.runs p k++[(((k:Nat):Int),((k+1:Nat):Int))]).flatMap z2e) Tryz.underlying63 Tryz.type126 rfl rfl (bytes:=16) rfl rfl (Nat.succ_pos _) hS4 rfl (q:=1) rfl rfl rfl (q2j (hS4.get (i:=0) rfl)) (ones rfl) (by omega) (by unfold maxLen;omega) (w46 _ (((k:Nat):Int),((k+1:Nat):Int))) (fun _=>rfl) ?_;intro v1 w5 ho2 hS5;have hS6:=hS5.drop 0 (ms':=[vec v1 126 2 ((Sp.runs p k).length+1) ((Sp.runs p k++[(((k:Nat):Int),((k+1:Nat):Int))]).flatMap z2e),O (k+1)]) rfl;refine Q8 (v:=v1) rfl ?_;refine wpList_nil ?_;refine j0h ?_;refine Qp ?_;refine Ge ?_;refine z2c (r:=((k+1:Nat):Int)) rfl rfl (nw (by omega) (by omega) (by omega)) ?_;refine Qv (v:=(.int .i64 ((k+1:Nat):Int))) rfl ?_;refine wpList_nil ?_;refine Qp ?_;have hE:=Sp.runs_new ht2 (fun s hs=>by rw[hx1] at hs;cases hs;exact ht3);exact⟨_,_,rfl,⟨k+1,v1,_,rfl,(Qq rfl (Qq rfl (Qq rfl rfl))),(by rw[hE];simpa using hS6),(ho2),(by omega)⟩,by omega⟩
   .refine Qv (v:=(.bool false)) (congrArg Value.bool (decide_eq_false hb1)) ?_;refine j63 rfl rfl ?_;refine j63 rfl rfl ?_;refine j63 rfl rfl ?_;refine j63 rfl rfl ?_;refine j63 rfl rfl ?_;refine j63 rfl rfl ?_;refine j63 rfl rfl ?_;refine j63 rfl rfl ?_;refine v0y (v:=(.bool false)) rfl rfl ?_;refine wpList_nil ?_;refine Qp ?_;refine if_f rfl ?_;refine Ge ?_;refine Qv (v:=v) rfl ?_;refine Qv (v:=(.int .i64 ((k:Nat):Int))) rfl ?_;refine Qv (v:=(.int .i64 ((k:Nat):Int))) rfl ?_;refine z2c (r:=((k+1:Nat):Int)) rfl rfl (nw (by omega) (by omega) (by omega)) ?_;refine v43 (v:=(.agg #[(.int .i64 ((k:Nat):Int)),(.int .i64 ((k+1:Nat):Int))])) (fun _=>by kernel_rfl) ?_;refine q6r (cs:=[(.int .i64 ((k:Nat):Int)),(.int .i64 ((k+1:Nat):Int))]) (e:=126) hS2 (fun _=>by kernel_rfl) ?_;intro b2 w6 hS7;refine w2c (Ms:=fun v2=>[blk b2 126 [(.int .i64 ((k:Nat):Int)),(.int .i64 ((k+1:Nat):Int))],vec v2 126 2 ((Sp.runs p k).length+1) ((Sp.runs p k++[(((k:Nat):Int),((k+1:Nat):Int))]).flatMap z2e),O (k+1)]) (xs':=(Sp.runs p k++[(((k:Nat):Int),((k+1:Nat):Int))]).flatMap z2e) Tryz.underlying63 Tryz.type126 rfl rfl (bytes:=16) rfl rfl (Nat.succ_pos _) hS7 rfl (q:=1) rfl rfl rfl (q2j (hS7.get (i:=0) rfl)) (ones rfl) (by omega) (by unfold maxLen;omega) (w46 _ (((k:Nat):Int),((k+1:Nat):Int))) (fun _=>rfl) ?_;intro v2 w7 ho3 hS8;have hS9:=hS8.drop 0 (ms':=[vec v2 126 2 ((Sp.runs p k).length+1) ((Sp.runs p k++[(((k:Nat):Int),((k+1:Nat):Int))]).flatMap z2e),O (k+1)]) rfl;refine Q8 (v:=v2) rfl ?_;refine wpList_nil ?_;refine j0h ?_;refine Qp ?_;refine Ge ?_;refine z2c (r:=((k+1:Nat):Int)) rfl rfl (nw (by omega) (by omega) (by omega)) ?_;refine Qv (v:=(.int .i64 ((k+1:Nat):Int))) rfl ?_;refine wpList_nil ?_;refine Qp ?_;have hE:=Sp.runs_new ht2 (fun s hs=>by have:=Qj hs;omega);exact⟨_,_,rfl,⟨k+1,v2,_,rfl,(Qq rfl (Qq rfl (Qq rfl rfl))),(by rw[hE];simpa using hS9),(ho3),(by omega)⟩,by omega⟩
 .refine wp_exit ?_;refine q5i ?_;refine q5i ?_;refine z2d ?_;refine Qp ?_;refine Qz ?_;refine Qv (v:=v) rfl ?_;refine Q8 (v:=v) rfl ?_;refine wpList_nil ?_;refine Qp ?_;refine wp_ret ?_;refine ret1 rfl (show ev _ _ _=v from rfl) ?_;obtain rfl:k=10000:=by omega
  obtain⟨σ1,hS10,hsub1,hfr1⟩:=hS1.freezeM (i:=0) (j:=1) rfl rfl (by decide) (by show (O 0).foot.toList=_;rw[hfo,hfo]) rfl;have hb:=Sp.runs_len p 10000;have hd:=hS10.done;rw[show (O 0).foot=bo from hfo 0] at hd;exact⟨v,σ1,rfl,hd,RSl.ofVecEnc j69 (hS1.get (i:=0) rfl) hfr1 rfl (by omega),hS10.get (i:=0) rfl⟩
end Go.Proofs.YtlmjknifmlifiaaGreatDoor
end
noncomputable section
namespace Go.Proofs.YtlmjknifmlifiaaGreatDoor
open Go Go.Proofs Go.RowKit Go.Fl
theorem v7c{σ:Hv}{w:World}{bp:Nat}{bq:Nat}(p:Nat->Bool)(q:Nat->Bool)(k:Nat)(hV:View σ w)(hp:VRow σ ⟨bp,0,none⟩ (brow 10000 p))(hq:VRow σ ⟨bq,0,none⟩ (brow 10000 q))(hk:k<10000):
  Calls Tryz.prog 179 #[(.int .i64 ((k:Nat):Int)),(.pointer (some ⟨bp,0,none⟩)),(.pointer (some ⟨bq,0,none⟩))] w fun e w1=>e= .returned (.bool (p k && q k))/\Grow [] σ w σ w1:=by
 refine enter Tryz.func179 rfl rfl rfl ?_;have _hk:=hk;have hS:=St.start hV;refine Qz ?_;refine Q8 (v:=(.bool false)) rfl ?_;refine wpList_nil ?_;refine Qp ?_;refine Qz ?_;refine Qv (v:=(.int .i64 ((k:Nat):Int))) rfl ?_;refine R5 (k:=k) (a':=⟨bp,k,none⟩) rfl rfl (by omega) (by omega) Tryz.underlying236 Tryz.sizeOf4 (by simp[Jq]) ?_;refine q74 (v:=(.bool (p k))) rfl Tryz.isAgg4 (hp.cell hS.view k (j67 (by omega)) (y3z _ _)) ?_;rcases Bool.eq_false_or_eq_true (p k) with hb1|hb1
 .refine Qv (v:=(.bool true)) (congrArg Value.bool hb1) ?_;refine o_on rfl rfl ?_;refine Qv (v:=(.int .i64 ((k:Nat):Int))) rfl ?_;refine o_on rfl rfl ?_;refine R5 (k:=k) (a':=⟨bq,k,none⟩) rfl rfl (by omega) (by omega) Tryz.underlying236 Tryz.sizeOf4 (by simp[Jq]) ?_;refine o_on rfl rfl ?_;refine q74 (v:=(.bool (q k))) rfl Tryz.isAgg4 (hq.cell hS.view k (j67 (by omega)) (y3z _ _)) ?_;refine v0x (v:=(.bool (q k))) rfl rfl ?_;refine Q8 (v:=(.bool (q k))) rfl ?_;refine wpList_nil ?_;refine Qp ?_;refine wp_ret ?_;refine ret1 rfl (show ev _ _ _=(.bool (q k)) from rfl) ?_;exact⟨by simp[*],hS.done⟩
 .refine Qv (v:=(.bool false)) (congrArg Value.bool hb1) ?_;refine j63 rfl rfl ?_;refine j63 rfl rfl ?_;refine j63 rfl rfl ?_;refine v0y (v:=(.bool false)) rfl rfl ?_;refine Q8 (v:=(.bool false)) rfl ?_;refine wpList_nil ?_;refine Qp ?_;refine wp_ret ?_;refine ret1 rfl (show ev _ _ _=(.bool false) from rfl) ?_;exact⟨by simp[*],hS.done⟩
theorem c_Common{σ:Hv}{w:World}(a:Value)(b:Value)(la:List (Int×Int))(lb:List (Int×Int))(hV:View σ w)(ha:RSl 2 (REnc z2e) σ a la)(hb:RSl 2 (REnc z2e) σ b lb):
  Calls Tryz.prog 121 #[a,b] w fun e w1=> ∃(v:Value) (σ1:Hv),e= .returned v/\Grow [] σ w σ1 w1/\RSl 2 (REnc z2e) σ1 v (Sp.runs (fun i=>Sp.cov la i && Sp.cov lb i) 10000):=by
 refine enter Tryz.func121 rfl rfl rfl ?_;have hS:=St.start hV;obtain⟨xa,ca,ea⟩:=ha.shape;subst ea;obtain⟨xb,cb,eb⟩:=hb.shape;subst eb;refine Qz ?_;refine Q8 (v:=(.slice none 0 0)) rfl ?_;refine wpList_nil ?_;refine Qp ?_;refine Qz ?_;refine Qv (v:=(.slice xa la.length ca)) rfl ?_;refine q6r (cs:=[(.slice xa la.length ca)]) (e:=63) hS (fun _=>by kernel_rfl) ?_;intro b1 w1 hS1;obtain⟨σ1,hS2,hsub1,hfr1⟩:=hS1.freeze (i:=0) rfl rfl rfl;have hvr1:=j6d (hS1.get (i:=0) rfl) hfr1;refine z4w (args:=[(.slice (some ⟨b1,0,none⟩) 1 1)]) rfl Tryz.call177 (Calls.mono (c_of _ [la] hS2.view (rsl1 (size:=1) hvr1 rfl ⟨_,rfl,(RSl.menc hsub1 ha)⟩) (by have:=(RSl.len (RSl.menc hsub1 ha));simp;omega)) ?_);rintro _ w2 ⟨rfl,hg1⟩;refine⟨_,rfl,?_⟩;have hS3:=hS2.grow hg1;refine Qv (v:=(.slice xb lb.length cb)) rfl ?_;refine q6r (cs:=[(.slice xb lb.length cb)]) (e:=63) hS3 (fun _=>by kernel_rfl) ?_;intro b2 w3 hS4;obtain⟨σ2,hS5,hsub2,hfr2⟩:=hS4.freeze (i:=0) rfl rfl rfl;have hvr2:=j6d (hS4.get (i:=0) rfl) hfr2;refine z4w (args:=[(.slice (some ⟨b2,0,none⟩) 1 1)]) rfl Tryz.call177 (Calls.mono (c_of _ [lb] hS5.view (rsl1 (size:=1) hvr2 rfl ⟨_,rfl,(RSl.menc (Sub.trans hsub1 hsub2) hb)⟩) (by have:=(RSl.len (RSl.menc (Sub.trans hsub1 hsub2) hb));simp;omega)) ?_);rintro _ w4 ⟨rfl,hg2⟩;refine⟨_,rfl,?_⟩;have hS6:=hS5.grow hg2;refine z84 (cs:=brow 10000 (fun i=>false)) hS6 (j0i Tryz.type236 (z61 v9p y04) (by omega)) (by simp[Value.cells,j0j]) ?_;intro b3 w5 hS7;refine z84 (cs:=brow 10000 (fun i=>false)) hS7 (j0i Tryz.type236 (z61 v9p y04) (by omega)) (by simp[Value.cells,j0j]) ?_;intro b4 w6 hS8;refine z4u (T:=236) (vs:=brow 10000 (Sp.cov [la].flatten)) (cs':=brow 10000 (Sp.cov [la].flatten)) (ms':=[blk b4 236 (brow 10000 (fun i=>false)),blk b3 236 (brow 10000 (Sp.cov [la].flatten))]) (i:=1) hS8 rfl rfl (j64 _) Tryz.sizeOf236 (Gl _ _) (j68 _ _) rfl (by simp[Gl]) (z63 (by simp[Gl])) rfl ?_;intro w7 hS9;refine z4u (T:=236) (vs:=brow 10000 (Sp.cov [lb].flatten)) (cs':=brow 10000 (Sp.cov [lb].flatten)) (ms':=[blk b4 236 (brow 10000 (Sp.cov [lb].flatten)),blk b3 236 (brow 10000 (Sp.cov [la].flatten))]) (i:=0) hS9 rfl rfl (j64 _) Tryz.sizeOf236 (Gl _ _) (j68 _ _) rfl (by simp[Gl]) (z63 (by simp[Gl])) rfl ?_;intro w8 hS10;refine wpList_nil ?_;refine Qp ?_;refine Qz ?_;refine w01 (la:=[]) (lb:=[(.pointer (some ⟨b3,0,none⟩)),(.pointer (some ⟨b4,0,none⟩))]) rfl rfl ?_;obtain⟨σ3,hS11,hsub3,hfr3⟩:=hS10.freeze (i:=1) rfl rfl rfl;have hvr3:=j6d (hS10.get (i:=1) rfl) hfr3;obtain⟨σ4,hS12,hsub4,hfr4⟩:=hS11.freeze (i:=0) rfl rfl rfl;have hvr4:=j6d (hS11.get (i:=0) rfl) hfr4;refine z4w (args:=[(.func (.func 179) #[] #[(.pointer (some ⟨b3,0,none⟩)),(.pointer (some ⟨b4,0,none⟩))])]) rfl Tryz.call178 (Calls.mono (y5q 179 [(.pointer (some ⟨b3,0,none⟩)),(.pointer (some ⟨b4,0,none⟩))] (fun i=>Sp.cov [la].flatten i && Sp.cov [lb].flatten i) (fun _=>y91) none (fun _=>rfl) Tryz.call179 (fun k w1 hk hV1 _=>(v7c _ _ k hV1 (hvr3.mono hsub4) hvr4 hk).mono (fun e w2 h=>⟨h.1,h.2,trivial⟩)) hS12.view trivial (by rintro k ⟨⟩)) ?_);rintro _ w9 ⟨v1,σ5,rfl,hg3,hrd1,_⟩;refine⟨_,rfl,?_⟩;have hS13:=hS12.grow hg3;refine Q8 (v:=v1) rfl ?_;refine wpList_nil ?_;refine Qp ?_;refine wp_ret ?_;refine ret1 rfl (show ev _ _ _=v1 from rfl) ?_;have hE:Sp.runs (fun i=>Sp.cov la i && Sp.cov lb i) 10000=(Sp.runs (fun i=>Sp.cov [la].flatten i && Sp.cov [lb].flatten i) 10000):=Sp.runs_congr (fun i hi=>by rw[<-Sp.cov_one la,<-Sp.cov_one lb]);exact⟨v1,σ5,rfl,hS13.done,by rw[hE];exact hrd1⟩
end Go.Proofs.YtlmjknifmlifiaaGreatDoor
end
noncomputable section
open Go Go.RowKit Go.Fl Go.Fl.Lk Go.Fx
namespace Go.En
theorem j6r{σ:Hv}{w:World}{g:Nat}{T:C}{n:Nat}{l:List (car T)}(hV:View σ w)(hs:SRep D (fun _=>none) σ (.pointer (some ⟨g,0,none⟩)) (.fap T n l)){i j:Nat}{x:car T}{s:FV Sg}(hx:l[i]? =some x)(hj:(D.shape T x)[j]? =some s)(hz:j<D.size T):
  ∃v,w.cell? ⟨g,i*D.size T+j,none⟩=some v/\RepF D σ v s:=by
 generalize hq:Value.pointer (some (⟨g,0,none⟩:Addr))=q at hs;cases hs with
 |fap ad cs T' N l' hN h hl hr=>
  cases hq;have hrow:=hr i x hx;have hlen:=okP.ok.len T x;have hjl:j<((cs.drop (i*D.size T)).take (D.size T)).length:=by rw[hrow.1,hlen];exact hz
  obtain⟨v,hv⟩: ∃v,((cs.drop (i*D.size T)).take (D.size T))[j]? =some v:=⟨_,List.getElem?_eq_getElem hjl⟩;refine⟨v,?_,hrow.2 j v s hv hj⟩;rw[List.getElem?_take,if_pos hz,List.getElem?_drop] at hv;have:=hV.cell (h _ v hv);rw[Jq,Nat.zero_add] at this;exact this
theorem y05: ∀c,c<256->v1u[c]? =some ((Go.Lib.firstT c:Nat):Int):=by decide
theorem y8h: ∀i,i<16->(j7x[i]?).map (fun a=>(a.lo,a.hi))=some (((Go.Lib.accLo i:Nat):Int),((Go.Lib.accHi i:Nat):Int)):=by decide
theorem tabs{σ:Hv}{w:World}(hV:View σ w)(hG:Glb D σ):Go.Lib.Utf8Tabs (Proofs.Tryz.lays196_ren.g 3) (Proofs.Tryz.lays196_ren.g 4) w:=by
 refine⟨fun c hc=> ?_,fun i hi=> ?_⟩
 .have h:=hG.known (Proofs.Tryz.lays196_ren.g 3);obtain⟨v,h1,h2⟩:=j6r (T:= .u8) (n:=256) (l:=v1u) hV h (i:=c) (j:=0) (s:= .int .u8 ((Go.Lib.firstT c:Nat):Int)) (y05 c hc) rfl (by decide);cases h2;simpa [show D.size C.u8=1 from rfl] using h1
 .have h:=hG.known (Proofs.Tryz.lays196_ren.g 4);have ha:=y8h i hi;obtain⟨a,e1,e2⟩:=Option.map_eq_some_iff.1 ha;obtain⟨v,h1,h2⟩:=j6r (T:= .acc) (n:=16) (l:=j7x) hV h (i:=i) (j:=0) (s:= .int .u8 a.lo) e1 rfl (by decide);obtain⟨v',h1',h2'⟩:=j6r (T:= .acc) (n:=16) (l:=j7x) hV h (i:=i) (j:=1) (s:= .int .u8 a.hi) e1 rfl (by decide);cases h2;cases h2';simp only[Prod.mk.injEq] at e2;rw[e2.1] at h1;rw[e2.2] at h1';refine⟨by rw[Nat.mul_comm];simpa [show D.size C.acc=2 from rfl] using h1,by rw[Nat.mul_comm];simpa [show D.size C.acc=2 from rfl] using h1'⟩
theorem w87{w w':World}(h:Below w.heap.size w w'):Keeps [] w w':=⟨h.os,h.tape,h.output,h.size,fun k hk _=>h.block k hk⟩
theorem z1x{σ:Hv}{w w1:World}{args:List (Tr Sg)}{vals:List Value}{K:List (Tr Sg)->List (Tr Sg)->Prop}{rets outs:List (Tr Sg)}{rv:List Value}(hS:St ⟨w,σ,feet []⟩ w σ [])(hK:K rets outs)(hb:Below w.heap.size w w1)(hL:LayL D σ rets rv [])(hT:LayT D σ args outs vals [] []):
  Back D σ w args vals [] K (.returned (retV rv)) w1:=by
 have hk:=w87 hb;refine⟨rets,outs,rv,σ,[],[],rfl,hK,hL,hT,?_⟩;refine⟨hk,fun b o hbo=> ?_,Sub.refl _,fun _ _ _=>rfl,by simp,by simp,by simp,by simp⟩;have h1:=hS.view b o hbo;have hlt:b<w.heap.size:=by
  rcases Nat.lt_or_ge b w.heap.size with h|h
  .exact h
  .rw[Array.getElem?_eq_none h] at h1;cases h1
 rw[hk.block b hlt (by simp)];exact h1
theorem j1f:q78 Proofs.Tryz.prog D 154 (conV ([.v]:LP) ([.str]:LV) ([.bool]:LV) ([.same]:LV) (fun a K=>Uu a.1 (fun q0=>K (q0,()) ((),())))):=by
 intro args K hm w σ vals ins hG hL hS;obtain⟨a,ha,hm⟩:=Ql hm;have hargs:=Ww ha;subst hargs;obtain⟨s,_⟩:=a;cases hL with
 |cons hp hr=>
 cases hr;cases hp with
 |f hf=>
 cases hf;have hm:s.size<=9223372036854775807/\K [.f (.bool (Go.Lib.validD s.data.toList))] [.same]:=hm;refine Calls.mono (Go.Proofs.Any.utf8_ValidString Proofs.Tryz.lays196 s w hm.1 (tabs hS.view hG)) ?_;rintro e w' ⟨rfl,hb⟩;exact z1x (rv:=[.bool (Go.Lib.validD s.data.toList)]) hS hm.2 hb (.cons (ms:=[]) (.f (.bool _)) .nil) (.skip (a0:=[]) .nil)
theorem j3r:q78 Proofs.Tryz.prog D 157 (conV ([.v,.v]:LP) ([.str,.str]:LV) ([.int .i64]:LV) ([.same,.same]:LV) (fun a K=>B7 a.1 a.2.1 (fun q0=>K (q0,()) ((),(),())))):=by
 intro args K hm w σ vals ins hG hL hS;obtain⟨a,ha,hm⟩:=Ql hm;have hargs:=Ww ha;subst hargs;obtain⟨s,t,_⟩:=a;cases hL with
 |cons hp hr=>
 cases hr with
 |cons hq hr=>
 cases hr;cases hp with
 |f hf=>
 cases hf;cases hq with
 |f hf=>
 cases hf;have hm:K [.f (.int .i64 (Go.Lib.compareBytes s.data.toList t.data.toList))] [.same,.same]:=hm;refine Calls.mono (Proofs.Tryz.strings_Compare s t w) ?_;rintro e w' ⟨rfl,rfl⟩;exact z1x (rv:=[.int .i64 (Go.Lib.compareBytes s.data.toList t.data.toList)]) hS hm (Below.refl _ _) (.cons (ms:=[]) (.f (.int _ _)) .nil) (.skip (a0:=[]) (.skip (a0:=[]) .nil))
theorem j95:q78 Proofs.Tryz.prog D 279 (conV ([.v]:LP) ([.str]:LV) ([.int .i64,.ifc]:LV) ([.same]:LV) (fun a K=>q46 a.1 (fun q0 q1=>K (q0,q1,()) ((),())))):=by
 intro args K hm w σ vals ins hG hL hS;obtain⟨a,ha,hm⟩:=Ql hm;have hargs:=Ww ha;subst hargs;obtain⟨s,_⟩:=a;cases hL with
 |cons hp hr=>
 cases hr;cases hp with
 |f hf=>
 cases hf;have hm:s.size<=281474976710656/\y0z s (fun n b=>K [.f (.int .i64 n),.f (.ifc b)] [.same]):=hm;obtain⟨hsz,hm⟩:=hm;have err: ∀g:Nat,D.glob g= .fptr [.ifc false] 0-> ∃ev,w.cell? ⟨g,0,none⟩=some ev/\(ev= .nilIface\/ ∃te pe,ev= .iface te pe):=by
  intro g hg;have h:=hG.known g;rw[hg] at h;generalize hq:Value.pointer (some (⟨g,0,none⟩:Addr))=q at h;cases h with
  |fptr ad cs l off hv hr=>
  cases hq;obtain⟨v,hvl⟩: ∃v,cs=[v]:=List.length_eq_one_iff.1 hr.1;subst hvl;have hc:=hS.view.cell (hv 0 v rfl);have hR:=hr.2 0 v _ rfl rfl;refine⟨v,?_,?_⟩
  .rw[Jq] at hc;exact hc
  .cases hR with
   |ifcS t p=>exact .inr ⟨t,p,rfl⟩
 unfold y0z at hm;split at hm
 .rename_i v hv;refine Calls.mono (Proofs.Tryz.strconv_Atoi_ok s (by omega) v hv w) ?_;rintro e w' ⟨rfl,hw⟩;have hb:Below w.heap.size w w':=by
   rcases hw with rfl|⟨t,rfl⟩
   .exact Below.refl _ _
   .exact Go.Lib.bytesWorld_below _ _ _
  exact z1x (rv:=[.int .i64 v,.nilIface]) hS hm hb (.cons (ms:=[]) (.f (.int _ _)) (.cons (ms:=[]) (.f .ifcN) .nil)) (.skip (a0:=[]) .nil)
 .rename_i hv;obtain⟨ev,h1,h2⟩:=err 9 rfl;refine Calls.mono (Proofs.Tryz.strconv_Atoi_range s hsz hv ev w h1 h2) ?_;rintro e w' ⟨N,rfl,_,_,hb⟩;exact z1x (rv:=[.int .i64 _,.iface _ _]) hS hm hb (.cons (ms:=[]) (.f (.int _ _)) (.cons (ms:=[]) (.f (.ifcS _ _)) .nil)) (.skip (a0:=[]) .nil)
 .rename_i hv;obtain⟨ev,h1,h2⟩:=err 8 rfl;refine Calls.mono (Proofs.Tryz.strconv_Atoi_syntax s hsz hv ev w h1 h2) ?_;rintro e w' ⟨N,rfl,_,_,hb⟩;exact z1x (rv:=[.int .i64 _,.iface _ _]) hS hm hb (.cons (ms:=[]) (.f (.int _ _)) (.cons (ms:=[]) (.f (.ifcS _ _)) .nil)) (.skip (a0:=[]) .nil)
theorem z7x(l:List BA):l.flatMap Zh=l.map Value.string:=by
 induction l with
 |nil=>rfl
 |cons a l ih=>rw[List.flatMap_cons,List.map_cons,ih];rfl
theorem y8i(l:List BA):(cpt l).length<=l.length:=by
 unfold cpt Go.Lib.compact;rw[List.length_map];have h: ∀(d:Array (List UInt8)) (m:Nat),(Go.Lib.compactUpTo d m).length<=m:=by intro d m;unfold Go.Lib.compactUpTo;rw[List.length_map];exact Nat.le_trans (List.length_filter_le _ _) (by simp)
 simpa using h _ _
theorem v7d{σ:Hv}{xs:List Value}{l:List BA}(h:Els D σ C.str xs l):xs=l.flatMap Zh:=by
 have h1:xs.length=l.length:=by rw[h.1];exact Nat.mul_one _
 rw[z7x];refine List.ext_getElem? fun i=> ?_
 rw[List.getElem?_map];rcases Nat.lt_or_ge i l.length with hi|hi
 .obtain⟨v,hv⟩: ∃v,xs[i]? =some v:=⟨_,List.getElem?_eq_getElem (by omega)⟩;obtain⟨x,hx⟩: ∃x,l[i]? =some x:=⟨_,List.getElem?_eq_getElem hi⟩;have hR:=(h.2 i x hx).2 0 v (.str x) (by rw[show D.size C.str=1 from rfl,Nat.mul_one,List.getElem?_take,if_pos (by decide),List.getElem?_drop];exact hv) rfl;rw[hv,hx];cases hR;rfl
 .rw[List.getElem?_eq_none (by omega),List.getElem?_eq_none hi];rfl
theorem j79(σ:Hv)(l:List BA):Els D σ C.str (l.flatMap Zh) l:=by
 rw[z7x];refine⟨by rw[List.length_map];exact (Nat.mul_one _).symm,fun i x hx=> ?_⟩;rw[show D.size C.str=1 from rfl,Nat.mul_one];have hx:l[i]? =some x:=hx;have e:((l.map Value.string).drop i).take 1=[.string x]:=by rw[<-List.map_drop,List.drop_eq_getElem_cons (List.getElem?_eq_some_iff.1 hx).1,(List.getElem?_eq_some_iff.1 hx).2];rfl
 rw[e];refine⟨rfl,fun j v s hj hs=> ?_⟩;cases j with
 |zero=>cases hj;cases hs;exact .str x
 |succ j=>cases hj
theorem q7a:q78 Proofs.Tryz.prog D 111 (conV ([.own 9 C.str]:LP) ([.vec 9 C.str]:LV) ([]:LV) ([.vec 9 C.str]:LV) (fun a K=>V2 a.1 (fun q0=>K () (q0,())))):=by
 intro args K hm w σ vals ins hG hL hS;obtain⟨a,ha,hm⟩:=Ql hm;have hargs:=Ww ha;subst hargs;obtain⟨s,_⟩:=a;cases hL with
 |cons hp hr=>
 cases hr;cases hp with
 |vec hE hl h1=>
 have hx:=v7d hE;subst hx;have hm:K [] [.vec 9 C.str (srt s)]:=hm;refine Calls.mono (v03 Proofs.Tryz.slices_Sort_string Proofs.Tryz.slices_Sort_string_none hS.view (hS.get (i:=0) rfl) rfl (fun b hb=>hS.off _ (List.mem_of_getElem? (i:=0) rfl) b hb) (by omega)) ?_;rintro _ w1 ⟨rfl,hg,ho⟩;have hS1:=hS.growV (i:=0) (o':=vec _ 9 1 s.length ((srt s).flatMap Zh)) rfl hg rfl ho (ms':=[vec _ 9 1 s.length ((srt s).flatMap Zh)]) rfl;refine⟨[],_,[],σ,[],[vec _ 9 1 (srt s).length ((srt s).flatMap Zh)],rfl,hm,.nil,.keep (.vec (j79 σ _) (Nat.le_trans (Nat.le_of_eq (q4k _)) hl) h1) .nil,?_⟩;have e:(srt s).length=s.length:=q4k _;rw[e];exact hS1
theorem q4r:q78 Proofs.Tryz.prog D 112 (conV ([.own 9 C.str]:LP) ([.vec 9 C.str]:LV) ([.vec 9 C.str]:LV) ([.same]:LV) (fun a K=>W4 a.1 (fun q0=>K (q0,()) ((),())))):=by
 intro args K hm w σ vals ins hG hL hS;obtain⟨a,ha,hm⟩:=Ql hm;have hargs:=Ww ha;subst hargs;obtain⟨s,_⟩:=a;cases hL with
 |cons hp hr=>
 cases hr;cases hp with
 |vec hE hl h1=>
 have hx:=v7d hE;subst hx;have hm:K [.vec 9 C.str (cpt s)] [.same]:=hm;refine Calls.mono (j7b Proofs.Tryz.slices_Compact_string Proofs.Tryz.slices_Compact_string_empty hS.view (hS.get (i:=0) rfl) rfl (fun b hb=>hS.off _ (List.mem_of_getElem? (i:=0) rfl) b hb) (by omega)) ?_;rintro _ w1 ⟨v1,rfl,hf,hg,ho⟩;have hlc:(cpt s).length<=140737488355328:=Nat.le_trans (y8i _) hl;have hS1:=hS.growV (i:=0) (o':=vec v1 9 1 (cpt s).length ((cpt s).flatMap Zh)) rfl hg hf ho (ms':=[vec v1 9 1 (cpt s).length ((cpt s).flatMap Zh)]) rfl;exact⟨[.vec 9 C.str (cpt s)],[.same],[v1],σ,[vec v1 9 1 (cpt s).length ((cpt s).flatMap Zh)],[],rfl,hm,.cons (.vec (j79 σ _) hlc (q2l ho)) .nil,.skip .nil,hS1⟩
theorem v1x{σ:Hv}{v:Value}{l:List Spn}(h:RepF D σ v (.sl C.span l)):RSl 2 (REnc z2e) σ v (l.map fun s=>(s.lo,s.hi)):=by
 obtain⟨a,cap,e1,e2,e3,e4⟩:=h.toRSl okP.ok;have hl:(l.map fun s=>(s.lo,s.hi)).length=l.length:=List.length_map ..;refine⟨a,cap,by rw[hl];exact e1,by rw[hl];exact e2,by rw[hl];exact e3,fun i x hx=> ?_⟩;rw[List.getElem?_map] at hx;obtain⟨y,hy,rfl⟩:=Option.map_eq_some_iff.1 hx;obtain⟨ad,cs,f1,f2,f3,f4⟩:=e4 i y hy;refine⟨ad,cs,f1,f2,f3,?_⟩;obtain⟨u,v,rfl⟩: ∃u v,cs=[u,v]:=by
  match cs,f2 with
  |[u,v],_=>exact⟨u,v,rfl⟩
 have g1:=f4.2 0 u (.int .i64 y.lo) rfl rfl;have g2:=f4.2 1 v (.int .i64 y.hi) rfl rfl;cases g1;cases g2;rfl
theorem y5r{σ:Hv}{v:Value}{l:List (Int×Int)}(h:RSl 2 (REnc z2e) σ v l):RepF D σ v (.sl C.span (l.map fun s=>Spn.mk s.1 s.2)):=by refine RepF.ofRSl okP.ok ?_;obtain⟨a,cap,rfl,h1,h2,h3⟩:=h;refine⟨a,cap,by simp,by simpa using h1,by simpa using h2,fun i x hx=> ?_⟩;rw[List.getElem?_map] at hx;obtain⟨y,hy,rfl⟩:=Option.map_eq_some_iff.1 hx;obtain⟨ad,cs,e1,e2,e3,e4⟩:=h3 i y hy;have e4:cs=z2e y:=e4;subst e4;exact⟨ad,_,e1,rfl,e3,Ur (.int _ _) (Ur (.int _ _) z9a)⟩
theorem j5m:q78 Proofs.Tryz.prog D 121 (conV ([.sl C.span,.sl C.span]:LP) ([.sl C.span,.sl C.span]:LV) ([.sl C.span]:LV) ([.same,.same]:LV) (fun a K=>q1b a.1 a.2.1 (fun q0=>K (q0,()) ((),(),())))):=by
 intro args K hm w σ vals ins hG hL hS;obtain⟨a,ha,hm⟩:=Ql hm;have hargs:=Ww ha;subst hargs;obtain⟨s,t,_⟩:=a;cases hL with
 | @cons _ _ v1 _ _ _ hp hr=>
 cases hr with
 | @cons _ _ v2 _ _ _ hq hr=>
 cases hr;cases hp with
 |f hf1=>
 cases hq with
 |f hf2=>
 have hm:K [.f (.sl C.span ((Go.Fl.Sp.runs (fun i=>Go.Fl.Sp.cov (s.map fun s=>(s.lo,s.hi)) i && Go.Fl.Sp.cov (t.map fun s=>(s.lo,s.hi)) i) 10000).map fun s=>Spn.mk s.1 s.2))] [.same,.same]:=hm;refine Calls.mono (Go.Proofs.YtlmjknifmlifiaaGreatDoor.c_Common v1 v2 _ _ hS.view (v1x hf1) (v1x hf2)) ?_;rintro e w1 ⟨v,σ1,rfl,hg,hr⟩;exact⟨_,[.same,.same],[v],σ1,[],[],rfl,hm,.cons (ms:=[]) (.f (y5r hr)) .nil,.skip (a0:=[]) (.skip (a0:=[]) .nil),hS.grow hg⟩
theorem y06{σ:Hv}{v:Value}{l:List BA}(h:RepF D σ v (.sl C.str l)):RSl 1 (REnc Zh) σ v l:=by obtain⟨a,cap,e1,e2,e3,e4⟩:=h.toRSl okP.ok;refine⟨a,cap,e1,e2,e3,fun i x hx=> ?_⟩;obtain⟨ad,cs,f1,f2,f3,f4⟩:=e4 i x hx;refine⟨ad,cs,f1,f2,f3,?_⟩;obtain⟨u,rfl⟩: ∃u,cs=[u]:=List.length_eq_one_iff.1 f2;have g1:=f4.2 0 u (.str x) rfl rfl;cases g1;rfl
theorem v7e{σ:Hv}{v:Value}{l:List Edg}(h:RepF D σ v (.sl C.edge l)):RSl 2 (REnc y36) σ v (l.map fun e=>(e.1,e.2)):=by
 obtain⟨a,cap,e1,e2,e3,e4⟩:=h.toRSl okP.ok;have hl:(l.map fun e=>(e.1,e.2)).length=l.length:=List.length_map ..;refine⟨a,cap,by rw[hl];exact e1,by rw[hl];exact e2,by rw[hl];exact e3,fun i x hx=> ?_⟩;rw[List.getElem?_map] at hx;obtain⟨y,hy,rfl⟩:=Option.map_eq_some_iff.1 hx;obtain⟨ad,cs,f1,f2,f3,f4⟩:=e4 i y hy;refine⟨ad,cs,f1,f2,f3,?_⟩;obtain⟨u,v,rfl⟩: ∃u v,cs=[u,v]:=by
  match cs,f2 with
  |[u,v],_=>exact⟨u,v,rfl⟩
 have g1:=f4.2 0 u (.str y.src) rfl rfl;have g2:=f4.2 1 v (.str y.dst) rfl rfl;cases g1;cases g2;rfl
theorem j96:q78 Proofs.Tryz.prog D 55 (conV ([.sl C.str,.sl C.edge]:LP) ([.sl C.str,.sl C.edge]:LV) ([.vec 9 C.str]:LV) ([.same,.same]:LV) (fun a K=>P_graph_Cyclic a.1 a.2.1 (fun q0=>K (q0,()) ((),(),())))):=by
 intro args K hm w σ vals ins hG hL hS;obtain⟨a,ha,hm⟩:=Ql hm;have hargs:=Ww ha;subst hargs;obtain⟨s,t,_⟩:=a;cases hL with
 | @cons _ _ v1 _ _ _ hp hr=>
 cases hr with
 | @cons _ _ v2 _ _ _ hq hr=>
 cases hr;cases hp with
 |f hf1=>
 cases hq with
 |f hf2=>
 have hm:Go.Fl.P_graph_Cyclic s (t.map fun e=>(e.1,e.2)) (fun l=>K [.vec 9 C.str l] [.same,.same]):=hm;refine Calls.mono (Go.Proofs.YtlmjknifmlifiaaGreatDoor.w_graph_Cyclic s (t.map fun e=>(e.1,e.2)) v1 v2 hS.view (y06 hf1) (v7e hf2) hm) ?_;rintro e w1 ⟨l,v,rfl,hS1,hsm,hK⟩;have hl:l.length<=140737488355328:=by unfold Sml at hsm;omega
 exact⟨[.vec 9 C.str l],[.same,.same],[v],σ,[vec v 9 1 l.length (l.flatMap Zh)],[],rfl,hK,.cons (.vec (j79 σ _) hl (q2l (hS1.get (i:=0) rfl))) .nil,.skip (a0:=[]) (.skip (a0:=[]) .nil),hS1⟩
theorem j8a:q78 Proofs.Tryz.prog D 244 (conV ([.v,.v]:LP) ([.str,.str]:LV) ([.vec 9 C.str]:LV) ([.same,.same]:LV) (fun a K=>q8d a.1 a.2.1 (fun q0=>K (q0,()) ((),(),())))):=by
 intro args K hm w σ vals ins hG hL hS;obtain⟨a,ha,hm⟩:=Ql hm;have hargs:=Ww ha;subst hargs;obtain⟨s,t,_⟩:=a;cases hL with
 |cons hp hr=>
 cases hr with
 |cons hq hr=>
 cases hr;cases hp with
 |f hf=>
 cases hf;cases hq with
 |f hf=>
 cases hf;have hm:t.size=1/\s.size<4294967281/\K [.vec 9 C.str (q14 s t)] [.same,.same]:=hm;obtain⟨h1,hsz,hm⟩:=hm;obtain⟨n,hn⟩:=hG.free 7 .i64 rfl;have hlen:(q14 s t).length=Go.Lib.countB s t+1:=Go.Lib.splitB_all t (by omega) 0 _ s rfl;have hcnt:=Go.Lib.countB_le t (by omega) s.size s (Nat.le_refl _);refine Calls.mono (Proofs.Tryz.strings_Split s t n w hsz (hS.view.cell hn) (by omega)) ?_;rintro e w' ⟨rfl,rfl⟩;have ho:(vec (.slice (some ⟨w.heap.size,0,none⟩) (q14 s t).length (q14 s t).length) 9 1 (q14 s t).length ((q14 s t).flatMap Zh)).ok (w.alloc (.cells ((q14 s t).map Value.string).toArray 9)):=by refine⟨by rw[z7x];simp,.inr ⟨w.heap.size,_,_,rfl,Nat.zero_le _,heap_alloc_new _ _,Nat.le_refl _,by unfold maxLen;omega,by simp,?_⟩⟩;rw[z7x,Nat.mul_one];exact t99 (by rw[List.length_map];exact Nat.le_refl _)
 have hS1:=hS.add (Wb w _) ho (by rintro k ⟨⟩;exact Nat.le_refl _);have hl:(q14 s t).length<=140737488355328:=by omega
 have hr:=(⟨[.vec 9 C.str (q14 s t)],[.same,.same],[_],σ,[_],[],rfl,hm,.cons (.vec (j79 σ _) hl (q2l ho)) .nil,.skip (a0:=[]) (.skip (a0:=[]) .nil),hS1⟩:Back D σ w [.f (.str s),.f (.str t)] [.string s,.string t] [] K (.returned (retV [.slice (some ⟨w.heap.size,0,none⟩) (q14 s t).length (q14 s t).length])) (w.alloc (.cells ((q14 s t).map Value.string).toArray 9)));rw[hlen] at hr;exact hr
theorem u0t: ∀c,c<256->v1v[c]? =some (if Go.Lib.isSp (UInt8.ofNat c) then (1:Int) else 0):=by decide
theorem v7f: ∀(ws:Bool) (l:List UInt8),Go.Lib.cntF ws l<=l.length
 |_,[]=>by simp[Go.Lib.cntF]
 |ws,b::l=>by have:=v7f (Go.Lib.isSp b) l;simp only[Go.Lib.cntF,List.length_cons];split<;>omega
theorem j5n:q78 Proofs.Tryz.prog D 155 (conV ([.v]:LP) ([.str]:LV) ([.vec 9 C.str]:LV) ([.same]:LV) (fun a K=>q6b a.1 (fun q0=>K (q0,()) ((),())))):=by
 intro args K hm w σ vals ins hG hL hS;obtain⟨a,ha,hm⟩:=Ql hm;have hargs:=Ww ha;subst hargs;obtain⟨s,_⟩:=a;cases hL with
 |cons hp hr=>
 cases hr;cases hp with
 |f hf=>
 cases hf;have hm:s.size<4294967281/\v69 s/\K [.vec 9 C.str (Hg s)] [.same]:=hm;obtain⟨hsz,hasc,hm⟩:=hm;have hT: ∀c:Nat,c<256->w.cell? ⟨Proofs.Tryz.lays157_ren.g 0,c,none⟩=some (.int .u8 (if Go.Lib.isSp (UInt8.ofNat c) then 1 else 0)):=fun c hc=>by have h:=hG.known (Proofs.Tryz.lays157_ren.g 0);obtain⟨v,h1,h2⟩:=j6r (T:= .u8) (n:=256) (l:=v1v) hS.view h (i:=c) (j:=0) (s:= .int .u8 (if Go.Lib.isSp (UInt8.ofNat c) then 1 else 0)) (u0t c hc) rfl (by decide);cases h2;simpa [show D.size C.u8=1 from rfl] using h1
 have hlen:(Hg s).length=(Go.Lib.fields s.data.toList).length:=by unfold Hg;rw[List.length_map]
 have hcnt:(Go.Lib.fields s.data.toList).length<=s.size:=by rw[Go.Lib.fields_length];exact Nat.le_trans (v7f _ _) (Nat.le_of_eq rfl)
 refine Calls.mono (Go.Proofs.Any.strings_Fields_core Proofs.Tryz.lays157 (by kernel_rfl) s w hsz hasc hT) ?_;rintro e w' ⟨rfl,rfl⟩;rw[show (Go.Lib.fields s.data.toList).map (fun l=>Value.string ⟨l.toArray⟩)=(Hg s).map Value.string by unfold Hg;rw[List.map_map];rfl,<-hlen];rw[<-hlen] at hcnt;have ho:(vec (.slice (some ⟨w.heap.size,0,none⟩) (Hg s).length (Hg s).length) 9 1 (Hg s).length ((Hg s).flatMap Zh)).ok (w.alloc (.cells ((Hg s).map Value.string).toArray 9)):=by refine⟨by rw[z7x];simp,.inr ⟨w.heap.size,_,_,rfl,Nat.zero_le _,heap_alloc_new _ _,Nat.le_refl _,by unfold maxLen;omega,by simp,?_⟩⟩;rw[z7x,Nat.mul_one];exact t99 (by rw[List.length_map];exact Nat.le_refl _)
 have hS1:=hS.add (Wb w _) ho (by rintro k ⟨⟩;exact Nat.le_refl _);exact (⟨[.vec 9 C.str (Hg s)],[.same],[_],σ,[_],[],rfl,hm,.cons (.vec (j79 σ _) (by omega) (q2l ho)) .nil,.skip (a0:=[]) .nil,hS1⟩:Back D σ w [.f (.str s)] [.string s] [] K (.returned (retV [.slice (some ⟨w.heap.size,0,none⟩) (Hg s).length (Hg s).length])) (w.alloc (.cells ((Hg s).map Value.string).toArray 9)))
end Go.En
end
noncomputable section
open Go Go.RowKit Go.Fl Go.Fl.Lk Go.Fx
namespace Go.En
def j1g(X:z2n):Con Sg:=conS [.int .i64] [.bool] fun a K=>X a.1 (fun q0=>K (q0,()))
theorem w29:MT 128 (j1g B4):=mS (l:=[]) trivial []
def Ri(X:J3):Con Sg:=conS [.sl C.str,.sl C.str] [.bool] fun a K=>X a.1 a.2.1 (fun q0=>K (q0,()))
theorem q6g:MT 180 (Ri J4):=mS (l:=[]) trivial [(9,⟨bl 8131,[],[],[sI 13]⟩)]
def z5u(X:q9q):Con Sg:=conS [.el C.val,.el C.val] [.bool] fun a K=>X a.1 a.2.1 (fun q0=>K (q0,()))
theorem w6d{J6:J3}(h:AL [(180,Ri J6)]):MT 124 (z5u (z48 J6)):=mS h []
theorem w6e:MT 124 (z5u q15):=w6d ⟨q6g,trivial⟩
def z9o(X:q1q):Con Sg:=conV [.el C.ex,.el C.ex] [.el C.ex,.el C.ex] [.bool] [.same,.same] fun a K=>X a.1 a.2.1 (fun q0=>K (q0,()) ((),(),()))
theorem j8b:MT 67 (z9o Wx):=by show MT _ (conV ([.el C.ex,.el C.ex]:LP) ([.el C.ex,.el C.ex]:LV) ([.bool]:LV) ([.same,.same]:LV) fun a K=>Wx a.1 a.2.1 (fun q0=>K (q0,()) ((),(),())));exact mQ (l:=[(124,z5u q15)]) (u:=4) (rk:=[.v]) ⟨w6e,trivial⟩ (by kernel_rfl) [(124000009,⟨bl 130055,[],[],[sI 17]⟩),(126000009,⟨bl 130055,[],[],[sI 17]⟩)] (fun X a K=>z9b q15 (fun a b K=>X (a,b,()) fun r _=>K r.1) a.1 a.2.1 (fun q0=>K (q0,()) ((),(),()))) (fun _ _ _=>by kernel_rfl) fun a K h X hX=>h (fun a b K=>X (a,b,()) fun r _=>K r.1) fun a b K hs=>hX (a,b,()) (fun r _=>K r.1) hs
def z8p(X:Gg):Con Sg:=conV [.own 40 C.ex,.el C.ex] [.vec 40 C.ex,.el C.ex] [.vec 40 C.ex] [.same,.same] fun a K=>X a.1 a.2.1 (fun q0=>K (q0,()) ((),(),()))
theorem j97:MT 76 (z8p q00):=by show MT _ (conV ([.own 40 C.ex,.el C.ex]:LP) ([.vec 40 C.ex,.el C.ex]:LV) ([.vec 40 C.ex]:LV) ([.same,.same]:LV) fun a K=>q00 a.1 a.2.1 (fun q0=>K (q0,()) ((),(),())));exact mQ (l:=[(128,j1g B4),(67,z9o Wx)]) (u:=4) (rk:=[.own 40 C.ex]) ⟨w29,j8b,trivial⟩ (by kernel_rfl) [(6,⟨[1,3,4],[1],[],[(.slot 0,.own 40 C.ex)]⟩),(9,⟨bl 234881050,[1],[],[(.slot 0,.own 40 C.ex),sI 28]⟩),(66000005,⟨bl 195,[0],[],[sI 8]⟩)] (fun X a K=>q45 B4 Wx (fun l e K=>X (l,e,()) fun r _=>K r.1) a.1 a.2.1 (fun q0=>K (q0,()) ((),(),()))) (fun _ _ _=>by kernel_rfl) fun a K h X hX=>h (fun l e K=>X (l,e,()) fun r _=>K r.1) fun l e K hs=>hX (l,e,()) (fun r _=>K r.1) hs
def j1h(X:z2o):Con Sg:=conS [.el C.val] [.el C.val] fun a K=>X a.1 (fun q0=>K (q0,()))
theorem w3a:MT 132 (j1h B5):=mS (l:=[]) trivial []
def j4z(X:R6):Con Sg:=conV [.el C.ex] [.el C.ex] [.el C.ex] [.same] fun a K=>X a.1 (fun q0=>K (q0,()) ((),()))
theorem w6f:MT 77 (j4z q9r):=by show MT _ (conV ([.el C.ex]:LP) ([.el C.ex]:LV) ([.el C.ex]:LV) ([.same]:LV) fun a K=>q9r a.1 (fun q0=>K (q0,()) ((),())));exact mQ (l:=[(132,j1h B5)]) (u:=4) (rk:=[.el C.ex]) ⟨w3a,trivial⟩ (by kernel_rfl) [(132000007,⟨bl 7955,[],[],[(.slot 5,.own 144 C.val),sI 13]⟩),(76000007,⟨bl 7955,[],[],[(.slot 5,.own 40 C.ex),sI 13]⟩)] (fun X a K=>z5a B5 (fun e K=>X (e,()) fun r _=>K r.1) a.1 (fun q0=>K (q0,()) ((),()))) (fun _ _ _=>by kernel_rfl) fun a K h X hX=>h (fun e K=>X (e,()) fun r _=>K r.1) fun e K hs=>hX (e,()) (fun r _=>K r.1) hs
def q5c(X:Gh):Con Sg:=conS [.el C.ex] [.sl C.ex] fun a K=>X a.1 (fun q0=>K (q0,()))
theorem j98{q5e:Gg}{z0g:R6}(h:AL [(76,z8p q5e),(77,j4z z0g)]):MT 29 (q5c (q01 q5e z0g)):=mS h [(76000007,⟨bl 7955,[1],[],[(.slot 5,.own 40 C.ex),sI 13]⟩)]
theorem z8q:MT 29 (q5c V7):=j98 ⟨j97,w6f,trivial⟩
def j1i(X:q6v):Con Sg:=conV [] [] [.ptr 129 [.vec 136 C.node,.map C.node C.i64,.bool]] [] fun _ K=>X (fun q0 q1 q2=>K ((q0,q1,q2,()),()) ())
theorem w3b:MT 22 (j1i Hh):=mP (rk:=[.ptr 129 [.own 136 C.node,.map C.node C.i64,.v]]) (l:=[]) trivial []
def Va(X:Zi):Con Sg:=conV [.ptr 129 [.own 136 C.node,.map C.node C.i64,.v],.v] [.ptr 129 [.vec 136 C.node,.map C.node C.i64,.bool],.int .i64] [.int .i64] [.ptr 129 [.vec 136 C.node,.map C.node C.i64,.bool],.same] fun a K=>X a.1.1 a.1.2.1 a.1.2.2.1 a.2.1 (fun q0 q1 q2 q3=>K (q0,()) ((q1,q2,q3,()),(),()))
theorem Ul:MT 30 (Va Zj):=mP (rk:=[.v]) (l:=[]) trivial []
def Vw(X:Zn):Con Sg:=conV [.ptr 129 [.own 136 C.node,.map C.node C.i64,.v],.v] [.ptr 129 [.vec 136 C.node,.map C.node C.i64,.bool],.int .i64] [.bool] [.ptr 129 [.vec 136 C.node,.map C.node C.i64,.bool],.same] fun a K=>X a.1.1 a.1.2.1 a.1.2.2.1 a.2.1 (fun q0 q1 q2 q3=>K (q0,()) ((q1,q2,q3,()),(),()))
theorem Gm:MT 69 (Vw Jx):=mP (rk:=[.v]) (l:=[]) trivial []
def q6q(X:q0w):Con Sg:=conV [.ptr 129 [.own 136 C.node,.map C.node C.i64,.v],.v] [.ptr 129 [.vec 136 C.node,.map C.node C.i64,.bool],.int .i64] [.map C.i64 C.bool] [.ptr 129 [.vec 136 C.node,.map C.node C.i64,.bool],.same] fun a K=>X a.1.1 a.1.2.1 a.1.2.2.1 a.2.1 (fun q0 q1 q2 q3=>K (q0,()) ((q1,q2,q3,()),(),()))
theorem z8h{Qn:Zn}(h:AL [(69,Vw Qn)]):MT 184 (q6q (q6o Qn)):=mPg 3 (rk:=[.map C.i64 C.bool]) h [(230999999,⟨[1,2,3],[3,5,7,0,9,2],[],[(.slot 0,.int .i64),(.obj 4,.map C.i64 C.bool)]⟩)]
theorem z8i:MT 184 (q6q Wu):=z8h ⟨Gm,trivial⟩
end Go.En
end
noncomputable section
namespace Go.En
open Go Go.Proofs Go.RowKit Go.Fl Go.Maps Go.Sort
abbrev ki:Int->Value:=fun x=> .int .i64 x
theorem j8c(es:Array MapEntry)(s:Array Nat):(leftOf es s).size=es.toList.countP fun e'=> !s.contains e'.born:=by unfold leftOf;rw[<-Array.length_toList,Array.toList_filter,List.countP_eq_length_filter]
theorem w88{es:Array MapEntry}{seen:Array Nat}{e:MapEntry}(he:e∈es.toList)(hs:e.born∉seen.toList):(leftOf es (seen.push e.born)).size<(leftOf es seen).size:=by
 rw[j8c,j8c];generalize es.toList=l at he
 have hle: ∀l:List MapEntry,(l.countP fun e'=> !(seen.push e.born).contains e'.born)<=l.countP fun e'=> !seen.contains e'.born:=fun l=>
  List.countP_mono_left fun x _ hx=>by simp at hx⊢;exact hx.1
 induction l with
 |nil=>simp at he
 |cons x l ih=>
  rw[List.countP_cons,List.countP_cons];have hx:=hle l;rcases List.mem_cons.1 he with rfl|hm
  .have h1:(!(seen.push e.born).contains e.born)=false:=by simp
   have h2:(!seen.contains e.born)=true:=by simpa using hs
   rw[h1,h2];simp only[Bool.false_eq_true,if_false,if_true];omega
  .have:=ih hm;have hx1:(!(seen.push e.born).contains x.born)=true->(!seen.contains x.born)=true:=fun h=>by simp at h⊢;exact h.1
   cases h1:(!(seen.push e.born).contains x.born) with
   |false=>simp only[Bool.false_eq_true,if_false];split<;>omega
   |true=>rw[hx1 h1];simp only[if_true];omega
def lft(w:World)(r:Nat)(es:Array MapEntry):Nat:=
 match w.heap[r]? with
 |some (.mapIter _ _ seen _)=>(leftOf es seen).size
 |_=>0
theorem v7g{w:World}{r b clock:Nat}{es:Array MapEntry}{done:List Int}{cur:Option (Int×Value)}(hi:(itrK ki r b es clock done cur).ok w)(hb:w.heap[b]? =some (.map es clock))(hK:z08 ki es.toList)(hM:MBk es.toList clock)(ty:TypeId):
  ((∀k v,lkK ki es.toList k=some v->k∈done)/\(Instr.next (.pointer (some ⟨r,0,none⟩)) false ty).run Tryz.prog w= .ok (.tuple #[.bool false]) w)\/
  ∃k v w',lkK ki es.toList k=some v/\k∉done/\(Instr.next (.pointer (some ⟨r,0,none⟩)) false ty).run Tryz.prog w= .ok (.tuple #[.bool true,.int .i64 k,v]) w'/\Keeps [r] w w'/\(itrK ki r b es clock (k::done) (some (k,v))).ok w'/\lft w' r es<lft w r es:=by
 obtain⟨seen,k1,k2,k3⟩:=hi;have hold: ∀x∈es.toList,x.born<clock:=fun x hx=>hM.2.2 _ (List.mem_map.2 ⟨x,hx,rfl⟩)
 have hmem: ∀e,e∈(leftOf es seen).toList↔e∈es.toList/\e.born∉seen.toList:=by intro e;simp[leftOf]
 rcases run_next_at (P:=Tryz.prog) w ty r b clock clock seen es clock k1 hb hold (Nat.le_refl _) with ⟨hz,hr⟩|⟨e,he,w1,hw,hr⟩
 .refine .inl ⟨fun k v hk=> ?_,hr⟩;obtain⟨e,he,hek,_⟩:=(q2n hM.1 k v).1 hk;have hin:e.born∈seen.toList:=by
   rcases Classical.em (e.born∈seen.toList) with hh|hh
   .exact hh
   .exfalso;have:=(hmem e).2 ⟨he,hh⟩;rw[Array.eq_empty_of_size_eq_zero hz] at this;simp at this
  obtain⟨k',hk',e'⟩:=(k2 e he).1 hin;have:ki k=ki k':=hek.symm.trans e';simp only[ki,Value.int.injEq,true_and] at this;rw[this];exact hk'
 .obtain⟨hes,hns⟩:=(hmem e).1 he;obtain⟨k,hk⟩:=hK e hes;have hlt:r<w.heap.size:=(Array.getElem?_eq_some_iff.1 k1).1;have hheap:w1.heap=w.heap:=by rcases hw with rfl|rfl<;>rfl
  rw[hk] at hr;have hnew:(ChangeMaps.setBlock w1 r (.mapIter (some b) clock (seen.push e.born) clock)).heap[r]? =some (.mapIter (some b) clock (seen.push e.born) clock):=by show (w1.heap.setIfInBounds r _)[r]? =_;rw[Array.getElem?_setIfInBounds,if_pos rfl,hheap,if_pos hlt]
  refine .inr ⟨k,e.val,_,(q2n hM.1 k e.val).2 ⟨e,hes,hk,rfl⟩,fun hd=>hns ((k2 e hes).2 ⟨k,hd,hk⟩),hr,⟨?_,?_,?_,?_,fun j hj hm=> ?_⟩,⟨seen.push e.born,hnew,fun e' he'=> ?_,fun kv hkv=> ?_⟩,?_⟩
  .rcases hw with rfl|rfl<;>rfl
  .rcases hw with rfl|rfl<;>rfl
  .rcases hw with rfl|rfl<;>rfl
  .simp[ChangeMaps.setBlock,hheap]
  .show (w1.heap.setIfInBounds r _)[j]? =_;rw[Array.getElem?_setIfInBounds,if_neg (by intro e;exact hm (by simp[e])),hheap]
  .rw[Array.toList_push,List.mem_append,k2 e' he',List.mem_singleton];constructor
   .rintro (⟨q,h1,h2⟩|hb)
    .exact⟨q,by simp[h1],h2⟩
    .have h5:=find_born e es.toList hM.2.1 hes;have h6:=find_born e' es.toList hM.2.1 he';rw[hb,h5] at h6;cases h6;exact⟨k,by simp,hk⟩
   .rintro⟨q,h1,h2⟩;rcases List.mem_cons.1 h1 with rfl|h1
    .right;exact congrArg MapEntry.born (q56 hM.1 he' hes (h2.trans hk.symm))
    .exact .inl ⟨q,h1,h2⟩
  .cases hkv;exact⟨seen,e,rfl,hes,hk,rfl⟩
  .unfold lft;rw[hnew,k1];exact w88 hes hns
variable {n:Nat}{ops:Array Oper}{Q:Exit->Act->World->Prop}{rest:List Oper}{o:Oper}{a:Act}
theorem y07{F:Fence}{P:Program}{w:World}{b clock:Nat}{es:Array MapEntry}(hg:o.guard=none){m:Operand}{t:TypeId}(hop:o.op=Op.range t m){kt et:TypeId}(ht:P.underlying t=some (.map kt et))(hm:a.eval m= .map (some b))(hb:w.heap[b]? =some (.map es clock))
  (hK:wpListIn F n P ops Q rest (a.put o.dst (.pointer (some ⟨w.heap.size,0,none⟩))) (w.alloc (.mapIter (some b) clock #[] clock))):wpListIn F n P ops Q (o::rest) a w:=by
 refine wpListIn_plain hg fun K' hK'=> ?_
 unfold Oper.wpIn;refine⟨by simp[Oper.about,hop],?_⟩;rw[Oper.semAt_plain F _ _ (by rw[hop];intro c hc';cases hc')];simp[execOp,hop,hm,Instr.range,Sem.run_bind,run_underlying ht,MapKept.run_getObj_map hb];exact hK' _ _ hK
theorem y5s{F:Fence}{w:World}{r b clock:Nat}{es:Array MapEntry}{done:List Int}{cur:Option (Int×Value)}(hg:o.guard=none){it:Operand}(hop:o.op=Op.next it false)(hit:a.eval it= .pointer (some ⟨r,0,none⟩))
  (hi:(itrK ki r b es clock done cur).ok w)(hb:w.heap[b]? =some (.map es clock))(hK:z08 ki es.toList)(hM:MBk es.toList clock)
  (h0:(∀k v,lkK ki es.toList k=some v->k∈done)->wpListIn F n Tryz.prog ops Q rest (a.put o.dst (.tuple #[.bool false])) w)
  (h1: ∀k v w',lkK ki es.toList k=some v->k∉done->Keeps [r] w w'->(itrK ki r b es clock (k::done) (some (k,v))).ok w'->lft w' r es<lft w r es->wpListIn F n Tryz.prog ops Q rest (a.put o.dst (.tuple #[.bool true,.int .i64 k,v])) w'):
  wpListIn F n Tryz.prog ops Q (o::rest) a w:=by
 refine wpListIn_plain hg fun K' hK'=> ?_
 unfold Oper.wpIn;refine⟨by simp[Oper.about,hop],?_⟩;rw[Oper.semAt_plain F _ _ (by rw[hop];intro c hc';cases hc')];rcases v7g hi hb hK hM o.type with ⟨h2,hrun⟩|⟨k,v,w',h2,h3,hrun,h4,h5,h6⟩
 .simp[execOp,hop,hit,hrun,Result.andThen];exact hK' _ _ (h0 h2)
 .simp[execOp,hop,hit,hrun,Result.andThen];exact hK' _ _ (h1 k v w' h2 h3 h4 h5 h6)
theorem y08{F:Fence}{w:World}{r b clock:Nat}{es:Array MapEntry}{done:List Int}{k:Int}{v:Value}(hg:o.guard=none){it:Operand}(hop:o.op=Op.entry it)(hit:a.eval it= .pointer (some ⟨r,0,none⟩))
  (hi:(itrK ki r b es clock done (some (k,v))).ok w)(hb:w.heap[b]? =some (.map es clock))(hM:MBk es.toList clock)
  (h:wpListIn F n Tryz.prog ops Q rest (a.put o.dst (.tuple #[.int .i64 k,v])) w):wpListIn F n Tryz.prog ops Q (o::rest) a w:=by
 refine wpListIn_plain hg fun K' hK'=> ?_
 unfold Oper.wpIn;refine⟨by simp[Oper.about,hop],?_⟩;rw[Oper.semAt_plain F _ _ (by rw[hop];intro c hc';cases hc')];obtain⟨seen,k1,k2,k3⟩:=hi;obtain⟨s0,e,rfl,he,hk,hv⟩:=k3 _ rfl;have hrun:=run_entry_at (P:=Tryz.prog) w r b clock s0 es clock e k1 hb he hM.2.1;rw[hk,hv] at hrun;simp[execOp,hop,hit,hrun,Result.andThen];exact hK' _ _ h
end Go.En
namespace Go.En
open Go Go.Proofs Go.RowKit Go.Fl Go.Maps Go.Sort
set_option maxHeartbeats 1000000 in
theorem u0u(n:Nat)(hn:1<=n)(l Bm b clock:Nat)(es:Array MapEntry)(hK:z08 ki es.toList)(hM:MBk es.toList clock)(J:List Int->World->Prop)(W:World)
  (hJ: ∀pre W1 W2,J pre W1->W.heap.size<W1.heap.size\/W1=W->Keeps [W.heap.size] W1 W2->J pre W2)(hb: ∀pre W1,J pre W1->W1.heap[b]? =some (.map es clock))
  (hY: ∀pre x W1,J pre W1->W.heap.size<W1.heap.size->x∉pre->(lkK ki es.toList x).isSome=true->YieldAt Fence.wide (n - 1) Tryz.prog l #[.int .i64 x] W1 fun e W2=>e= .returned (.bool true)/\J (pre++[x]) W2/\W2.heap[W.heap.size]? =W1.heap[W.heap.size]? /\W1.heap.size<=W2.heap.size)
  (hm:W.cell? ⟨Bm,0,none⟩=some (.map (some b)))(h0:J [] W):
  CallsIn Fence.wide n Tryz.prog 228 #[.func (.yield l) #[] #[],.pointer (some ⟨Bm,0,none⟩)] W fun e W'=>(∃v,e= .returned v)/\∃ss:List Int,ss.Nodup/\(∀k,k∈ss↔(lkK ki es.toList k).isSome=true)/\J ss W':=by
 refine callsIn_of_wp Tryz.func228 rfl trivial ?_ rfl;simp only[Tryz.ntmps228,List.size_toArray,List.length_cons,List.length_nil,Nat.reduceAdd,Nat.reduceSub,Array.replicate_succ,Array.replicate_zero,List.push_toArray,List.append_toArray,List.nil_append,List.cons_append]
 gi_wp2_with (first
  |(gi_at_range;refine y07 rfl rfl (kt:=3) (et:=4) Tryz.underlying244 rfl (hb _ _ h0) ?_)
  |gi_in)
 have hsz:(W.alloc (.mapIter (some b) clock #[] clock)).heap.size=W.heap.size+1:=by simp
 have hJ0:J [] (W.alloc (.mapIter (some b) clock #[] clock)):=hJ _ _ _ h0 (.inr rfl) ((Wb W _).mono (by simp));have hi0:(itrK ki W.heap.size b es clock [] none).ok (W.alloc (.mapIter (some b) clock #[] clock)):=⟨#[],heap_alloc_new _ _,by simp,by simp⟩;generalize W.alloc (.mapIter (some b) clock #[] clock)=W0 at hsz hJ0 hi0⊢
 go_frame
 gi_loopw [3] (fun _ wr=> ∃(done:List Int) (cur:Option (Int×Value)),(itrK ki W.heap.size b es clock done cur).ok wr/\done.Nodup/\(∀k∈done,(lkK ki es.toList k).isSome=true)/\J done.reverse wr/\W.heap.size<wr.heap.size) (fun _ wr=>lft wr W.heap.size es)
 case atStart=>exact⟨[],none,hi0,by simp,by simp,hJ0,by omega⟩
 case round=>
  obtain⟨done,cur,hi,hnd,hin,hJr,hlt⟩:=hrel
  gi_wp2_with (first
   |(gi_at_next;refine y5s rfl rfl rfl hi (hb _ _ hJr) hK hM ?_ ?_)
   |gi_in)
  .intro hall
   gi_wp2
   go_end0
   exact⟨⟨_,rfl⟩,done.reverse,by unfold List.Nodup;rw[List.pairwise_reverse];exact hnd.imp (fun h=>h.symm),fun k=>by
    rw[List.mem_reverse]
    exact⟨hin k,fun hk=>by obtain⟨v,hv⟩:=Option.isSome_iff_exists.1 hk;exact hall k v hv⟩,hJr⟩
  .intro k v w2 hk hkd hkeep hi2 hlft;have hJ2:J done.reverse w2:=hJ _ _ _ hJr (.inl hlt) hkeep;have hlt2:W.heap.size<w2.heap.size:=Nat.lt_of_lt_of_le hlt hkeep.size;obtain⟨fn,tmps,assign,body,hy,hR⟩:=hY _ k w2 hJ2 hlt2 (by simpa using hkd) (by rw[hk];rfl)
   gi_wp2_with (first
    |(refine y08 rfl rfl rfl hi2 (hb _ _ hJ2) hM ?_)
    |gi_in)
   refine hR.mono ?_;rintro e W3 ⟨rfl,hJ3,hr3,hs3⟩
   gi_wp2
   have hi3:(itrK ki W.heap.size b es clock (k::done) (some (k,v))).ok W3:=HObj.stay _ w2 W3 (fun q hq=>by cases hq;exact hr3) hi2
   go_roundw
   case rel=>exact⟨k::done,_,hi3,List.nodup_cons.2 ⟨hkd,hnd⟩,fun q hq=>by
    rcases List.mem_cons.1 hq with rfl|hq
    .rw[hk];rfl
    .exact hin q hq,by rw[List.reverse_cons];exact hJ3,by omega⟩
   case measure=>unfold lft at hlft⊢;rw[hr3];exact hlft
end Go.En
namespace Go.En
open Go Go.Proofs Go.RowKit Go.Fl Go.Maps Go.Sort
def w3c:Code:=Code.region 3 #[{dst:=some 6,op:=Op.assign (Operand.tmp 11),type:=3,pos:= "diagram.go:181",after:= #[],guard:=none}] false
def v7h:Code:=Code.block 1 ((Code.region 4 #[{dst:=some 12,op:=Op.move (Operand.tmp 6),type:=3,pos:= "diagram.go:182",after:= #[],guard:=none},
 {dst:=some 13,op:=Op.binOp BinOp.lss 3 (Operand.tmp 12) (Operand.const (Value.int .i64 0)) 3,type:=4,pos:= "diagram.go:182",after:= #[{on:=0,ground:=Ground.data}],guard:=none}] false).seq
 (Code.cond (Operand.tmp 13) (Code.region 5 #[{dst:=some 14,op:=Op.load 26 (Operand.tmp 5),type:=26,pos:= "diagram.go:183",after:= #[],guard:=none},
  {dst:=some 15,op:=Op.move (Operand.tmp 6),type:=3,pos:= "diagram.go:183",after:= #[],guard:=none},
  {dst:=some 16,op:=Op.binOp BinOp.sub 3 (Operand.const (Value.int .i64 (-1))) (Operand.tmp 15) 3,type:=3,pos:= "diagram.go:183",after:= #[{on:=1,ground:=Ground.data}],guard:=none},
  {dst:=some 17,op:=Op.buildSlice 26 1 #[(0,Operand.tmp 16)],type:=26,pos:= "diagram.go:183",after:= #[{on:=2,ground:=Ground.data}],guard:=none},
  {dst:=some 18,op:=Op.call {callee:=Callee.builtin Builtin.append,args:= #[Operand.tmp 14,Operand.tmp 17],argTypes:= #[26,26]},type:=26,pos:= "diagram.go:183",after:= #[{on:=0,ground:=Ground.data},{on:=3,ground:=Ground.data}],guard:=none},
  {dst:=none,op:=Op.store 26 (Operand.tmp 5) (Operand.tmp 18),type:=0,pos:= "diagram.go:183",after:= #[{on:=4,ground:=Ground.data},{on:=4,ground:=Ground.chain},{on:=0,ground:=Ground.phase},{on:=1,ground:=Ground.phase},{on:=2,ground:=Ground.phase},{on:=3,ground:=Ground.phase},{on:=4,ground:=Ground.phase}],guard:=none}] false) Code.skip))
def j5o(fn:FuncId)(v0 v1 sv m:Value)(Bs D:Nat)(st:LoopState)(pend:Option Code):Loop:=
 {state:=st,pending:=pend,fn,tmps:= #[v0,v1,undef,undef,.slice none 0 0,.pointer (some ⟨Bs,0,none⟩),undef,v0,v1,m,sv,undef,undef,undef,undef,undef,undef,undef,undef,undef,undef,undef],params:= #[11],assign:=w3c,body:=v7h,defers:=D}
def outL(ss:List Int):List Int:=(ss.filter fun x=>decide (x<0)).map fun x=> -1 - x
structure LvAt(w0:World)(fn:FuncId)(v0 v1 sv m:Value)(Bs:Nat)(ss:List Int)(W:World):Prop where
 box: ∃v,W.heap[Bs]? =some (.cells #[v] 26 (0,0))/\W.ownsRow (w0.heap.size+3) 3 1 v (outL ss).length ((outL ss).map ki)
 L:W.heap[w0.heap.size+1]? =some (.loop (j5o fn v0 v1 sv m Bs w0.heap.size .ready none))
 K:W.heap[w0.heap.size]? =some (.deferred (some []))
 keeps:Keeps [Bs] w0 W
theorem j1j(W:World)(l:Nat)(o:Obj):W.grownBy (W.putObj l o) (some l):=
 ⟨rfl,rfl,rfl,by simp,fun k _ hk=>World.putObj_heap_other (fun e=>hk (by rw[e]))⟩
theorem y8j(W:World)(b:Nat)(v:Value):W.grownBy (W.setCell ⟨b,0,none⟩ v) (some b):=
 ⟨rfl,rfl,rfl,(KeepsWalks.setCell W _ v).size,fun k _ hk=>Below.heap_setCell _ _ _ k (fun e=>hk (by rw[e]))⟩
theorem w6g{W:World}{base:Nat}{e:TypeId}{size:Nat}{v:Value}{k:Nat}{xs:List Value}(h:W.ownsRow base e size v k xs){j:Nat}{o:Obj}(hj:W.heap[j]? =some o)(hno: ∀cur,o≠ .cells cur e (0,0)):
  v.ownBlock=none\/v.ownBlock≠some j:=by
 rcases h.2 with ⟨rfl,_⟩|⟨g,cap,cur,rfl,_,hgb,_⟩
 .exact .inl rfl
 .refine .inr fun e'=> ?_
  have:g=j:=by simpa [Value.ownBlock] using e'
  subst this;rw[hgb] at hj;cases hj;exact hno cur rfl
theorem w3d{W:World}{B:Nat}{v:Value}{t:TypeId}(h:W.heap[B]? =some (.cells #[v] t (0,0))):W.cell? ⟨B,0,none⟩=some v/\W.frozen? ⟨B,0,none⟩=false:=by constructor<;>simp[World.cell?,World.frozen?,h]
theorem v7i{W:World}{B:Nat}{v:Value}{t:TypeId}(v':Value)(h:W.heap[B]? =some (.cells #[v] t (0,0))):(W.setCell ⟨B,0,none⟩ v').heap[B]? =some (.cells #[v'] t (0,0)):=by obtain⟨hlt,hk⟩:=Array.getElem?_eq_some_iff.1 h;show (W.heap.modify B _)[B]? =_;rw[Array.getElem?_eq_getElem (by rw[Array.size_modify];exact hlt),Array.getElem_modify_self,hk];rfl
theorem q7b{w w1 w2:World}{M:List Nat}{row:Option Nat}(h:Keeps M w w1)(g:w1.grownBy w2 row)(hr: ∀k,row=some k->k∈M\/w.heap.size<=k):Keeps M w w2:=
 ⟨g.os.trans h.os,g.tape.trans h.tape,g.output.trans h.output,Nat.le_trans h.size g.size,fun k hk hm=>(g.block k (Nat.lt_of_lt_of_le hk h.size) (fun e=>by
  rcases hr k e.symm with h1|h1
  .exact hm h1
  .omega)).trans (h.block k hk hm)⟩
theorem w6h(ss:List Int)(x:Int):outL (ss++[x])=if x<0 then outL ss++[-1 - x] else outL ss:=by unfold outL;rw[List.filter_append,List.map_append];by_cases h:x<0<;>simp[h]
theorem v7j(ss:List Int):(outL ss).length<=ss.length:=by unfold outL;rw[List.length_map];exact List.length_filter_le _ _
set_option maxHeartbeats 2000000 in
theorem y5t(w0:World)(fn:FuncId)(v0 v1 sv m:Value)(Bs:Nat)(hB:Bs<w0.heap.size)(q:Nat)(ss:List Int)(x:Int)(W:World)(h:LvAt w0 fn v0 v1 sv m Bs ss W)(hlen:ss.length<=4294967296)(hsz:w0.heap.size+2<W.heap.size)(hx: -9223372036854775808<=x)(hx':x<=9223372036854775807):
  YieldAt Fence.wide q Tryz.prog (w0.heap.size+1) #[.int .i64 x] W fun e W'=>e= .returned (.bool true)/\LvAt w0 fn v0 v1 sv m Bs (ss++[x]) W'/\W'.heap[w0.heap.size+2]? =W.heap[w0.heap.size+2]? /\W.heap.size<=W'.heap.size:=by
 obtain⟨v,hv,hrow⟩:=h.box;refine⟨fn,#[v0,v1,undef,undef,.slice none 0 0,.pointer (some ⟨Bs,0,none⟩),undef,v0,v1,m,sv,.int .i64 x,undef,undef,undef,undef,undef,undef,undef,undef,undef,undef],w3c,v7h,by simpa [j5o] using run_yield (P:=Tryz.prog) (args:= #[.int .i64 x]) h.L rfl,roundIn_of_wpIn trivial ?_⟩;have hl:w0.heap.size+1<W.heap.size:=(Array.getElem?_eq_some_iff.1 h.L).1;have hbr:=run_beginRound (P:=Tryz.prog) h.L rfl;obtain⟨W2,hW2⟩: ∃W2,W.putObj (w0.heap.size+1) (.loop {j5o fn v0 v1 sv m Bs w0.heap.size .ready none with state:= .busy})=W2:=⟨_,rfl⟩;rw[hW2] at hbr;have hg2:W.grownBy W2 (some (w0.heap.size+1)):=by rw[<-hW2];exact j1j _ _ _
 have hv2:W2.heap[Bs]? =some (.cells #[v] 26 (0,0)):=by rw[<-hW2];exact (World.putObj_heap_other (by omega)).trans hv
 have hK2:W2.heap[w0.heap.size]? =some (.deferred (some [])):=by rw[<-hW2];exact (World.putObj_heap_other (by omega)).trans h.K
 have hL2:W2.heap[w0.heap.size+1]? =some (.loop {j5o fn v0 v1 sv m Bs w0.heap.size .ready none with state:= .busy}):=by rw[<-hW2];exact World.putObj_heap_same hl
 have hr2:W2.heap[w0.heap.size+2]? =W.heap[w0.heap.size+2]? :=by rw[<-hW2];exact World.putObj_heap_other (by omega)
 have hrow2:W2.ownsRow (w0.heap.size+3) 3 1 v (outL ss).length ((outL ss).map ki):=hrow.kept hg2 (w6g hrow h.L (fun cur e=>by cases e));have hk2:Keeps [Bs] w0 W2:=q7b h.keeps hg2 (fun k e=>by cases e;right;omega);obtain⟨hc2,hf2⟩:=w3d hv2;have hBlt:Bs<W2.heap.size:=(Array.getElem?_eq_some_iff.1 hv2).1;have hl2:w0.heap.size+1<W2.heap.size:=(Array.getElem?_eq_some_iff.1 hL2).1;have hs2:W.heap.size<=W2.heap.size:=hg2.size;clear hW2;unfold w3c
 gi_wp2_with (rw[Oper.semAt_eq _ _ _ (fun c h=>by cases h)];go_simp;try go_bits)
 obtain⟨i0,hi⟩: ∃i,Tryz.prog.info? 3=some i:=Option.isSome_iff_exists.1 (by kernel_rfl);have hz0:i0.zero=some (.int .i64 0):=by
  have e:(Tryz.prog.info? 3).bind (·.zero)=some (.int .i64 0):=by kernel_rfl
  rw[hi] at e;exact e
 have hz1:i0.size=1:=by
  have e:(Tryz.prog.info? 3).map (·.size)=some 1:=by kernel_rfl
  rw[hi] at e;exact Option.some.inj e
 have hz2:i0.bytes=8:=by
  have e:(Tryz.prog.info? 3).map (·.bytes)=some 8:=by kernel_rfl
  rw[hi] at e;exact Option.some.inj e
 have hol:=v7j ss;have ne_of: ∀{j:Nat} {o:Obj},W2.heap[j]? =some o->(∀cur,o≠ .cells cur 3 (0,0))->some j≠v.ownBlock:=fun hj hno=>by
  rcases w6g hrow2 hj hno with e|e
  .rw[e];simp
  .exact fun e'=>e e'.symm
 unfold v7h;by_cases hneg:x<0
 .gi_wp2_with (first
   |skip
    gi_at_builtin;refine wpListIn_append_own _ rfl _ _ 26 rfl (w0.heap.size+3) 3 i0 (.int .i64 0) 1 8 Tryz.underlying26 hi hz0 hz1 hz2 rfl (by decide) _ _ _ rfl (hrow2.alloc _) ⟨W2.heap.size,0,none⟩ 1 1 [.int .i64 (-1 - x)] rfl rfl (cell_one_new _ _ _) (by simp[Value.oneCell']) (by unfold maxLen;omega) (by omega) (by simp;omega) ?_;intro v' w3 hown' hg3 hnil3
    have hv3:w3.heap[Bs]? =some (.cells #[v] 26 (0,0)):=(hg3.block Bs (by simp;omega) (ne_of hv2 (fun cur e=>by cases e))).trans ((Below.heap_alloc _ _ Bs hBlt).trans hv2);obtain⟨hc3,hf3⟩:=w3d hv3;obtain⟨g',cap',cur',rfl,hbase',hgb',hr1,hr3,hr4,hr5⟩: ∃g' cap' cur',v'= .slice (some ⟨g',0,none⟩) ((outL ss).length+1) cap'/\w0.heap.size+3<=g'/\w3.heap[g']? =some (.cells cur' 3 (0,0))/\(outL ss).length+1<=cap'/\cap'<=maxLen/\cur'.size=cap'*1/\cur'.toList.take (((outL ss).length+1)*1)=(outL ss).map ki++[.int .i64 (-1 - x)]:=by
     rcases hown'.2 with ⟨_,h0⟩|h'
     .exact absurd h0 (by omega)
     .exact h'
    go_frame
   |(rw[Oper.semAt_eq _ _ _ (fun c h=>by cases h)];go_simp;try go_bits))
  have hg3':(W2.alloc (.cells #[.int .i64 (-1 - x)] 3)).grownBy w3 v.ownBlock:=hg3;have hL3:w3.heap[w0.heap.size+1]? =some (.loop {j5o fn v0 v1 sv m Bs w0.heap.size .ready none with state:= .busy}):=(hg3'.block _ (by simp;omega) (ne_of hL2 (fun cur e=>by cases e))).trans ((Below.heap_alloc _ _ _ hl2).trans hL2);have hK3:w3.heap[w0.heap.size]? =some (.deferred (some [])):=(hg3'.block _ (by simp;omega) (ne_of hK2 (fun cur e=>by cases e))).trans ((Below.heap_alloc _ _ _ (by omega)).trans hK2)
  have hk3:Keeps [Bs] w0 w3:=q7b (w1:=W2.alloc (.cells #[.int .i64 (-1 - x)] 3)) ⟨hk2.os,hk2.tape,hk2.output,by have:=hk2.size;simp;omega,fun k hk hm=>(Below.heap_alloc _ _ k (Nat.lt_of_lt_of_le hk hk2.size)).trans (hk2.block k hk hm)⟩ hg3' (fun k e=> .inr (by
   have:=(hrow2.lt k e).1;omega))
  have hr3':w3.heap[w0.heap.size+2]? =W2.heap[w0.heap.size+2]? :=(hg3'.block _ (by simp;omega) (fun e=>by
   have:=(hrow2.lt _ e.symm).1;omega)).trans (Below.heap_alloc _ _ _ (by omega))
  have hs3:W2.heap.size<=w3.heap.size:=by have:=hg3'.size;simp at this;omega
  obtain⟨w4,hw4⟩: ∃w4,w3.setCell ⟨Bs,0,none⟩ (.slice (some ⟨g',0,none⟩) ((outL ss).length+1) cap')=w4:=⟨_,rfl⟩;rw[hw4];have hg4:w3.grownBy w4 (some Bs):=by rw[<-hw4];exact y8j _ _ _
  have hv4:w4.heap[Bs]? =some (.cells #[.slice (some ⟨g',0,none⟩) ((outL ss).length+1) cap'] 26 (0,0)):=by rw[<-hw4];exact v7i _ hv3
  have hL4:w4.heap[w0.heap.size+1]? =some (.loop {j5o fn v0 v1 sv m Bs w0.heap.size .ready none with state:= .busy}):=(hg4.block _ (Array.getElem?_eq_some_iff.1 hL3).1 (fun e=>by cases e;omega)).trans hL3;have hK4:w4.heap[w0.heap.size]? =some (.deferred (some [])):=(hg4.block _ (Array.getElem?_eq_some_iff.1 hK3).1 (fun e=>by cases e;omega)).trans hK3;have hrow4:=hown'.kept hg4 (w6g hown' hv3 (fun cur e=>by cases e));have hl4:w0.heap.size+1<w4.heap.size:=(Array.getElem?_eq_some_iff.1 hL4).1;have hk4:Keeps [Bs] w0 w4:=q7b hk3 hg4 (fun k e=>by cases e;left;simp);have hr4':w4.heap[w0.heap.size+2]? =w3.heap[w0.heap.size+2]? :=hg4.block _ (by omega) (fun e=>by cases e;omega);have hs4:w3.heap.size<=w4.heap.size:=hg4.size;clear hw4;refine⟨_,_,run_endRound none hL4,rfl,⟨⟨_,(World.putObj_heap_other (by omega)).trans hv4,?_⟩,World.putObj_heap_same hl4,(World.putObj_heap_other (by omega)).trans hK4,q7b hk4 (j1j _ _ _) (fun k e=>by cases e;right;omega)⟩,?_,?_⟩
  .have:=hrow4.kept (j1j w4 (w0.heap.size+1) (.loop {{j5o fn v0 v1 sv m Bs w0.heap.size .ready none with state:= .busy} with state:=if (none:Option Code).isNone then .ready else .done,pending:=none})) (w6g hrow4 hL4 (fun cur e=>by cases e));rw[w6h,if_pos hneg];simpa using this
  .rw[World.putObj_heap_other (by omega),hr4',hr3',hr2,Array.getElem?_eq_getElem hsz]
  .exact Nat.le_trans hs2 (Nat.le_trans hs3 (Nat.le_trans hs4 (j1j _ _ _).size))
 .gi_wp2_with (rw[Oper.semAt_eq _ _ _ (fun c h=>by cases h)];go_simp;try go_bits)
  refine⟨_,_,run_endRound none hL2,rfl,⟨⟨_,(World.putObj_heap_other (by omega)).trans hv2,?_⟩,World.putObj_heap_same hl2,(World.putObj_heap_other (by omega)).trans hK2,q7b hk2 (j1j _ _ _) (fun k e=>by cases e;right;omega)⟩,?_,?_⟩
  .have:=hrow2.kept (j1j W2 (w0.heap.size+1) (.loop {{j5o fn v0 v1 sv m Bs w0.heap.size .ready none with state:= .busy} with state:=if (none:Option Code).isNone then .ready else .done,pending:=none})) (w6g hrow2 hL2 (fun cur e=>by cases e));rw[w6h,if_neg (show ¬x<0 by omega)];simpa using this
  .rw[World.putObj_heap_other (by omega),hr2,Array.getElem?_eq_getElem hsz]
  .exact Nat.le_trans hs2 (j1j _ _ _).size
end Go.En
namespace Go.En
open Go Go.Proofs Go.RowKit Go.Fl Go.Fx Go.Maps Go.Sort
theorem y8k(n:Nat)(mb:Option Nat)(w:World):CallsIn Fence.wide n Tryz.prog 183 #[.map mb] w fun e w'=>e= .returned (.func (.func 228) #[] #[.pointer (some ⟨w.heap.size,0,none⟩)])/\w'=w.alloc (.cells #[.map mb] 244):=by
 refine callsIn_of_wp Tryz.func183 rfl trivial ?_ rfl;simp only[Tryz.ntmps183,List.size_toArray,List.length_cons,List.length_nil,Nat.reduceAdd,Nat.reduceSub,Array.replicate_succ,Array.replicate_zero,List.push_toArray,List.append_toArray,List.nil_append,List.cons_append]
 gi_wp2
 go_ret
 exact⟨rfl,rfl⟩
def srtI(l:List Int):List Int:=l.mergeSort fun x y=>decide (x<=y)
theorem y09{w:World}{v:Value}{base n:Nat}{l:List Int}(hr:w.ownsRow base 3 1 v n (l.map ki))(hn:l.length=n)(hl:n<4611686018427387904):
  Calls Tryz.prog 185 #[v] w fun e w1=>e= .returned (.tuple #[])/\w.grownBy w1 v.ownBlock/\w1.ownsRow base 3 1 v n ((srtI l).map ki):=by
 subst hn;rcases hr.2 with ⟨rfl,h0⟩|⟨g,cap,cur,rfl,hb0,hb,h1,h2,h3,h4⟩
 .have:l=[]:=List.eq_nil_of_length_eq_zero h0;subst this;refine (Tryz.slices_Sort_int_none none 0 w).mono ?_;rintro e w1 ⟨rfl,rfl⟩;exact⟨rfl,⟨rfl,rfl,rfl,Nat.le_refl _,fun k _ _=>rfl⟩,by simpa [srtI] using hr⟩
 .have hc:=Tryz.slices_Sort_int g 0 cap l w (holds_of_blockI hb (by simpa using h4)) (Array.getElem?_eq_some_iff.1 hb).1 hl;refine hc.mono ?_;rintro e w1 ⟨rfl,q,os,rfl⟩
  exact⟨rfl,grownBy_sortedI _,by
   have:=ownsRow_sortedI (n:=q) (os:=os) (ss:=l) (ts:=l.mergeSort fun x y=>decide (x<=y)) (by simp) hb0 hb h1 h2 h3
   exact this⟩
theorem y1a{l:List Int}(h:l.Nodup):(srtI l).Pairwise (· < ·):=by
 have h1:(srtI l).Pairwise fun x y=>decide (x<=y)=true:=List.pairwise_mergeSort (fun a b c h1 h2=>by simp at h1 h2⊢;omega) (fun a b=>by simp;omega) l
 have h2:(srtI l).Nodup:=(List.mergeSort_perm l _).nodup_iff.2 h;exact (h1.and h2).imp fun ⟨a,b⟩=>by simp at a;omega
theorem v3a{ss:List Int}(h:ss.Nodup):(outL ss).Nodup:=by unfold outL;exact (List.pairwise_map.2 ((h.filter _).imp fun hab e=>hab (by omega)))
theorem nodup_len{l l':List Int}(h:l.Nodup)(hs: ∀x∈l,x∈l'):l.length<=l'.length:=by
 induction l generalizing l' with
 |nil=>simp
 |cons a l ih=>
  rw[List.nodup_cons] at h;have:=ih (l':=l'.erase a) h.2 fun x hx=>by
   have hne:x≠a:=fun e=>h.1 (e▸hx)
   exact (List.mem_erase_of_ne hne).2 (hs x (by simp[hx]))
  rw[List.length_erase_of_mem (hs a (by simp))] at this;have hp:=List.length_pos_of_mem (hs a (by simp));simp only[List.length_cons];omega
set_option maxHeartbeats 4000000 in
theorem z5v:q78 Proofs.Tryz.prog D 134 (conV ([.ptr 129 [.own 136 C.node,.map C.node C.i64,.v],.v]:LP) ([.ptr 129 [.vec 136 C.node,.map C.node C.i64,.bool],.int .i64]:LV) ([.vec 3 C.i64]:LV) ([.ptr 129 [.vec 136 C.node,.map C.node C.i64,.bool],.same]:LV) (fun a K=>Vg a.1.1 a.1.2.1 a.1.2.2.1 a.2.1 (fun q0 q1 q2 q3=>K (q0,()) ((q1,q2,q3,()),(),())))):=by
 intro args K hm w σ vals ins hG hL hS;obtain⟨a,ha,hm⟩:=Ql hm;have hargs:=Ww ha;subst hargs;obtain⟨⟨ns,ids,full,_⟩,id,_⟩:=a
 let K2:List (Fx.Tr Sg)->List (Fx.Tr Sg)->Prop:=fun rets outs=>optK (getL ([.map C.i64 C.bool]:LV) rets) fun r=>optK (getL ([.ptr 129 [.vec 136 C.node,.map C.node C.i64,.bool],.same]:LV) outs) fun o=>
  (∀ks:List Int,Keys r.1 ks->Sml ks.length)/\(∀x,(r.1 x).isSome=true->InI x)/\∀l:List Int,l.Pairwise (· < ·)->(∀n,n∈l↔0<=n/\(r.1 (-1 - n)).isSome=true)->K [.vec 3 C.i64 l] outs
 have hreach:=z8i.m (putL ([.ptr 129 [.vec 136 C.node,.map C.node C.i64,.bool],.int .i64]:LV) ((ns,ids,full,()),id,())) K2 hm;have hLL:=hL;cases hL with
 | @cons _ _ v0 _ m0 _ hp hr=>
 cases hr with
 | @cons _ _ v1 _ m1 _ h1 hn=>
 cases hn;cases h1 with
 |f hi=>
 cases hi;simp only[List.append_nil] at hS hLL⊢;have hS1:=q75 hS 26 #[.slice none 0 0];have hS1':=(hS1.perm (ms':=m0++[blk w.heap.size 26 [.slice none 0 0]]) (by simpa using (List.perm_append_singleton _ _).symm)).inner;have hcall:Calls Tryz.prog 184 #[v0,.int .i64 id] _ (Back D σ _ (putL ([.ptr 129 [.vec 136 C.node,.map C.node C.i64,.bool],.int .i64]:LV) ((ns,ids,full,()),id,())) [v0,.int .i64 id] m0 K2):=hreach _ σ [v0,.int .i64 id] m0 hG hLL hS1';change Calls Tryz.prog 134 #[v0,.int .i64 id] w (Back D σ w (putL ([.ptr 129 [.vec 136 C.node,.map C.node C.i64,.bool],.int .i64]:LV) ((ns,ids,full,()),id,())) [v0,.int .i64 id] m0 K);refine (callsIn_wide (n:=5)).1 (callsIn_of_wp_marks Tryz.func134 rfl trivial ?_ rfl);simp only[Tryz.ntmps134,List.size_toArray,List.length_cons,List.length_nil,Nat.reduceAdd,Nat.reduceSub,Array.replicate_succ,Array.replicate_zero,List.push_toArray,List.append_toArray,List.nil_append,List.cons_append]
 gi_wp2
 refine⟨trivial,(callsIn_wide.2 hcall).mono ?_⟩;rintro e w2 ⟨rets,outs,rv,σ2,msr,mso,rfl,hq0,hLr,hLT,hS2⟩;obtain⟨r,hr,hq1⟩:=Ql hq0;obtain⟨o,ho,hq2⟩:=Ql hq1;clear hq0 hq1;have er:=Ww hr;subst er;obtain⟨F,_⟩:=r;cases hLr with
 | @cons _ _ vm _ mm _ hm1 hn1=>
 cases hn1;cases hm1 with
 | @map _ _ _ bm mfun hF=>
 simp only[retV]
 gi_wp2
 refine⟨trivial,(y8k _ (some bm) _).mono ?_⟩;rintro e w3 ⟨rfl,rfl⟩
 gi_wp2
 refine wpIn_rangeFunc ?_;intro fn hfn;rw[show Fence.wide.round=none from rfl]
 have hS2a:St ⟨w,σ,feet m0⟩ w2 σ2 ((([z8f (kenc D C.i64) bm mfun]++[])++mso)++[blk w.heap.size 26 [.slice none 0 0]]):=
  St.callM (ins:=m0) (rest:=[blk w.heap.size 26 [.slice none 0 0]]) (hS1.perm (by simpa using (List.perm_append_singleton _ _).symm)) hS2 rfl
 have hS3:=q75 hS2a 244 #[.map (some bm)];have hbox:(w2.alloc (.cells #[.map (some bm)] 244)).heap[w2.heap.size]? =some (.cells #[.map (some bm)] 244 (0,0)):=heap_alloc_new _ _;have hsz3:(w2.alloc (.cells #[.map (some bm)] 244)).heap.size=w2.heap.size+1:=by simp
 generalize w2.alloc (.cells #[.map (some bm)] 244)=w3 at hS3 hbox hsz3⊢;have hBs:w3.heap[w.heap.size]? =some (.cells #[.slice none 0 0] 26 (0,0)):=hS3.own (blk w.heap.size 26 [.slice none 0 0]) (by simp);obtain⟨es,clock,hes,hKs,hlk,hMB⟩:(z8f ki bm mfun).ok w3:=hS3.own (z8f (kenc D C.i64) bm mfun) (by simp);have hBlt:w.heap.size<w3.heap.size:=(Array.getElem?_eq_some_iff.1 hBs).1;have hblt:bm<w3.heap.size:=(Array.getElem?_eq_some_iff.1 hes).1;have hne:bm≠w.heap.size:=fun e=>by rw[e,hBs] at hes;cases hes
 obtain⟨hbound,hin,hfin⟩:=hq2;have hFm: ∀k,(lkK ki es.toList k).isSome=(F k).isSome:=fun k=>by rw[hlk k];exact ORel.isSome (hF k)
 obtain⟨ks,hksn,hks⟩:=y7p hKs hMB.1 (fun a b h=>by simpa using h);have hksm:Sml ks.length:=hbound ks ⟨hksn,fun k=>by rw[hks k,hFm k]⟩;obtain⟨B,hB⟩: ∃B,(w3.alloc (.deferred (some []))).alloc (.loop (j5o fn v0 (.int .i64 id) (.func (.func 228) #[] #[.pointer (some ⟨w2.heap.size,0,none⟩)]) (.map (some bm)) w.heap.size w3.heap.size .ready none))=B:=⟨_,rfl⟩;have hold: ∀k,k<w3.heap.size->B.heap[k]? =w3.heap[k]? :=fun k hk=>by rw[<-hB];exact (Below.heap_alloc _ _ k (by simp;omega)).trans (Below.heap_alloc _ _ k hk)
 have hBsz:B.heap.size=w3.heap.size+2:=by rw[<-hB];simp
 have hBk:Keeps [] w3 B:=by rw[<-hB];exact (Wb _ _).trans (Wb _ _)
 have hLv0:LvAt w3 fn v0 (.int .i64 id) (.func (.func 228) #[] #[.pointer (some ⟨w2.heap.size,0,none⟩)]) (.map (some bm)) w.heap.size [] B:=
  ⟨⟨_,(hold _ hBlt).trans hBs,⟨rfl,.inl ⟨rfl,rfl⟩⟩⟩,
   by rw[<-hB];have:=World.alloc_heap_new (w3.alloc (.deferred (some []))) (.loop (j5o fn v0 (.int .i64 id) (.func (.func 228) #[] #[.pointer (some ⟨w2.heap.size,0,none⟩)]) (.map (some bm)) w.heap.size w3.heap.size .ready none));rwa [World.size_alloc] at this,
   by rw[<-hB];exact (Below.heap_alloc _ _ _ (by simp)).trans (World.alloc_heap_new w3 _),hBk.mono (by simp)⟩
 refine⟨w3.heap.size+1,[{target:= .collected w3.heap.size,args:= #[]}],B,{target:= .fn (.func 228) #[.pointer (some ⟨w2.heap.size,0,none⟩)],args:= #[.func (.yield (w3.heap.size+1)) #[] #[]]},B,228,
  #[.func (.yield (w3.heap.size+1)) #[] #[],.pointer (some ⟨w2.heap.size,0,none⟩)],B,?_,?_,?_,?_,fun _=>by decide,?_⟩
 .rw[<-hB];exact run_enterLoop_outer _ _ _ _ _
 .simp[resolve,go_sem]
 .intro f' h';trivial
 .simp[invoke,go_sem]
 have hcomes:=u0u 4 (by omega) (w3.heap.size+1) w2.heap.size bm clock es hKs hMB (fun pre W=>LvAt w3 fn v0 (.int .i64 id) (.func (.func 228) #[] #[.pointer (some ⟨w2.heap.size,0,none⟩)]) (.map (some bm)) w.heap.size pre W/\pre.Nodup/\∀k∈pre,(lkK ki es.toList k).isSome=true) B
  (fun pre W1 W2 hJ _ hk=> ?_) (fun pre W1 hJ=> ?_) (fun pre x W1 hJ hlt hx hxs=> ?_) (by simp[World.cell?,hold _ (show w2.heap.size<w3.heap.size by omega),hbox]) ⟨hLv0,by simp,by simp⟩
 .refine hcomes.mono ?_;rintro e Wc ⟨⟨_,rfl⟩,ss,hssn,hss,hC,_,_⟩;obtain⟨v,hv,hrow⟩:=hC.box;have hend:=run_endLoop (P:=Tryz.prog) hC.L (by simp[j5o]);obtain⟨W5,hW5⟩: ∃W5,Wc.putObj (w3.heap.size+1) (.loop {j5o fn v0 (.int .i64 id) (.func (.func 228) #[] #[.pointer (some ⟨w2.heap.size,0,none⟩)]) (.map (some bm)) w.heap.size w3.heap.size .ready none with state:= .exhausted})=W5:=⟨_,rfl⟩;rw[hW5] at hend;have hg5:Wc.grownBy W5 (some (w3.heap.size+1)):=by rw[<-hW5];exact j1j _ _ _
  have hv5:W5.heap[w.heap.size]? =some (.cells #[v] 26 (0,0)):=by rw[<-hW5];exact (World.putObj_heap_other (by omega)).trans hv
  have hK5:W5.heap[w3.heap.size]? =some (.deferred (some [])):=by rw[<-hW5];exact (World.putObj_heap_other (by omega)).trans hC.K
  have hrow5:=hrow.kept hg5 (w6g hrow hC.L (fun cur e=>by cases e));have hk5:Keeps [w.heap.size] w3 W5:=q7b hC.keeps hg5 (fun k e=>by cases e;right;omega);obtain⟨hc5,hf5⟩:=w3d hv5;clear hW5;have hlen:ss.length<=ks.length:=nodup_len hssn fun x hx=>(hks x).2 ((hss x).1 hx)
  have hol:=v7j ss;have hsml:ks.length<=4294967296:=hksm;refine⟨none,W5,hend,?_⟩
  gi_wp2
  refine⟨trivial,(callsIn_wide.2 (y09 hrow5 rfl (by omega))).mono ?_⟩;rintro e W6 ⟨rfl,hg6,hrow6⟩;have ne_of: ∀{j:Nat} {o:Obj},W5.heap[j]? =some o->(∀cur,o≠ .cells cur 3 (0,0))->some j≠v.ownBlock:=fun hj hno=>by
   rcases w6g hrow5 hj hno with e|e
   .rw[e];simp
   .exact fun e'=>e e'.symm
  have hv6:W6.heap[w.heap.size]? =some (.cells #[v] 26 (0,0)):=(hg6.block _ (Array.getElem?_eq_some_iff.1 hv5).1 (ne_of hv5 (fun cur e=>by cases e))).trans hv5;have hK6:W6.heap[w3.heap.size]? =some (.deferred (some [])):=(hg6.block _ (Array.getElem?_eq_some_iff.1 hK5).1 (ne_of hK5 (fun cur e=>by cases e))).trans hK5;have hk6:Keeps [w.heap.size] w3 W6:=q7b hk5 hg6 (fun k e=> .inr (by have:=(hrow5.lt k e).1;omega));obtain⟨hc6,hf6⟩:=w3d hv6
  gi_wp2
  rw[<-hsz3];refine⟨by simp,.inl ⟨_,_,rfl,run_takeDeferred hK6,?_⟩⟩;refine⟨_,results_tmp rfl _ _ _,?_⟩;obtain⟨W7,hW7⟩: ∃W7,W6.putObj w3.heap.size (.deferred none)=W7:=⟨_,rfl⟩;rw[hW7];have hg7:W6.grownBy W7 (some w3.heap.size):=by rw[<-hW7];exact j1j _ _ _
  have hk7:Keeps [w.heap.size] w3 W7:=q7b hk6 hg7 (fun k e=>by cases e;right;omega);have hrow7:=hrow6.kept hg7 (w6g hrow6 hK6 (fun cur e=>by cases e));clear hW7;have hnl:(srtI (outL ss)).length=(outL ss).length:=by simp[srtI]
  have hE:Els D σ2 C.i64 ((srtI (outL ss)).map ki) (srtI (outL ss)):=by
   refine⟨by show _=(srtI (outL ss)).length*1;simp,fun i x hx=> ?_⟩;have hxx:(((srtI (outL ss)).map ki).drop (i*1)).take 1=[ki x]:=by
    rw[Nat.mul_one];have h1:((srtI (outL ss)).map ki)[i]? =some (ki x):=by rw[List.getElem?_map,hx];rfl
    rw[List.take_one,List.head?_drop,h1];rfl
   refine⟨by show ((((srtI (outL ss)).map ki).drop (i*1)).take 1).length=1;rw[hxx];rfl,fun j v s hj hs=> ?_⟩;have hj:[ki x][j]? =some v:=by rw[<-hxx];exact hj
   match j with
   |0=>cases hj;cases hs;exact .int _ _
   |j+1=>cases hj
  have hvec:(vec v 3 (D.size C.i64) (srtI (outL ss)).length ((srtI (outL ss)).map ki)).ok W7:=by rw[hnl];show World.ownsRow _ 0 3 1 v (outL ss).length _;rcases hrow7 with ⟨h1,h2⟩;exact⟨h1,h2.imp (fun h=>h) fun ⟨g,cap,cur,e1,_,e3⟩=>⟨g,cap,cur,e1,Nat.zero_le _,e3⟩⟩
  have hfoot: ∀k,(vec v 3 (D.size C.i64) (srtI (outL ss)).length ((srtI (outL ss)).map ki)).foot=some k->w3.heap.size<=k:=fun k hk=>by have:=(hrow7.lt k hk).1;omega
  have hS4:=hS3.step (i:=mso.length+2) (o:=blk w.heap.size 26 [.slice none 0 0]) (o':=vec v 3 (D.size C.i64) (srtI (outL ss)).length ((srtI (outL ss)).map ki)) (ms':=(blk w2.heap.size 244 [.map (some bm)]::([z8f (kenc D C.i64) bm mfun]++[]++mso))++[vec v 3 (D.size C.i64) (srtI (outL ss)).length ((srtI (outL ss)).map ki)])
   (by simp) hk7 hvec (fun k hk=> .inr (hfoot k hk)) (by simp) hS3.view.none_of_ge
  have hS5:St ⟨w,σ,feet m0⟩ W7 σ2 ([vec v 3 (D.size C.i64) (srtI (outL ss)).length ((srtI (outL ss)).map ki)]++mso):=by have h1:=hS4.perm (ms':=[blk w2.heap.size 244 [.map (some bm)],z8f (kenc D C.i64) bm mfun]++([vec v 3 (D.size C.i64) (srtI (outL ss)).length ((srtI (outL ss)).map ki)]++mso)) (by simp);exact h1.sublist (List.sublist_append_right _ _)
  refine⟨[.vec 3 C.i64 (srtI (outL ss))],outs,[v],σ2,[vec v 3 (D.size C.i64) (srtI (outL ss)).length ((srtI (outL ss)).map ki)],mso,rfl,?_,?_,hLT,hS5⟩
  .refine hfin _ (y1a (v3a hssn)) fun n=> ?_
   have e1:n∈srtI (outL ss)↔n∈outL ss:=(List.mergeSort_perm _ _).mem_iff;rw[e1];unfold outL;simp only[List.mem_map,List.mem_filter,decide_eq_true_eq];constructor
   .rintro⟨x,⟨h1,h2⟩,rfl⟩;refine⟨by omega,?_⟩;rw[show -1 - (-1 - x)=x by omega,<-hFm];exact (hss x).1 h1
   .rintro⟨h1,h2⟩;exact⟨-1 - n,⟨(hss _).2 (by rw[hFm];exact h2),by omega⟩,by omega⟩
  .exact .cons (ms':=[]) (.vec hE (by rw[hnl];omega) (q2l hvec)) .nil
 .obtain⟨hJ,hn1,hn2⟩:=hJ;have hg:W1.grownBy W2 (some B.heap.size):=⟨hk.os,hk.tape,hk.output,hk.size,fun k hlt hne=>hk.block k hlt (fun e=>hne (by simp at e;rw[e]))⟩;obtain⟨v,hv,hrow⟩:=hJ.box
  refine⟨⟨⟨v,(hg.block _ (Array.getElem?_eq_some_iff.1 hv).1 (fun e=>by have:=Option.some.inj e;omega)).trans hv,hrow.kept hg ?_⟩,(hg.block _ (Array.getElem?_eq_some_iff.1 hJ.L).1 (fun e=>by
   have:=Option.some.inj e;omega)).trans hJ.L,(hg.block _ (Array.getElem?_eq_some_iff.1 hJ.K).1 (fun e=>by
   have:=Option.some.inj e;omega)).trans hJ.K,q7b hJ.keeps hg (fun k e=>by
   have:=Option.some.inj e;right;omega)⟩,hn1,hn2⟩
  rcases hrow.2 with ⟨rfl,_⟩|⟨g,cap,cur,rfl,hge,_⟩
  .exact .inl rfl
  .refine .inr fun e=> ?_
   have:g=B.heap.size:=by simpa [Value.ownBlock] using e
   omega
 .exact (hJ.1.keeps.block bm hblt (by simpa using hne)).trans hes
 .have hxF:InI x:=hin x (by rw[<-hFm];exact hxs);obtain⟨hJ,hn1,hn2⟩:=hJ;have hlen:pre.length<=ks.length:=nodup_len hn1 fun y hy=>(hks y).2 (hn2 y hy)
  have hsml:ks.length<=4294967296:=hksm;have hy:=y5t w3 fn v0 (.int .i64 id) (.func (.func 228) #[] #[.pointer (some ⟨w2.heap.size,0,none⟩)]) (.map (some bm)) w.heap.size hBlt (4 - 1) pre x W1 hJ (by omega) (by omega) hxF.1 hxF.2;obtain⟨fn',tmps,assign,body,h1,h2⟩:=hy;refine⟨fn',tmps,assign,body,h1,h2.mono fun e W2 h=>⟨h.1,⟨h.2.1,?_,fun k hk=> ?_⟩,by rw[hBsz];exact h.2.2.1,h.2.2.2⟩⟩
  .rw[List.nodup_append];exact⟨hn1,by simp,fun a ha b hb e=>hx (by simp at hb;rw[<-hb,<-e];exact ha)⟩
  .rcases List.mem_append.1 hk with hk|hk
   .exact hn2 k hk
   .simp at hk;rw[hk];exact hxs
end Go.En
end
noncomputable section
open Go Go.RowKit Go.Fl Go.Fl.Lk Go.Fx
namespace Go.En
def q5y(X:R7):Con Sg:=conV [.ptr 129 [.own 136 C.node,.map C.node C.i64,.v],.v] [.ptr 129 [.vec 136 C.node,.map C.node C.i64,.bool],.int .i64] [.vec 3 C.i64] [.ptr 129 [.vec 136 C.node,.map C.node C.i64,.bool],.same] fun a K=>X a.1.1 a.1.2.1 a.1.2.2.1 a.2.1 (fun q0 q1 q2 q3=>K (q0,()) ((q1,q2,q3,()),(),()))
theorem z5w:MT 134 (q5y Vg):=⟨entB (by kernel_rfl),z5v⟩
def Wo(X:Q9):Con Sg:=conV [.ptr 129 [.own 136 C.node,.map C.node C.i64,.v],.v] [.ptr 129 [.vec 136 C.node,.map C.node C.i64,.bool],.int .i64] [.bool] [.ptr 129 [.vec 136 C.node,.map C.node C.i64,.bool],.same] fun a K=>X a.1.1 a.1.2.1 a.1.2.2.1 a.2.1 (fun q0 q1 q2 q3=>K (q0,()) ((q1,q2,q3,()),(),()))
theorem z1y{Qn:Zn}{U5:R7}(h:AL [(69,Vw Qn),(134,q5y U5)]):MT 78 (Wo (q16 Qn U5)):=mP (rk:=[.v]) h [(183000005,⟨bl 195,[5],[],[sI 8]⟩)]
theorem G1:MT 78 (Wo Jg):=z1y ⟨Gm,z5w,trivial⟩
def z8r(X:z0r):Con Sg:=conS [.int .i64] [.int .i64,.bool] fun a K=>X a.1 (fun q0 q1=>K (q0,q1,()))
theorem j99:MT 186 (z8r q02):=mS (l:=[]) trivial []
def Hy(X:Wd):Con Sg:=conV [.ptr 129 [.own 136 C.node,.map C.node C.i64,.v],.v] [.ptr 129 [.vec 136 C.node,.map C.node C.i64,.bool],.int .i64] [.int .i64] [.ptr 129 [.vec 136 C.node,.map C.node C.i64,.bool],.same] fun a K=>X a.1.1 a.1.2.1 a.1.2.2.1 a.2.1 (fun q0 q1 q2 q3=>K (q0,()) ((q1,q2,q3,()),(),()))
theorem q1w:MT 126 (Hy Z5):=mP (rk:=[.v]) (l:=[]) trivial []
def G3(X:Vn):Con Sg:=conV [.ptr 129 [.own 136 C.node,.map C.node C.i64,.v],.v,.v] [.ptr 129 [.vec 136 C.node,.map C.node C.i64,.bool],.int .i64,.int .i64] [.int .i64,.int .i64] [.ptr 129 [.vec 136 C.node,.map C.node C.i64,.bool],.same,.same] fun a K=>X a.1.1 a.1.2.1 a.1.2.2.1 a.2.1 a.2.2.1 (fun q0 q1 q2 q3 q4=>K (q0,q1,()) ((q2,q3,q4,()),(),(),()))
theorem z1z{Q4:Wd}(h:AL [(126,Hy Q4)]):MT 187 (G3 (q17 Q4)):=mP (rk:=[.v,.v]) h []
theorem z10:MT 187 (G3 Zz):=z1z ⟨q1w,trivial⟩
def Hz(X:Uh):Con Sg:=conV [.ptr 129 [.own 136 C.node,.map C.node C.i64,.v],.v,.v,.v] [.ptr 129 [.vec 136 C.node,.map C.node C.i64,.bool],.int .i64,.int .i64,.int .i64] [.int .i64] [.ptr 129 [.vec 136 C.node,.map C.node C.i64,.bool],.same,.same,.same] fun a K=>X a.1.1 a.1.2.1 a.1.2.2.1 a.2.1 a.2.2.1 a.2.2.2.1 (fun q0 q1 q2 q3=>K (q0,()) ((q1,q2,q3,()),(),(),(),()))
theorem z9p{Qn:Zn}{Q4:Wd}(h:AL [(69,Vw Qn),(126,Hy Q4)]):MT 68 (Hz (q8a Qn Q4)):=mP (rk:=[.v]) h []
theorem q84:MT 68 (Hz Zc):=z9p ⟨Gm,q1w,trivial⟩
def q5z(X:Jk):Con Sg:=conV [.ptr 129 [.own 136 C.node,.map C.node C.i64,.v],.v,.v,.v,.map C.a3 C.i64] [.ptr 129 [.vec 136 C.node,.map C.node C.i64,.bool],.int .i64,.int .i64,.int .i64,.map C.a3 C.i64] [.int .i64] [.ptr 129 [.vec 136 C.node,.map C.node C.i64,.bool],.same,.same,.same,.map C.a3 C.i64] fun a K=>X a.1.1 a.1.2.1 a.1.2.2.1 a.2.1 a.2.2.1 a.2.2.2.1 a.2.2.2.2.1 (fun q0 q1 q2 q3 q4=>K (q0,()) ((q1,q2,q3,()),(),(),(),q4,()))
theorem z5x:MT 136 (q5z Us):=by show MT _ (conV ([.ptr 129 [.own 136 C.node,.map C.node C.i64,.v],.v,.v,.v,.map C.a3 C.i64]:LP) ([.ptr 129 [.vec 136 C.node,.map C.node C.i64,.bool],.int .i64,.int .i64,.int .i64,.map C.a3 C.i64]:LV) ([.int .i64]:LV) ([.ptr 129 [.vec 136 C.node,.map C.node C.i64,.bool],.same,.same,.same,.map C.a3 C.i64]:LV) fun a K=>Us a.1.1 a.1.2.1 a.1.2.2.1 a.2.1 a.2.2.1 a.2.2.2.1 a.2.2.2.2.1 (fun q0 q1 q2 q3 q4=>K (q0,()) ((q1,q2,q3,()),(),(),(),q4,())));exact mQ (l:=[(186,z8r q02),(126,Hy Z5),(187,G3 Zz),(68,Hz Zc)]) (u:=4) (rk:=[.v]) ⟨j99,q1w,z10,q84,trivial⟩ (by kernel_rfl) [] (fun X a K=>Vh q02 Z5 Zz Zc (fun ns ids full f g h memory K=>X ((ns,ids,full,()),f,g,h,memory,()) fun r o=>K r.1 o.1.1 o.1.2.1 o.1.2.2.1 o.2.2.2.2.1) a.1.1 a.1.2.1 a.1.2.2.1 a.2.1 a.2.2.1 a.2.2.2.1 a.2.2.2.2.1 (fun q0 q1 q2 q3 q4=>K (q0,()) ((q1,q2,q3,()),(),(),(),q4,()))) (fun _ _ _=>by kernel_rfl) fun a K h X hX=>h (fun ns ids full f g h memory K=>X ((ns,ids,full,()),f,g,h,memory,()) fun r o=>K r.1 o.1.1 o.1.2.1 o.1.2.2.1 o.2.2.2.2.1) fun ns ids full f g h memory K hs=>hX ((ns,ids,full,()),f,g,h,memory,()) (fun r o=>K r.1 o.1.1 o.1.2.1 o.1.2.2.1 o.2.2.2.2.1) hs
def Vk(X:Zs):Con Sg:=conV [.ptr 129 [.own 136 C.node,.map C.node C.i64,.v],.v,.v,.v] [.ptr 129 [.vec 136 C.node,.map C.node C.i64,.bool],.int .i64,.int .i64,.int .i64] [.int .i64] [.ptr 129 [.vec 136 C.node,.map C.node C.i64,.bool],.same,.same,.same] fun a K=>X a.1.1 a.1.2.1 a.1.2.2.1 a.2.1 a.2.2.1 a.2.2.2.1 (fun q0 q1 q2 q3=>K (q0,()) ((q1,q2,q3,()),(),(),(),()))
theorem z5y{Qs:Q9}{Qn:Zn}{U6:Jk}(h:AL [(78,Wo Qs),(69,Vw Qn),(136,q5z U6)]):MT 79 (Vk (q5j Qs Qn U6)):=mP (rk:=[.v]) h []
theorem Bv:MT 79 (Vk Wj):=z5y ⟨G1,Gm,z5x,trivial⟩
def q3q(X:Vo):Con Sg:=conV [.ptr 129 [.own 136 C.node,.map C.node C.i64,.v],.v,.v] [.ptr 129 [.vec 136 C.node,.map C.node C.i64,.bool],.int .i64,.int .i64] [.int .i64] [.ptr 129 [.vec 136 C.node,.map C.node C.i64,.bool],.same,.same] fun a K=>X a.1.1 a.1.2.1 a.1.2.2.1 a.2.1 a.2.2.1 (fun q0 q1 q2 q3=>K (q0,()) ((q1,q2,q3,()),(),(),()))
theorem j1k{Qs:Q9}{Qf:Zi}{Qw:Zs}(h:AL [(78,Wo Qs),(30,Va Qf),(79,Vk Qw)]):MT 63 (q3q (q9s Qs Qf Qw)):=mP (rk:=[.v]) h []
theorem j1l:MT 63 (q3q Jy):=j1k ⟨G1,Ul,Bv,trivial⟩
def q0i(X:Uc):Con Sg:=conV [.ptr 129 [.own 136 C.node,.map C.node C.i64,.v],.v,.v] [.ptr 129 [.vec 136 C.node,.map C.node C.i64,.bool],.int .i64,.int .i64] [.int .i64] [.ptr 129 [.vec 136 C.node,.map C.node C.i64,.bool],.same,.same] fun a K=>X a.1.1 a.1.2.1 a.1.2.2.1 a.2.1 a.2.2.1 (fun q0 q1 q2 q3=>K (q0,()) ((q1,q2,q3,()),(),(),()))
theorem j3s{Qs:Q9}{Qf:Zi}{Qw:Zs}(h:AL [(78,Wo Qs),(30,Va Qf),(79,Vk Qw)]):MT 31 (q0i (z1e Qs Qf Qw)):=mP (rk:=[.v]) h []
theorem z11:MT 31 (q0i Jr):=j3s ⟨G1,Ul,Bv,trivial⟩
def q3r(X:Ru):Con Sg:=conV [.ptr 129 [.own 136 C.node,.map C.node C.i64,.v],.v] [.ptr 129 [.vec 136 C.node,.map C.node C.i64,.bool],.int .i64] [.int .i64] [.ptr 129 [.vec 136 C.node,.map C.node C.i64,.bool],.same] fun a K=>X a.1.1 a.1.2.1 a.1.2.2.1 a.2.1 (fun q0 q1 q2 q3=>K (q0,()) ((q1,q2,q3,()),(),()))
theorem j1m{Qf:Zi}{Qw:Zs}(h:AL [(30,Va Qf),(79,Vk Qw)]):MT 64 (q3r (q9t Qf Qw)):=mP (rk:=[.v]) h []
theorem j1n:MT 64 (q3r Jz):=j1m ⟨Ul,Bv,trivial⟩
def z13(X:Wk):Con Sg:=conV [.ptr 129 [.own 136 C.node,.map C.node C.i64,.v],.sl C.ex,.el C.ex] [.ptr 129 [.vec 136 C.node,.map C.node C.i64,.bool],.sl C.ex,.el C.ex] [.int .i64] [.ptr 129 [.vec 136 C.node,.map C.node C.i64,.bool],.same,.same] fun a K=>X a.1.1 a.1.2.1 a.1.2.2.1 a.2.1 a.2.2.1 (fun q0 q1 q2 q3=>K (q0,()) ((q1,q2,q3,()),(),(),()))
theorem j3t:MT 23 (z13 Gt):=by show MT _ (conV ([.ptr 129 [.own 136 C.node,.map C.node C.i64,.v],.sl C.ex,.el C.ex]:LP) ([.ptr 129 [.vec 136 C.node,.map C.node C.i64,.bool],.sl C.ex,.el C.ex]:LV) ([.int .i64]:LV) ([.ptr 129 [.vec 136 C.node,.map C.node C.i64,.bool],.same,.same]:LV) fun a K=>Gt a.1.1 a.1.2.1 a.1.2.2.1 a.2.1 a.2.2.1 (fun q0 q1 q2 q3=>K (q0,()) ((q1,q2,q3,()),(),(),())));exact mQ (l:=[(30,Va Zj),(63,q3q Jy),(31,q0i Jr),(64,q3r Jz),(67,z9o Wx),(68,Hz Zc)]) (u:=4) (rk:=[.v]) ⟨Ul,j1l,z11,j1n,j8b,q84,trivial⟩ (by kernel_rfl) [(63000007,⟨bl 31903,[4,3,5],[(0,(129,3))],[sI 8,sI 9,(.cell 0 0,.own 136 C.node),(.cell 0 2,.bool),(.obj 2,.map C.node C.i64)]⟩),(66000005,⟨bl 195,[5],[],[sI 8]⟩)] (fun X a K=>B6 Zj Jy Jr Jz Wx Zc (fun ns ids full atoms e K=>X ((ns,ids,full,()),atoms,e,()) fun r o=>K r.1 o.1.1 o.1.2.1 o.1.2.2.1) a.1.1 a.1.2.1 a.1.2.2.1 a.2.1 a.2.2.1 (fun q0 q1 q2 q3=>K (q0,()) ((q1,q2,q3,()),(),(),()))) (fun _ _ _=>by kernel_rfl) fun _ K h X hX=>h (fun ns ids full atoms e K=>X ((ns,ids,full,()),atoms,e,()) fun r o=>K r.1 o.1.1 o.1.2.1 o.1.2.2.1) fun ns ids full atoms e K hs=>hX ((ns,ids,full,()),atoms,e,()) (fun r o=>K r.1 o.1.1 o.1.2.1 o.1.2.2.1) hs
end Go.En
end
noncomputable section
open Go Go.RowKit Go.Fl Go.Fl.Lk Go.Fx
namespace Go.En
def q85(X:Hi):Con Sg:=conV [.ptr 129 [.own 136 C.node,.map C.node C.i64,.v]] [.ptr 129 [.vec 136 C.node,.map C.node C.i64,.bool]] [.bool] [.ptr 129 [.vec 136 C.node,.map C.node C.i64,.bool]] fun a K=>X a.1.1 a.1.2.1 a.1.2.2.1 (fun q0 q1 q2 q3=>K (q0,()) ((q1,q2,q3,()),()))
theorem z9q:MT 32 (q85 q8b):=mP (rk:=[.v]) (l:=[]) trivial []
def H0(X:We):Con Sg:=conS [.sl C.rule] [.vec 3 C.i64,.bool] fun a K=>X a.1 (fun q0 q1=>K (q0,q1,()))
theorem z9r{Vf:Gh}{q7m:q6v}{Qf:Zi}{q0m:Wk}{Uf:Uc}{H7:Hi}(h:AL [(29,q5c Vf),(22,j1i q7m),(30,Va Qf),(23,z13 q0m),(31,q0i Uf),(32,q85 H7)]):MT 9 (H0 (Hj Vf q7m Qf q0m Uf H7)):=mS h [(7,⟨bl 114717,[],[(0,(40,5))],[sI 17,(.cell 0 4,.own 40 C.ex)]⟩),(25,⟨bl 68183114129,[3,0],[(4,(129,3))],[sI 9,(.slot 10,.own 3 C.i64),sI 36,(.cell 4 0,.own 136 C.node),(.cell 4 2,.bool),(.obj 6,.map C.node C.i64)]⟩)]
theorem q86:MT 9 (H0 Wf):=z9r ⟨z8q,w3b,Ul,j3t,z11,z9q,trivial⟩
def q3s(X:Ut):Con Sg:=conV [.v] [.str] [.bool] [.same] fun a K=>X a.1 (fun q0=>K (q0,()) ((),()))
theorem q98:MT 154 (q3s Uu):=⟨entB (by kernel_rfl),j1f⟩
def Hd(X:Jl):Con Sg:=conS [.str] [.bool] fun a K=>X a.1 (fun q0=>K (q0,()))
theorem w6i{Jc:Ut}(h:AL [(154,q3s Jc)]):MT 93 (Hd (z5b Jc)):=mS h [(9,⟨bl 32737,[],[],[(.obj 0,.siter)]⟩)]
theorem q2f:MT 93 (Hd V8):=w6i ⟨q98,trivial⟩
def Vl(X:Zd):Con Sg:=conS [.bool,.int .i64] [.int .i64] fun a K=>X a.1 a.2.1 (fun q0=>K (q0,()))
theorem V9:MT 92 (Vl Wl):=mS (l:=[]) trivial []
def z4k(X:q6a):Con Sg:=conV [.v] [.str] [.vec 9 C.str] [.same] fun a K=>X a.1 (fun q0=>K (q0,()) ((),()))
theorem j5p:MT 155 (z4k q6b):=⟨entB (by kernel_rfl),j5n⟩
def Ue(X:Zp):Con Sg:=conS [.str] [.bool] fun a K=>X a.1 (fun q0=>K (q0,()))
theorem v3b{q1j:q6a}(h:AL [(155,z4k q1j)]):MT 94 (Ue (z7e q1j)):=mS h [(9,⟨bl 261889,[],[],[(.obj 0,.siter)]⟩),(21,⟨bl 3377699721576193,[3,0],[],[sI 52]⟩)]
theorem G4:MT 94 (Ue Wm):=v3b ⟨j5p,trivial⟩
def z14(X:q4l):Con Sg:=conV [.v,.v] [.str,.str] [.int .i64] [.same,.same] fun a K=>X a.1 a.2.1 (fun q0=>K (q0,()) ((),(),()))
theorem j3u:MT 157 (z14 B7):=⟨entB (by kernel_rfl),j3r⟩
def q3t(X:Uv):Con Sg:=conS [.sl C.decl] [.int .i64] fun a K=>X a.1 (fun q0=>K (q0,()))
theorem j1o{Qi:Zp}{Ha:q4l}(h:AL [(94,Ue Qi),(157,z14 Ha)]):MT 95 (q3t (Rv Qi Ha)):=mS h [(9,⟨bl 993,[],[],[sI 10]⟩),(157000007,⟨bl 201,[3],[],[sI 8]⟩)]
theorem j1p:MT 95 (q3t Vp):=j1o ⟨G4,j3u,trivial⟩
def Vd(X:Za):Con Sg:=conS [.sl C.i64] [.int .i64] fun a K=>X a.1 (fun q0=>K (q0,()))
theorem V3:MT 91 (Vd Ja):=mS (l:=[]) trivial [(154000007,⟨bl 201,[],[],[sI 8]⟩)]
def q99(X:R8):Con Sg:=conS [.sl C.str] [.int .i64] fun a K=>X a.1 (fun q0=>K (q0,()))
theorem w6j{Qt:Jl}(h:AL [(93,Hd Qt)]):MT 158 (q99 (z5c Qt)):=mS h [(9,⟨bl 993,[],[],[sI 10]⟩)]
theorem j40:MT 158 (q99 q5k):=w6j ⟨q2f,trivial⟩
def z5z(X:q18):Con Sg:=conS [.el C.ex] [.bool] fun a K=>X a.1 (fun q0=>K (q0,()))
theorem j41:MT 52 (z5z q5l):=mS (l:=[]) trivial []
end Go.En
end
noncomputable section
open Go Go.RowKit Go.Fl Go.Fl.Lk Go.Fx
namespace Go.En
def z50(X:q19):Con Sg:=conS [.int .i64] [.bool] fun a K=>X a.1 (fun q0=>K (q0,()))
theorem j42:MT 276 (z50 q5m):=mS (l:=[]) trivial []
def z3l(X:q2r):Con Sg:=conS [.el C.ex] [.bool] fun a K=>X a.1 (fun q0=>K (q0,()))
theorem w3e{J0:q19}(h:AL [(276,z50 J0)]):MT 275 (z3l (z2p J0)):=mS h [(20,⟨bl 2043,[0],[],[]⟩)]
theorem w3f:MT 275 (z3l q6w):=w3e ⟨j42,trivial⟩
def j1q(X:q6x):Con Sg:=conS [.el C.val] [.bool] fun a K=>X a.1 (fun q0=>K (q0,()))
theorem w3g:MT 213 (j1q q6y):=mS (l:=[]) trivial [(8,⟨bl 31,[0],[],[sB 5]⟩),(14,⟨bl 63,[0],[],[sB 17]⟩)]
def z52(X:q8c):Con Sg:=conV [.v,.v] [.str,.str] [.vec 9 C.str] [.same,.same] fun a K=>X a.1 a.2.1 (fun q0=>K (q0,()) ((),(),()))
theorem j8d:MT 244 (z52 q8d):=⟨entB (by kernel_rfl),j8a⟩
def q3u(X:V0):Con Sg:=conS [.str,.str] [.bool] fun a K=>X a.1 a.2.1 (fun q0=>K (q0,()))
theorem z3m:MT 302 (q3u Hk):=mS (l:=[]) trivial []
def H1(X:Ws):Con Sg:=conS [.str,.str] [.str,.bool] fun a K=>X a.1 a.2.1 (fun q0 q1=>K (q0,q1,()))
theorem z3n{V4:V0}(h:AL [(302,q3u V4)]):MT 290 (H1 (Hl V4)):=mS h []
theorem z3o:MT 290 (H1 Hm):=z3n ⟨z3m,trivial⟩
def q1x(X:Ui):Con Sg:=conS [.str,.str] [.str,.bool] fun a K=>X a.1 a.2.1 (fun q0 q1=>K (q0,q1,()))
theorem z9s{V5:Ws}(h:AL [(290,H1 V5)]):MT 278 (q1x (q1r V5)):=mS h []
theorem z9t:MT 278 (q1x Hn):=z9s ⟨z3o,trivial⟩
def z8s(X:z0s):Con Sg:=conV [.v] [.str] [.int .i64,.ifc] [.same] fun a K=>X a.1 (fun q0 q1=>K (q0,q1,()) ((),()))
theorem w0a:MT 279 (z8s q46):=⟨entB (by kernel_rfl),j95⟩
def q3v(X:Uw):Con Sg:=conS [.str] [.int .i64,.int .i64] fun a K=>X a.1 (fun q0 q1=>K (q0,q1,()))
theorem j1r{H8:Ui}{q07:z0s}(h:AL [(278,q1x H8),(279,z8s q07)]):MT 245 (q3v (q2s H8 q07)):=mS h [(11,⟨bl 4294966321,[],[],[(.obj 0,.siter)]⟩)]
theorem j1s:MT 245 (q3v Rw):=j1r ⟨z9t,w0a,trivial⟩
def z3p(X:q2t):Con Sg:=conS [.str] [.el C.a3,.bool] fun a K=>X a.1 (fun q0 q1=>K (q0,q1,()))
theorem w3h{q35:q8c}{R1:Uw}(h:AL [(244,z52 q35),(245,q3v R1)]):MT 214 (z3p (z2q q35 R1)):=mS h [(13,⟨bl 228405,[2],[(1,(248,3)),(0,(248,3))],[sI 18,(.cell 1 0,.int .i64),(.cell 1 1,.int .i64),(.cell 1 2,.int .i64),(.cell 0 0,.int .i64),(.cell 0 1,.int .i64),(.cell 0 2,.int .i64)]⟩)]
theorem w3i:MT 214 (z3p q6z):=w3h ⟨j8d,j1s,trivial⟩
def q7c(X:Ho):Con Sg:=conS [.el C.val] [.int .i64] fun a K=>X a.1 (fun q0=>K (q0,()))
theorem w3j{q7n:q6x}{Qt:Jl}{q7o:q2t}(h:AL [(213,j1q q7n),(93,Hd Qt),(214,z3p q7o)]):MT 160 (q7c (z2r q7n Qt q7o)):=mS h [(47,⟨bl 73643289922748022531,[0],[],[sI 66]⟩),(59,⟨bl 132521265739157328625411,[0],[],[sI 77]⟩)]
theorem j1t:MT 160 (q7c B9):=w3j ⟨w3g,q2f,w3i,trivial⟩
def z54(X:q9u):Con Sg:=conS [.el C.ex,.int .i64] [.int .i64] fun a K=>X a.1 a.2.1 (fun q0=>K (q0,()))
theorem w6k{q7p:q2r}{J0:q19}{Qi:Zp}{Z6:Ho}{Qa:Zd}(h:AL [(275,z3l q7p),(276,z50 J0),(94,Ue Qi),(160,q7c Z6),(92,Vl Qa)]):MT 243 (z54 (z5d q7p J0 Qi Z6 Qa)):=mS h [(21,⟨bl 137438951431,[0],[],[sI 37]⟩),(37,⟨bl 38669097800863451512305671,[0],[],[sI 85]⟩)]
theorem w6l:MT 243 (z54 q2a):=w6k ⟨w3f,j42,G4,j1t,V9,trivial⟩
end Go.En
end
noncomputable section
open Go Go.RowKit Go.Fl Go.Fl.Lk Go.Fx
namespace Go.En
def j43(X:R9):Con Sg:=conV [.el C.ex,.v,.ptr 3 [.v]] [.el C.ex,.int .i64,.ptr 3 [.int .i64]] [.int .i64] [.same,.same,.ptr 3 [.int .i64]] fun a K=>X a.1 a.2.1 a.2.2.1.1 (fun q0 q1=>K (q0,()) ((),(),(q1,()),()))
theorem w6m:MT 212 (j43 q9v):=by show MT _ (conV ([.el C.ex,.v,.ptr 3 [.v]]:LP) ([.el C.ex,.int .i64,.ptr 3 [.int .i64]]:LV) ([.int .i64]:LV) ([.same,.same,.ptr 3 [.int .i64]]:LV) fun a K=>q9v a.1 a.2.1 a.2.2.1.1 (fun q0 q1=>K (q0,()) ((),(),(q1,()),())));exact mQ (l:=[(243,z54 q2a)]) (u:=4) (rk:=[.v]) ⟨w6l,trivial⟩ (by kernel_rfl) [(17,⟨bl 503314575,[1],[(0,(3,1))],[sI 29,(.cell 0 0,.int .i64)]⟩)] (fun X a K=>z5e q2a (fun e depth before K=>X (e,depth,(before,()),()) fun r o=>K r.1 o.2.2.1.1) a.1 a.2.1 a.2.2.1.1 (fun q0 q1=>K (q0,()) ((),(),(q1,()),()))) (fun _ _ _=>by kernel_rfl) fun a K h X hX=>h (fun e depth before K=>X (e,depth,(before,()),()) fun r o=>K r.1 o.2.2.1.1) fun e depth before K hs=>hX (e,depth,(before,()),()) (fun r o=>K r.1 o.2.2.1.1) hs
def q50(X:Ux):Con Sg:=conS [.el C.ex] [.int .i64] fun a K=>X a.1 (fun q0=>K (q0,()))
theorem w6n{z0h:R9}(h:AL [(212,j43 z0h)]):MT 159 (q50 (z5f z0h)):=mS h []
theorem z55:MT 159 (q50 q2b):=w6n ⟨w6m,trivial⟩
def q87(X:Ba):Con Sg:=conS [.el C.seg] [.int .i64] fun a K=>X a.1 (fun q0=>K (q0,()))
theorem j8e{Qi:Zp}{Qa:Zd}{Wp:R8}{Qc:Za}{Ua:q18}{Zm:Ux}(h:AL [(94,Ue Qi),(92,Vl Qa),(158,q99 Wp),(91,Vd Qc),(52,z5z Ua),(159,q50 Zm)]):MT 97 (q87 (q8e Qi Qa Wp Qc Ua Zm)):=mS h []
theorem j8f:MT 97 (q87 Bb):=j8e ⟨G4,V9,j40,V3,j41,z55,trivial⟩
def Bw(X:Vi):Con Sg:=conS [.sl C.prereq] [.int .i64] fun a K=>X a.1 (fun q0=>K (q0,()))
theorem z56{Qi:Zp}{Qa:Zd}{Qc:Za}(h:AL [(94,Ue Qi),(92,Vl Qa),(91,Vd Qc)]):MT 161 (Bw (Bc Qi Qa Qc)):=mS h [(9,⟨bl 1985,[],[],[sI 11]⟩)]
theorem z57:MT 161 (Bw Uy):=z56 ⟨G4,V9,V3,trivial⟩
def q88(X:Bd):Con Sg:=conS [.sl C.target,.int .i64] [.int .i64] fun a K=>X a.1 a.2.1 (fun q0=>K (q0,()))
theorem j8g{Qi:Zp}{Qa:Zd}{Wp:R8}{Qc:Za}(h:AL [(94,Ue Qi),(92,Vl Qa),(158,q99 Wp),(91,Vd Qc)]):MT 162 (q88 (q8f Qi Qa Wp Qc)):=mS h [(9,⟨bl 7939,[],[],[sI 13]⟩)]
theorem j8h:MT 162 (q88 q2u):=j8g ⟨G4,V9,j40,V3,trivial⟩
def q7d(X:Hp):Con Sg:=conS [.sl C.range,.int .i64] [.int .i64] fun a K=>X a.1 a.2.1 (fun q0=>K (q0,()))
theorem w3k{Qa:Zd}(h:AL [(92,Vl Qa)]):MT 167 (q7d (z2s Qa)):=mS h [(11,⟨bl 16163,[],[(0,(190,3))],[sI 14,(.cell 0 0,.int .i64),(.cell 0 1,.int .i64),(.cell 0 2,.int .i64)]⟩)]
theorem j1u:MT 167 (q7d q2v):=w3k ⟨V9,trivial⟩
def q7e(X:Hq):Con Sg:=conS [.el C.serve,.int .i64] [.int .i64] fun a K=>X a.1 a.2.1 (fun q0=>K (q0,()))
theorem w3l{Qi:Zp}{Qa:Zd}{Qt:Jl}{Z7:Hp}{Qc:Za}(h:AL [(94,Ue Qi),(92,Vl Qa),(93,Hd Qt),(167,q7d Z7),(91,Vd Qc)]):MT 164 (q7e (z2t Qi Qa Qt Z7 Qc)):=mS h []
theorem j1v:MT 164 (q7e q2w):=w3l ⟨G4,V9,q2f,j1u,V3,trivial⟩
def z3q(X:q2x):Con Sg:=conS [.sl C.rule,.int .i64] [.int .i64] fun a K=>X a.1 a.2.1 (fun q0=>K (q0,()))
theorem w3m{Qi:Zp}{Zm:Ux}{J7:Hq}{Qc:Za}(h:AL [(94,Ue Qi),(159,q50 Zm),(164,q7e J7),(91,Vd Qc)]):MT 163 (z3q (z2u Qi Zm J7 Qc)):=mS h [(9,⟨bl 31747,[],[],[sI 15]⟩),(19,⟨bl 268434531,[1],[],[sI 28]⟩)]
theorem w3n:MT 163 (z3q q60):=w3m ⟨G4,z55,j1v,V3,trivial⟩
def z58(X:q5n):Con Sg:=conS [.el C.flag] [.int .i64] fun a K=>X a.1 (fun q0=>K (q0,()))
theorem w6o{Qi:Zp}{Qa:Zd}{Qc:Za}{Z6:Ho}{Jm:Vi}{Um:Bd}{H9:q2x}{J7:Hq}(h:AL [(94,Ue Qi),(92,Vl Qa),(91,Vd Qc),(160,q7c Z6),(161,Bw Jm),(162,q88 Um),(163,z3q H9),(164,q7e J7)]):MT 100 (z58 (z5g Qi Qa Qc Z6 Jm Um H9 J7)):=mS h [(13,⟨bl 1030777470491,[1,0],[],[sI 40]⟩)]
theorem w6p:MT 100 (z58 q5o):=w6o ⟨G4,V9,V3,j1t,z57,j8h,w3n,j1v,trivial⟩
def z0x(X:Rn):Con Sg:=conS [.int .i64,.int .i64] [.bool] fun a K=>X a.1 a.2.1 (fun q0=>K (q0,()))
theorem z8t:MT 165 (z0x q03):=mS (l:=[]) trivial []
def z3r(X:q2y):Con Sg:=conS [.el C.layer] [.int .i64] fun a K=>X a.1 (fun q0=>K (q0,()))
theorem w3o{Qi:Zp}{Qa:Zd}{Qt:Jl}{Qc:Za}{Zo:Rn}(h:AL [(94,Ue Qi),(92,Vl Qa),(93,Hd Qt),(91,Vd Qc),(165,z0x Zo)]):MT 103 (z3r (z2v Qi Qa Qt Qc Zo)):=mS h [(11,⟨bl 16888002064154571,[1,0],[],[sI 54]⟩)]
theorem w3p:MT 103 (z3r q2z):=w3o ⟨G4,V9,q2f,V3,z8t,trivial⟩
def z3s(X:q20):Con Sg:=conS [.sl C.span] [.int .i64] fun a K=>X a.1 (fun q0=>K (q0,()))
theorem w3q{Zo:Rn}(h:AL [(165,z0x Zo)]):MT 166 (z3s (z2w Zo)):=mS h [(9,⟨bl 993,[],[],[sI 10]⟩)]
theorem w3r:MT 166 (z3s q61):=w3q ⟨z8t,trivial⟩
end Go.En
end
noncomputable section
open Go Go.RowKit Go.Fl Go.Fl.Lk Go.Fx
namespace Go.En
def q3w(X:Uz):Con Sg:=conS [.el C.exper] [.int .i64] fun a K=>X a.1 (fun q0=>K (q0,()))
theorem j1w{Qi:Zp}{Qa:Zd}{Qt:Jl}{V6:q20}{Z7:Hp}{Zm:Ux}{Qc:Za}(h:AL [(94,Ue Qi),(92,Vl Qa),(93,Hd Qt),(166,z3s V6),(167,q7d Z7),(159,q50 Zm),(91,Vd Qc)]):MT 106 (q3w (q21 Qi Qa Qt V6 Z7 Zm Qc)):=mS h []
theorem j1x:MT 106 (q3w U0):=j1w ⟨G4,V9,q2f,w3r,j1u,z55,V3,trivial⟩
def q1y(X:Uj):Con Sg:=conS [.el C.env] [.int .i64] fun a K=>X a.1 (fun q0=>K (q0,()))
theorem z9u{R2:Uz}{q7q:q2y}{z0i:q5n}{q36:Ba}{Qt:Jl}{Qa:Zd}{Qi:Zp}{Jd:Uv}{Qc:Za}(h:AL [(106,q3w R2),(103,z3r q7q),(100,z58 z0i),(97,q87 q36),(93,Hd Qt),(92,Vl Qa),(94,Ue Qi),(95,q3t Jd),(91,Vd Qc)]):MT 49 (q1y (Hr R2 q7q z0i q36 Qt Qa Qi Jd Qc)):=mS h [(6,⟨bl 783,[1,0],[],[sI 4]⟩),(12,⟨bl 52776558134047,[1,0],[],[sI 5]⟩),(97000009,⟨bl 258063,[],[],[sI 18]⟩),(18,⟨bl 3430476278661951,[1,0],[],[sI 6]⟩),(100000009,⟨bl 258063,[],[],[sI 18]⟩),(24,⟨bl 219603258392445823,[1,0],[],[sI 7]⟩),(103000009,⟨bl 258063,[],[],[sI 18]⟩),(106000009,⟨bl 258063,[],[],[sI 18]⟩)]
theorem z9v:MT 49 (q1y Wy):=z9u ⟨j1x,w3p,w6p,j8f,q2f,V9,G4,j1p,V3,trivial⟩
def z3t(X:q22):Con Sg:=conS [.sl C.decl,.str,.str] [.int .i64] fun a K=>X a.1 a.2.1 a.2.2.1 (fun q0=>K (q0,()))
theorem j1y:MT 109 (z3t Hs):=mS (l:=[]) trivial [(5,⟨bl 1543,[],[],[sI 11]⟩)]
def j1z(X:z2x):Con Sg:=conS [.el C.ex,.int .i64] [.bool] fun a K=>X a.1 a.2.1 (fun q0=>K (q0,()))
theorem w3s:MT 110 (j1z q0a):=mS (l:=[]) trivial [(216000005,⟨bl 195,[1],[],[sI 8]⟩),(26,⟨bl 17177776127,[1,0],[],[sB 37]⟩)]
def q7f(X:Wt):Con Sg:=conV [.sl C.decl,.sl C.str,.el C.ex] [.sl C.decl,.sl C.str,.el C.ex] [.int .i64] [.same,.same,.same] fun a K=>X a.1 a.2.1 a.2.2.1 (fun q0=>K (q0,()) ((),(),(),()))
theorem z3u:MT 53 (q7f q0b):=by show MT _ (conV ([.sl C.decl,.sl C.str,.el C.ex]:LP) ([.sl C.decl,.sl C.str,.el C.ex]:LV) ([.int .i64]:LV) ([.same,.same,.same]:LV) fun a K=>q0b a.1 a.2.1 a.2.2.1 (fun q0=>K (q0,()) ((),(),(),())));exact mQ (l:=[(109,z3t Hs),(110,j1z q0a)]) (u:=4) (rk:=[.v]) ⟨j1y,w3s,trivial⟩ (by kernel_rfl) [(169000005,⟨bl 195,[],[],[sI 8]⟩),(20,⟨bl 39,[0],[],[]⟩),(23,⟨bl 61572651155495,[0],[],[sI 46]⟩)] (fun X a K=>z2y Hs q0a (fun l segments e K=>X (l,segments,e,()) fun r _=>K r.1) a.1 a.2.1 a.2.2.1 (fun q0=>K (q0,()) ((),(),(),()))) (fun _ _ _=>by kernel_rfl) fun a K h X hX=>h (fun l segments e K=>X (l,segments,e,()) fun r _=>K r.1) fun l segments e K hs=>hX (l,segments,e,()) (fun r _=>K r.1) hs
def R0(X:V1):Con Sg:=conV [.own 9 C.str] [.vec 9 C.str] [] [.vec 9 C.str] fun a K=>X a.1 (fun q0=>K () (q0,()))
theorem q7g:MT 111 (R0 V2):=⟨entB (by kernel_rfl),q7a⟩
def G5(X:Wz):Con Sg:=conV [.own 9 C.str] [.vec 9 C.str] [.vec 9 C.str] [.same] fun a K=>X a.1 (fun q0=>K (q0,()) ((),()))
theorem q4s:MT 112 (G5 W4):=⟨entB (by kernel_rfl),q4r⟩
def q6h(X:Re):Con Sg:=conS [.el C.ex] [.sl C.str] fun a K=>X a.1 (fun q0=>K (q0,()))
theorem j5q{Vf:Gh}{Wr:V1}{Ju:Wz}(h:AL [(29,q5c Vf),(111,R0 Wr),(112,G5 Ju)]):MT 54 (q6h (q6c Vf Wr Ju)):=mS h [(7,⟨bl 455,[0],[],[(.slot 3,.own 9 C.str),sI 9]⟩)]
theorem j5r:MT 54 (q6h q1a):=j5q ⟨z8q,q7g,q4s,trivial⟩
def z8u(X:z0t):Con Sg:=conV [.sl C.str,.sl C.edge] [.sl C.str,.sl C.edge] [.vec 9 C.str] [.same,.same] fun a K=>X a.1 a.2.1 (fun q0=>K (q0,()) ((),(),()))
theorem w0b:MT 55 (z8u P_graph_Cyclic):=⟨entB (by kernel_rfl),j96⟩
def z59(X:q2c):Con Sg:=conS [.el C.env,.str] [.el C.flag,.bool] fun a K=>X a.1 a.2.1 (fun q0 q1=>K (q0,q1,()))
theorem j44:MT 117 (z59 q5p):=mS (l:=[]) trivial [(176000005,⟨bl 195,[1],[],[sI 8]⟩)]
def z0y(X:q04):Con Sg:=conS [.sl C.decl,.el C.serve] [.int .i64] fun a K=>X a.1 a.2.1 (fun q0=>K (q0,()))
theorem w0c{q0n:q22}(h:AL [(109,z3t q0n)]):MT 118 (z0y (z0u q0n)):=mS h []
theorem w0d:MT 118 (z0y q47):=w0c ⟨j1y,trivial⟩
def z6a(X:q5q):Con Sg:=conS [.el C.env,.sl C.str,.el C.flag] [.int .i64] fun a K=>X a.1 a.2.1 a.2.2.1 (fun q0=>K (q0,()))
theorem w6q{U7:q2c}{Je:Wt}{q08:q04}{Z8:We}(h:AL [(117,z59 U7),(53,q7f Je),(118,z0y q08),(9,H0 Z8)]):MT 56 (z6a (z5h U7 Je q08 Z8)):=mS h [(5,⟨bl 1835055,[1,0],[],[sI 21]⟩),(23,⟨bl 15393170915375,[1,0],[],[sI 44]⟩)]
theorem w6r:MT 56 (z6a q9w):=w6q ⟨j44,z3u,w0d,q86,trivial⟩
end Go.En
end
noncomputable section
open Go Go.RowKit Go.Fl Go.Fl.Lk Go.Fx
namespace Go.En
def j10(X:q62):Con Sg:=conS [.el C.env] [.vec 118 C.edge] fun a K=>X a.1 (fun q0=>K (q0,()))
theorem w3t:MT 59 (j10 q0c):=mS (l:=[]) trivial [(7,⟨bl 1799,[0],[],[(.slot 3,.own 118 C.edge),sI 11]⟩),(13,⟨bl 261927,[3],[],[(.slot 3,.own 118 C.edge),sI 18]⟩)]
def z4l(X:q6d):Con Sg:=conV [.sl C.span,.sl C.span] [.sl C.span,.sl C.span] [.sl C.span] [.same,.same] fun a K=>X a.1 a.2.1 (fun q0=>K (q0,()) ((),(),()))
theorem j5s:MT 121 (z4l q1b):=⟨entB (by kernel_rfl),j5m⟩
def q3x(X:U1):Con Sg:=conS [.el C.env,.sl C.str,.int .i64] [.int .i64] fun a K=>X a.1 a.2.1 a.2.2.1 (fun q0=>K (q0,()))
theorem j11{U7:q2c}{Je:Wt}{q1k:q6d}(h:AL [(117,z59 U7),(53,q7f Je),(121,z4l q1k)]):MT 60 (q3x (q23 U7 Je q1k)):=mS h [(6,⟨bl 8126671,[1,0],[],[sI 8]⟩),(15,⟨bl 8795966932879,[4,1,0],[],[sI 43]⟩),(37,⟨bl 2417704047297454409525135,[4,1,0],[],[(.slot 14,.own 126 C.span),sB 15,sI 81]⟩),(44,⟨bl 38647699703873372489164687,[11],[],[(.slot 14,.own 126 C.span)]⟩),(42,⟨bl 38647699703873372489181071,[8],[],[sB 94]⟩),(120000005,⟨bl 195,[],[],[sI 8]⟩)]
theorem j12:MT 60 (q3x Rx):=j11 ⟨j44,z3u,j5s,trivial⟩
def H2(X:Wg):Con Sg:=conS [.el C.env] [.str,.int .i64] fun a K=>X a.1 (fun q0 q1=>K (q0,q1,()))
theorem z9w{Ra:Uj}{q1l:Re}{Ua:q18}{Je:Wt}{q09:z0t}{z0j:q5q}{q7r:q62}{R3:U1}(h:AL [(49,q1y Ra),(54,q6h q1l),(52,z5z Ua),(53,q7f Je),(55,z8u q09),(56,z6a z0j),(59,j10 q7r),(60,q3x R3)]):MT 17 (H2 (Ht Ra q1l Ua Je q09 z0j q7r R3)):=mS h [(51000007,⟨bl 787,[],[],[(.slot 5,.own 9 C.str),sI 10]⟩),(15,⟨bl 2129657907,[0],[],[(.slot 6,.own 118 C.edge),sI 31,(.obj 1,.own 9 C.str)]⟩),(26,⟨bl 34341912947,[6],[],[(.obj 1,.own 9 C.str),(.obj 3,.own 118 C.edge)]⟩),(29,⟨bl 33777031547191603,[6],[],[(.slot 6,.own 118 C.edge),sI 55,(.obj 1,.own 9 C.str)]⟩),(47,⟨bl 2134214502351908855877747,[0],[],[sI 81,(.obj 6,.own 9 C.str),(.obj 1,.own 9 C.str),(.obj 3,.own 118 C.edge)]⟩),(58000007,⟨bl 787,[],[],[(.slot 5,.own 9 C.str),sI 10]⟩),(67,⟨bl 4583745351650532671514169150869619,[0],[],[sI 112,(.obj 14,.own 9 C.str),(.obj 11,.own 9 C.str),(.obj 13,.own 118 C.edge),(.obj 3,.own 118 C.edge),(.obj 1,.own 9 C.str),(.obj 6,.own 9 C.str)]⟩)]
theorem q89:MT 17 (H2 Wh):=z9w ⟨z9v,j5r,j41,z3u,w0b,w6r,w3t,j12,trivial⟩
def z3v(X:q24):Con Sg:=conS [] [.bool] fun _ K=>X (fun q0=>K (q0,()))
theorem w3u{Z8:We}{Z9:Wg}(h:AL [(9,H0 Z8),(17,H2 Z9)]):MT 7 (z3v (z2z Z8 Z9)):=mS h []
theorem w3v:MT 7 (z3v q63):=w3u ⟨q86,q89,trivial⟩
def v7k(X:w2t):Con Sg:=conV [.sl C.u8,.v] [.sl C.u8,.int .i64] [.ptr 90 [.sl C.u8,.int .i64]] [.same,.same] fun a K=>X a.1 a.2.1 (fun q0 q1=>K ((q0,q1,()),()) ((),(),()))
theorem y5u:MT 14 (v7k w2u):=mP (rk:=[.ptr 90 [.c,.v]]) (l:=[]) trivial [(6,⟨[1,4],[],[],[(.slot 0,.sl C.u8)]⟩)]
def z0a(X:Hc):Con Sg:=conS [] [.vec 142 C.decl] fun _ K=>X (fun q0=>K (q0,()))
theorem z6b:MT 43 (z0a Be):=mS (l:=[]) trivial []
def v1y(X:j6o):Con Sg:=conV [.ptr 90 [.c,.v]] [.ptr 90 [.sl C.u8,.int .i64]] [.bool] [.ptr 90 [.same,.int .i64]] fun a K=>X a.1.1 a.1.2.1 (fun q0 q1=>K (q0,()) (((),q1,()),()))
theorem y1b:MT 74 (v1y w2v):=mP (rk:=[.v]) (l:=[]) trivial []
def H3(X:Ji):Con Sg:=conV [.ptr 90 [.c,.v],.v] [.ptr 90 [.sl C.u8,.int .i64],.int .i64] [.int .i64] [.ptr 90 [.same,.int .i64],.same] fun a K=>X a.1.1 a.1.2.1 a.2.1 (fun q0 q1=>K (q0,()) (((),q1,()),(),()))
theorem y1c{j62:j6o}(h:AL [(74,v1y j62)]):MT 28 (H3 (w2w j62)):=mP (rk:=[.v]) h []
theorem q0j:MT 28 (H3 Jb):=y1c ⟨y1b,trivial⟩
def z3w(X:q0d):Con Sg:=conV [.ptr 90 [.c,.v]] [.ptr 90 [.sl C.u8,.int .i64]] [.str] [.ptr 90 [.same,.int .i64]] fun a K=>X a.1.1 a.1.2.1 (fun q0 q1=>K (q0,()) (((),q1,()),()))
theorem y1d{Qd:Ji}(h:AL [(28,H3 Qd)]):MT 37 (z3w (w2x Qd)):=mP (rk:=[.v]) h []
theorem j13:MT 37 (z3w q9x):=y1d ⟨q0j,trivial⟩
def z7y(X:q25):Con Sg:=conV [.ptr 90 [.c,.v],.v] [.ptr 90 [.sl C.u8,.int .i64],.int .i64] [.int .i64] [.ptr 90 [.same,.int .i64],.same] fun a K=>X a.1.1 a.1.2.1 a.2.1 (fun q0 q1=>K (q0,()) (((),q1,()),(),()))
theorem y1e{Qd:Ji}(h:AL [(28,H3 Qd)]):MT 38 (z7y (w2y Qd)):=mP (rk:=[.v]) h []
theorem j6s:MT 38 (z7y z22):=y1e ⟨q0j,trivial⟩
def w3w(X:z7f):Con Sg:=conS [.int .i64,.vec 9 C.str] [.sl C.str] fun a K=>X a.1 a.2.1 (fun q0=>K (q0,()))
theorem v1z:MT 45 (w3w j6p):=mS (l:=[]) trivial []
end Go.En
end
noncomputable section
open Go Go.RowKit Go.Fl Go.Fl.Lk Go.Fx
namespace Go.En
def j14(X:q64):Con Sg:=conV [.ptr 90 [.c,.v]] [.ptr 90 [.sl C.u8,.int .i64]] [.vec 9 C.str] [.ptr 90 [.same,.int .i64]] fun a K=>X a.1.1 a.1.2.1 (fun q0 q1=>K (q0,()) (((),q1,()),()))
theorem y1f{Qd:Ji}(h:AL [(28,H3 Qd)]):MT 39 (j14 (w2z Qd)):=mP (rk:=[.own 9 C.str]) h [(9,⟨bl 397,[],[(0,(90,2))],[(.slot 4,.own 9 C.str),sI 5,(.cell 0 1,.int .i64)]⟩),(17,⟨bl 8121,[0],[],[sI 6,(.obj 1,.own 9 C.str)]⟩)]
theorem w3x:MT 39 (j14 z23):=y1f ⟨q0j,trivial⟩
def w89(X:j7z):Con Sg:=conV [.ptr 90 [.c,.v]] [.ptr 90 [.sl C.u8,.int .i64]] [.str] [.ptr 90 [.same,.int .i64]] fun a K=>X a.1.1 a.1.2.1 (fun q0 q1=>K (q0,()) (((),q1,()),()))
theorem y5v{Qd:Ji}(h:AL [(28,H3 Qd)]):MT 122 (w89 (w84 Qd)):=mP (rk:=[.v]) h []
theorem y5w:MT 122 (w89 w22):=y5v ⟨q0j,trivial⟩
def z6c(X:q26):Con Sg:=conV [.ptr 90 [.c,.v],.v] [.ptr 90 [.sl C.u8,.int .i64],.int .i64] [.el C.val] [.ptr 90 [.same,.int .i64],.same] fun a K=>X a.1.1 a.1.2.1 a.2.1 (fun q0 q1=>K (q0,()) (((),q1,()),(),()))
theorem v7l{Qd:Ji}{J8:q0d}(h:AL [(28,H3 Qd),(37,z3w J8)]):MT 85 (z6c (j0z Qd J8)):=mP (rk:=[.el C.val]) h []
theorem j8i:MT 85 (z6c Bf):=v7l ⟨q0j,j13,trivial⟩
def w3y(X:j6q):Con Sg:=conV [.ptr 90 [.c,.v]] [.ptr 90 [.sl C.u8,.int .i64]] [.el C.ex] [.ptr 90 [.same,.int .i64]] fun a K=>X a.1.1 a.1.2.1 (fun q0 q1=>K (q0,()) (((),q1,()),()))
theorem y1g{Z4:Hc}{Qd:Ji}{w42:j7z}{Jw:q26}(h:AL [(43,z0a Z4),(28,H3 Qd),(122,w89 w42),(85,z6c Jw)]):MT 61 (w3y (w23 Z4 Qd w42 Jw)):=mP (rk:=[.el C.ex]) h [(68,⟨bl 4286840701,[3,2],[(5,(40,5)),(0,(90,2)),(1,(40,5))],[(.cell 5 0,.int .i64),(.cell 5 1,.str),(.cell 5 2,.str),(.cell 5 3,.own 144 C.val),(.cell 5 4,.own 40 C.ex),(.cell 0 1,.int .i64),(.cell 1 0,.int .i64),(.cell 1 1,.str),(.cell 1 2,.str),(.cell 1 3,.own 144 C.val),(.cell 1 4,.own 40 C.ex)]⟩),(60,⟨bl 17163319925,[],[(0,(90,2)),(5,(40,5)),(1,(40,5))],[(.cell 0 1,.int .i64),(.cell 5 0,.int .i64),(.cell 5 1,.str),(.cell 5 2,.str),(.cell 5 3,.own 144 C.val),(.cell 5 4,.own 40 C.ex),(.cell 1 0,.int .i64),(.cell 1 1,.str),(.cell 1 2,.str),(.cell 1 3,.own 144 C.val),(.cell 1 4,.own 40 C.ex)]⟩),(37,⟨bl 1055806024022645,[1],[(5,(40,5)),(0,(90,2))],[sI 7,(.cell 5 3,.own 144 C.val),(.cell 0 1,.int .i64)]⟩)]
theorem y1h:MT 61 (w3y z7g):=y1g ⟨z6b,q0j,y5w,j8i,trivial⟩
def j6t(X:q27):Con Sg:=conV [.ptr 90 [.c,.v],.sl C.str,.v] [.ptr 90 [.sl C.u8,.int .i64],.sl C.str,.int .i64] [.el C.ex] [.ptr 90 [.same,.int .i64],.same,.same] fun a K=>X a.1.1 a.1.2.1 a.2.1 a.2.2.1 (fun q0 q1=>K (q0,()) (((),q1,()),(),(),()))
theorem w3z:MT 20 (j6t q9y):=by show MT _ (conV ([.ptr 90 [.c,.v],.sl C.str,.v]:LP) ([.ptr 90 [.sl C.u8,.int .i64],.sl C.str,.int .i64]:LV) ([.el C.ex]:LV) ([.ptr 90 [.same,.int .i64],.same,.same]:LV) fun a K=>q9y a.1.1 a.1.2.1 a.2.1 a.2.2.1 (fun q0 q1=>K (q0,()) (((),q1,()),(),(),())));exact mQ (l:=[(28,H3 Jb),(61,w3y z7g)]) (u:=4) (rk:=[.el C.ex]) ⟨q0j,y1h,trivial⟩ (by kernel_rfl) [(8,⟨bl 24647,[0,1],[],[sI 7]⟩),(28,⟨bl 3298996281543,[0,1],[],[sB 49]⟩),(37,⟨bl 1148984153929181127,[1],[(0,(90,2)),(4,(40,5))],[sI 11,(.cell 0 1,.int .i64),(.cell 4 0,.int .i64),(.cell 4 1,.str),(.cell 4 2,.str),(.cell 4 3,.own 144 C.val),(.cell 4 4,.own 40 C.ex)]⟩),(46,⟨bl 1152917567256169316295,[0,12,11,4],[(13,(40,5))],[(.cell 13 0,.int .i64),(.cell 13 1,.str),(.cell 13 2,.str),(.cell 13 3,.sl C.val),(.cell 13 4,.sl C.ex)]⟩)] (fun X a K=>z7h Jb z7g (fun list at_ segments levels K=>X ((list,at_,()),segments,levels,()) fun r o=>K r.1 o.1.2.1) a.1.1 a.1.2.1 a.2.1 a.2.2.1 (fun q0 q1=>K (q0,()) (((),q1,()),(),(),()))) (fun _ _ _=>by kernel_rfl) fun a K h X hX=>h (fun list at_ segments levels K=>X ((list,at_,()),segments,levels,()) fun r o=>K r.1 o.1.2.1) fun list at_ segments levels K hs=>hX ((list,at_,()),segments,levels,()) (fun r o=>K r.1 o.1.2.1) hs
def z6d(X:q5r):Con Sg:=conV [.ptr 90 [.c,.v],.ptr 56 [.v,.v,.v,.sl C.decl,.own 95 C.seg,.own 99 C.flag,.own 68 C.layer,.own 65 C.exper]] [.ptr 90 [.sl C.u8,.int .i64],.ptr 56 [.str,.str,.int .i64,.sl C.decl,.vec 95 C.seg,.vec 99 C.flag,.vec 68 C.layer,.vec 65 C.exper]] [] [.ptr 90 [.same,.int .i64],.ptr 56 [.str,.str,.int .i64,.sl C.decl,.vec 95 C.seg,.vec 99 C.flag,.vec 68 C.layer,.vec 65 C.exper]] fun a K=>X a.1.1 a.1.2.1 a.2.1.1 a.2.1.2.1 a.2.1.2.2.1 a.2.1.2.2.2.1 a.2.1.2.2.2.2.1 a.2.1.2.2.2.2.2.1 a.2.1.2.2.2.2.2.2.1 a.2.1.2.2.2.2.2.2.2.1 (fun q0 q1 q2 q3 q4 q5 q6 q7 q8=>K () (((),q0,()),(q1,q2,q3,q4,q5,q6,q7,q8,()),()))
theorem w6s{Qd:Ji}{q37:z7f}{U8:q64}{Gq:q27}(h:AL [(28,H3 Qd),(45,w3w q37),(39,j14 U8),(20,j6t Gq)]):MT 44 (z6d (z5i Qd q37 U8 Gq)):=mP (rk:=[]) h [(5,⟨bl 1427,[3,4,5],[(0,(90,2)),(1,(56,8))],[sI 5,(.cell 0 1,.int .i64),(.cell 1 4,.own 95 C.seg)]⟩),(14,⟨bl 67010035,[11,10,9,1],[(12,(95,9)),(0,(90,2))],[(.cell 12 1,.str),(.cell 0 1,.int .i64)]⟩),(18,⟨bl 67010035,[11,10,9,1],[(12,(95,9)),(0,(90,2))],[(.cell 12 4,.int .i64),(.cell 12 5,.str),(.cell 12 6,.str),(.cell 12 7,.sl C.val),(.cell 12 8,.sl C.ex),(.cell 0 1,.int .i64)]⟩)]
theorem w6t:MT 44 (z6d q9z):=w6s ⟨q0j,v1z,w3x,w3z,trivial⟩
def q9a(X:Gu):Con Sg:=conS [.el C.env] [.vec 9 C.str] fun a K=>X a.1 (fun q0=>K (q0,()))
theorem z6e:MT 86 (q9a Gv):=mS (l:=[]) trivial [(7,⟨[0,1,2],[0],[],[(.slot 3,.own 9 C.str),sI 4]⟩)]
def j15(X:q8g):Con Sg:=conV [.ptr 90 [.c,.v],.v] [.ptr 90 [.sl C.u8,.int .i64],.int .i64] [.vec 190 C.range] [.ptr 90 [.same,.int .i64],.same] fun a K=>X a.1.1 a.1.2.1 a.2.1 (fun q0 q1=>K (q0,()) (((),q1,()),(),()))
theorem v7m{Qd:Ji}{J9:q25}(h:AL [(28,H3 Qd),(38,z7y J9)]):MT 84 (j15 (j00 Qd J9)):=mP (rk:=[.own 190 C.range]) h [(26,⟨[0,1,4],[],[(0,(90,2))],[(.slot 5,.own 190 C.range),sI 6,sI 7,(.cell 0 1,.int .i64)]⟩),(32,⟨bl 8444249301319923,[0,1],[],[sI 11]⟩),(9,⟨[0,1,4],[],[(0,(90,2))],[(.slot 5,.own 190 C.range),sI 6,sI 7,sI 8,(.cell 0 1,.int .i64)]⟩),(20,⟨bl 2144334835,[0,1],[],[sI 10]⟩)]
theorem w6u:MT 84 (j15 q8h):=v7m ⟨q0j,j6s,trivial⟩
def j16(X:q8i):Con Sg:=conV [.ptr 90 [.c,.v],.v] [.ptr 90 [.sl C.u8,.int .i64],.int .i64] [.el C.serve] [.ptr 90 [.same,.int .i64],.same] fun a K=>X a.1.1 a.1.2.1 a.2.1 (fun q0 q1=>K (q0,()) (((),q1,()),(),()))
theorem v7n{Qd:Ji}{J8:q0d}{q38:q8g}{Z4:Hc}(h:AL [(28,H3 Qd),(37,z3w J8),(84,j15 q38),(43,z0a Z4)]):MT 40 (j16 (j01 Qd J8 q38 Z4)):=mP (rk:=[.el C.serve]) h []
theorem w6v:MT 40 (j16 q28):=v7n ⟨q0j,j13,w6u,z6b,trivial⟩
def w6w(X:j02):Con Sg:=conV [] [] [.ptr 86 [.vec 136 C.node,.map C.node C.i64,.bool]] [] fun _ K=>X (fun q0 q1 q2=>K ((q0,q1,q2,()),()) ())
theorem v7o:MT 24 (w6w w6c):=mP (rk:=[.ptr 86 [.own 136 C.node,.map C.node C.i64,.v]]) (l:=[]) trivial []
def q9b(X:Bg):Con Sg:=conS [.int .i64] [.bool] fun a K=>X a.1 (fun q0=>K (q0,()))
theorem z3x:MT 82 (q9b Vs):=mS (l:=[]) trivial []
def w6x(X:j03):Con Sg:=conS [.sl C.str,.sl C.str] [.bool] fun a K=>X a.1 a.2.1 (fun q0=>K (q0,()))
theorem v7p:MT 231 (w6x j04):=mS (l:=[]) trivial [(9,⟨bl 1987,[],[],[sI 5]⟩)]
end Go.En
end
noncomputable section
open Go Go.RowKit Go.Fl Go.Fl.Lk Go.Fx
namespace Go.En
def j3v(X:z1f):Con Sg:=conS [.el C.val,.el C.val] [.bool] fun a K=>X a.1 a.2.1 (fun q0=>K (q0,()))
theorem v3c{j2p:j03}(h:AL [(231,w6x j2p)]):MT 190 (j3v (j3f j2p)):=mS h []
theorem v3d:MT 190 (j3v z7i):=v3c ⟨v7p,trivial⟩
def q9c(X:q29):Con Sg:=conS [.sl C.val,.sl C.val] [.bool] fun a K=>X a.1 a.2.1 (fun q0=>K (q0,()))
theorem j8j{z72:z1f}(h:AL [(190,j3v z72)]):MT 139 (q9c (q8j z72)):=mS h [(9,⟨bl 1987,[],[],[sI 5]⟩)]
theorem j8k:MT 139 (q9c Gw):=j8j ⟨v3d,trivial⟩
def j17(X:Hu):Con Sg:=conV [.el C.ex,.el C.ex] [.el C.ex,.el C.ex] [.bool] [.same,.same] fun a K=>X a.1 a.2.1 (fun q0=>K (q0,()) ((),(),()))
theorem w30:MT 83 (j17 q3a):=by show MT _ (conV ([.el C.ex,.el C.ex]:LP) ([.el C.ex,.el C.ex]:LV) ([.bool]:LV) ([.same,.same]:LV) fun a K=>q3a a.1 a.2.1 (fun q0=>K (q0,()) ((),(),())));exact mQ (l:=[(139,q9c Gw)]) (u:=4) (rk:=[.v]) ⟨j8k,trivial⟩ (by kernel_rfl) [(141000009,⟨bl 1987,[],[],[sI 5]⟩)] (fun X a K=>z25 Gw (fun a b K=>X (a,b,()) fun r _=>K r.1) a.1 a.2.1 (fun q0=>K (q0,()) ((),(),()))) (fun _ _ _=>by kernel_rfl) fun a K h X hX=>h (fun a b K=>X (a,b,()) fun r _=>K r.1) fun a b K hs=>hX (a,b,()) (fun r _=>K r.1) hs
def z3y(X:q8k):Con Sg:=conS [.sl C.ex,.el C.ex] [.int .i64] fun a K=>X a.1 a.2.1 (fun q0=>K (q0,()))
theorem w9a{q7s:Hu}(h:AL [(83,j17 q7s)]):MT 35 (z3y (z9c q7s)):=mS h [(5,⟨[0,1,3],[0],[],[sI 5]⟩)]
theorem j8l:MT 35 (z3y Gi):=w9a ⟨w30,trivial⟩
def z8v(X:Gj):Con Sg:=conV [.sl C.ex,.el C.ex] [.sl C.ex,.el C.ex] [.sl C.ex] [.same,.same] fun a K=>X a.1 a.2.1 (fun q0=>K (q0,()) ((),(),()))
theorem w0e:MT 34 (z8v q48):=by show MT _ (conV ([.sl C.ex,.el C.ex]:LP) ([.sl C.ex,.el C.ex]:LV) ([.sl C.ex]:LV) ([.same,.same]:LV) fun a K=>q48 a.1 a.2.1 (fun q0=>K (q0,()) ((),(),())));exact mQ (l:=[(35,z3y Gi),(82,q9b Vs)]) (u:=4) (rk:=[.sl C.ex]) ⟨j8l,z3x,trivial⟩ (by kernel_rfl) [(6,⟨[1,3,4],[0],[],[(.slot 0,.sl C.ex)]⟩),(9,⟨[1,3,4],[0],[],[(.slot 0,.sl C.ex),sI 5]⟩)] (fun X a K=>z0v Gi Vs (fun l e K=>X (l,e,()) fun r _=>K r.1) a.1 a.2.1 (fun q0=>K (q0,()) ((),(),()))) (fun _ _ _=>by kernel_rfl) fun a K h X hX=>h (fun l e K=>X (l,e,()) fun r _=>K r.1) fun l e K hs=>hX (l,e,()) (fun r _=>K r.1) hs
def q9d(X:Bh):Con Sg:=conS [.sl C.rule] [.sl C.ex] fun a K=>X a.1 (fun q0=>K (q0,()))
theorem j8m{q5f:Gj}(h:AL [(34,z8v q5f)]):MT 12 (q9d (q8l q5f)):=mS h [(7,⟨[0,2],[],[],[(.slot 3,.sl C.ex),sI 4]⟩)]
theorem j8n:MT 12 (q9d q3b):=j8m ⟨w0e,trivial⟩
def q3y(X:Vb):Con Sg:=conV [.ptr 86 [.own 136 C.node,.map C.node C.i64,.v],.v] [.ptr 86 [.vec 136 C.node,.map C.node C.i64,.bool],.int .i64] [.bool] [.ptr 86 [.vec 136 C.node,.map C.node C.i64,.bool],.same] fun a K=>X a.1.1 a.1.2.1 a.1.2.2.1 a.2.1 (fun q0 q1 q2 q3=>K (q0,()) ((q1,q2,q3,()),(),()))
theorem q7h:MT 70 (q3y Hw):=mP (rk:=[.v]) (l:=[]) trivial []
def z4m(X:q1c):Con Sg:=conV [.ptr 86 [.own 136 C.node,.map C.node C.i64,.v],.v] [.ptr 86 [.vec 136 C.node,.map C.node C.i64,.bool],.int .i64] [.map C.i64 C.bool] [.ptr 86 [.vec 136 C.node,.map C.node C.i64,.bool],.same] fun a K=>X a.1.1 a.1.2.1 a.1.2.2.1 a.2.1 (fun q0 q1 q2 q3=>K (q0,()) ((q1,q2,q3,()),(),()))
theorem j5t:MT 188 (z4m q1d):=mP (rk:=[.map C.i64 C.bool]) (l:=[]) trivial [(7,⟨bl 1843,[0,1,2],[],[(.slot 6,.own 3 C.i64),(.obj 3,.map C.i64 C.bool)]⟩)]
def q4t(X:Gy):Con Sg:=conV [.ptr 86 [.own 136 C.node,.map C.node C.i64,.v],.v] [.ptr 86 [.vec 136 C.node,.map C.node C.i64,.bool],.int .i64] [.vec 3 C.i64] [.ptr 86 [.vec 136 C.node,.map C.node C.i64,.bool],.same] fun a K=>X a.1.1 a.1.2.1 a.1.2.2.1 a.2.1 (fun q0 q1 q2 q3=>K (q0,()) ((q1,q2,q3,()),(),()))
theorem j3w{Q7:Vb}{q1m:q1c}(h:AL [(70,q3y Q7),(188,z4m q1m)]):MT 137 (q4t (z1g Q7 q1m)):=mP (rk:=[.own 3 C.i64]) h [(13,⟨bl 32563,[5,0,4,2],[],[(.slot 6,.own 3 C.i64),sI 7]⟩)]
theorem j3x:MT 137 (q4t q0e):=j3w ⟨q7h,j5t,trivial⟩
def Vx(X:Zy):Con Sg:=conV [.ptr 86 [.own 136 C.node,.map C.node C.i64,.v],.v] [.ptr 86 [.vec 136 C.node,.map C.node C.i64,.bool],.int .i64] [.bool] [.ptr 86 [.vec 136 C.node,.map C.node C.i64,.bool],.same] fun a K=>X a.1.1 a.1.2.1 a.1.2.2.1 a.2.1 (fun q0 q1 q2 q3=>K (q0,()) ((q1,q2,q3,()),(),()))
theorem z8j{Q7:Vb}{q0p:Gy}(h:AL [(70,q3y Q7),(137,q4t q0p)]):MT 80 (Vx (q6p Q7 q0p)):=mP (rk:=[.v]) h [(11,⟨bl 16291,[5,0,4,2],[],[sI 6]⟩)]
theorem q0x:MT 80 (Vx Wv):=z8j ⟨q7h,j3x,trivial⟩
def q5d(X:Gk):Con Sg:=conV [.ptr 86 [.own 136 C.node,.map C.node C.i64,.v],.v] [.ptr 86 [.vec 136 C.node,.map C.node C.i64,.bool],.int .i64] [.int .i64] [.ptr 86 [.vec 136 C.node,.map C.node C.i64,.bool],.same] fun a K=>X a.1.1 a.1.2.1 a.1.2.2.1 a.2.1 (fun q0 q1 q2 q3=>K (q0,()) ((q1,q2,q3,()),(),()))
theorem z0z:MT 127 (q5d Vc):=mP (rk:=[.v]) (l:=[]) trivial []
def q6i(X:q1e):Con Sg:=conV [.ptr 86 [.own 136 C.node,.map C.node C.i64,.v],.v,.v] [.ptr 86 [.vec 136 C.node,.map C.node C.i64,.bool],.int .i64,.int .i64] [.int .i64,.int .i64] [.ptr 86 [.vec 136 C.node,.map C.node C.i64,.bool],.same,.same] fun a K=>X a.1.1 a.1.2.1 a.1.2.2.1 a.2.1 a.2.2.1 (fun q0 q1 q2 q3 q4=>K (q0,q1,()) ((q2,q3,q4,()),(),(),()))
theorem j5u{Z1:Gk}(h:AL [(127,q5d Z1)]):MT 189 (q6i (z4j Z1)):=mP (rk:=[.v,.v]) h []
theorem j5v:MT 189 (q6i Vt):=j5u ⟨z0z,trivial⟩
end Go.En
end
noncomputable section
open Go Go.RowKit Go.Fl Go.Fl.Lk Go.Fx
namespace Go.En
def q3z(X:Bi):Con Sg:=conV [.ptr 86 [.own 136 C.node,.map C.node C.i64,.v],.v,.v,.v] [.ptr 86 [.vec 136 C.node,.map C.node C.i64,.bool],.int .i64,.int .i64,.int .i64] [.int .i64] [.ptr 86 [.vec 136 C.node,.map C.node C.i64,.bool],.same,.same,.same] fun a K=>X a.1.1 a.1.2.1 a.1.2.2.1 a.2.1 a.2.2.1 a.2.2.2.1 (fun q0 q1 q2 q3=>K (q0,()) ((q1,q2,q3,()),(),(),(),()))
theorem j8o{Q7:Vb}{Z1:Gk}(h:AL [(70,q3y Q7),(127,q5d Z1)]):MT 73 (q3z (z5j Q7 Z1)):=mP (rk:=[.v]) h []
theorem z6f:MT 73 (q3z J2):=j8o ⟨q7h,z0z,trivial⟩
def z15(X:W8):Con Sg:=conV [.ptr 86 [.own 136 C.node,.map C.node C.i64,.v],.v,.v,.v,.map C.a3 C.i64] [.ptr 86 [.vec 136 C.node,.map C.node C.i64,.bool],.int .i64,.int .i64,.int .i64,.map C.a3 C.i64] [.int .i64] [.ptr 86 [.vec 136 C.node,.map C.node C.i64,.bool],.same,.same,.same,.map C.a3 C.i64] fun a K=>X a.1.1 a.1.2.1 a.1.2.2.1 a.2.1 a.2.2.1 a.2.2.2.1 a.2.2.2.2.1 (fun q0 q1 q2 q3 q4=>K (q0,()) ((q1,q2,q3,()),(),(),(),q4,()))
theorem j3y:MT 138 (z15 q0f):=by show MT _ (conV ([.ptr 86 [.own 136 C.node,.map C.node C.i64,.v],.v,.v,.v,.map C.a3 C.i64]:LP) ([.ptr 86 [.vec 136 C.node,.map C.node C.i64,.bool],.int .i64,.int .i64,.int .i64,.map C.a3 C.i64]:LV) ([.int .i64]:LV) ([.ptr 86 [.vec 136 C.node,.map C.node C.i64,.bool],.same,.same,.same,.map C.a3 C.i64]:LV) fun a K=>q0f a.1.1 a.1.2.1 a.1.2.2.1 a.2.1 a.2.2.1 a.2.2.2.1 a.2.2.2.2.1 (fun q0 q1 q2 q3 q4=>K (q0,()) ((q1,q2,q3,()),(),(),(),q4,())));exact mQ (l:=[(127,q5d Vc),(189,q6i Vt),(73,q3z J2)]) (u:=4) (rk:=[.v]) ⟨z0z,j5v,z6f,trivial⟩ (by kernel_rfl) [(36,⟨bl 4951760157141239551596952607,[3,4],[(0,(86,3))],[sI 23,(.cell 0 0,.own 136 C.node),(.cell 0 2,.bool),(.obj 2,.map C.node C.i64)]⟩)] (fun X a K=>Gz Vc Vt J2 (fun ns ids full f g h known K=>X ((ns,ids,full,()),f,g,h,known,()) fun r o=>K r.1 o.1.1 o.1.2.1 o.1.2.2.1 o.2.2.2.2.1) a.1.1 a.1.2.1 a.1.2.2.1 a.2.1 a.2.2.1 a.2.2.2.1 a.2.2.2.2.1 (fun q0 q1 q2 q3 q4=>K (q0,()) ((q1,q2,q3,()),(),(),(),q4,()))) (fun _ _ _=>by kernel_rfl) fun a K h X hX=>h (fun ns ids full f g h known K=>X ((ns,ids,full,()),f,g,h,known,()) fun r o=>K r.1 o.1.1 o.1.2.1 o.1.2.2.1 o.2.2.2.2.1) fun ns ids full f g h known K hs=>hX ((ns,ids,full,()),f,g,h,known,()) (fun r o=>K r.1 o.1.1 o.1.2.1 o.1.2.2.1 o.2.2.2.2.1) hs
def G6(X:Js):Con Sg:=conV [.ptr 86 [.own 136 C.node,.map C.node C.i64,.v],.v,.v,.v] [.ptr 86 [.vec 136 C.node,.map C.node C.i64,.bool],.int .i64,.int .i64,.int .i64] [.int .i64] [.ptr 86 [.vec 136 C.node,.map C.node C.i64,.bool],.same,.same,.same] fun a K=>X a.1.1 a.1.2.1 a.1.2.2.1 a.2.1 a.2.2.1 a.2.2.2.1 (fun q0 q1 q2 q3=>K (q0,()) ((q1,q2,q3,()),(),(),(),()))
theorem j3z{Q0:Zy}{Q7:Vb}{q0q:W8}(h:AL [(80,Vx Q0),(70,q3y Q7),(138,z15 q0q)]):MT 81 (G6 (z1h Q0 Q7 q0q)):=mP (rk:=[.v]) h []
theorem q4u:MT 81 (G6 Ud):=j3z ⟨q0x,q7h,j3y,trivial⟩
def z00(X:q49):Con Sg:=conV [.ptr 86 [.own 136 C.node,.map C.node C.i64,.v],.v] [.ptr 86 [.vec 136 C.node,.map C.node C.i64,.bool],.int .i64] [.int .i64] [.ptr 86 [.vec 136 C.node,.map C.node C.i64,.bool],.same] fun a K=>X a.1.1 a.1.2.1 a.1.2.2.1 a.2.1 (fun q0 q1 q2 q3=>K (q0,()) ((q1,q2,q3,()),(),()))
theorem w0f{Zb:Js}(h:AL [(81,G6 Zb)]):MT 71 (z00 (z8n Zb)):=mP (rk:=[.v]) h []
theorem w0g:MT 71 (z00 Rp):=w0f ⟨q4u,trivial⟩
def z01(X:q5a):Con Sg:=conV [.ptr 86 [.own 136 C.node,.map C.node C.i64,.v],.v,.v] [.ptr 86 [.vec 136 C.node,.map C.node C.i64,.bool],.int .i64,.int .i64] [.int .i64] [.ptr 86 [.vec 136 C.node,.map C.node C.i64,.bool],.same,.same] fun a K=>X a.1.1 a.1.2.1 a.1.2.2.1 a.2.1 a.2.2.1 (fun q0 q1 q2 q3=>K (q0,()) ((q1,q2,q3,()),(),(),()))
theorem w0h{Q0:Zy}{Zb:Js}(h:AL [(80,Vx Q0),(81,G6 Zb)]):MT 72 (z01 (z8o Q0 Zb)):=mP (rk:=[.v]) h []
theorem w0i:MT 72 (z01 Rq):=w0h ⟨q0x,q4u,trivial⟩
def q7i(X:q0g):Con Sg:=conV [.ptr 86 [.own 136 C.node,.map C.node C.i64,.v],.v,.v] [.ptr 86 [.vec 136 C.node,.map C.node C.i64,.bool],.int .i64,.int .i64] [.int .i64] [.ptr 86 [.vec 136 C.node,.map C.node C.i64,.bool],.same,.same] fun a K=>X a.1.1 a.1.2.1 a.1.2.2.1 a.2.1 a.2.2.1 (fun q0 q1 q2 q3=>K (q0,()) ((q1,q2,q3,()),(),(),()))
theorem w31{Q0:Zy}{Zb:Js}(h:AL [(80,Vx Q0),(81,G6 Zb)]):MT 33 (q7i (j05 Q0 Zb)):=mP (rk:=[.v]) h []
theorem j18:MT 33 (q7i Hx):=w31 ⟨q0x,q4u,trivial⟩
def z6g(X:Uk):Con Sg:=conV [.ptr 86 [.own 136 C.node,.map C.node C.i64,.v],.sl C.ex,.el C.ex] [.ptr 86 [.vec 136 C.node,.map C.node C.i64,.bool],.sl C.ex,.el C.ex] [.int .i64] [.ptr 86 [.vec 136 C.node,.map C.node C.i64,.bool],.same,.same] fun a K=>X a.1.1 a.1.2.1 a.1.2.2.1 a.2.1 a.2.2.1 (fun q0 q1 q2 q3=>K (q0,()) ((q1,q2,q3,()),(),(),()))
theorem j8p:MT 27 (z6g q3c):=by show MT _ (conV ([.ptr 86 [.own 136 C.node,.map C.node C.i64,.v],.sl C.ex,.el C.ex]:LP) ([.ptr 86 [.vec 136 C.node,.map C.node C.i64,.bool],.sl C.ex,.el C.ex]:LV) ([.int .i64]:LV) ([.ptr 86 [.vec 136 C.node,.map C.node C.i64,.bool],.same,.same]:LV) fun a K=>q3c a.1.1 a.1.2.1 a.1.2.2.1 a.2.1 a.2.2.1 (fun q0 q1 q2 q3=>K (q0,()) ((q1,q2,q3,()),(),(),())));exact mQ (l:=[(71,z00 Rp),(72,z01 Rq),(33,q7i Hx),(35,z3y Gi),(73,q3z J2)]) (u:=4) (rk:=[.v]) ⟨w0g,w0i,j18,j8l,z6f,trivial⟩ (by kernel_rfl) [(16,⟨bl 129127,[3,0,1,2],[],[sB 26]⟩),(21,⟨bl 68249843815,[3],[(0,(86,3))],[sI 7,sI 8,(.cell 0 0,.own 136 C.node),(.cell 0 2,.bool),(.obj 2,.map C.node C.i64)]⟩)] (fun X a K=>q8m Rp Rq Hx Gi J2 (fun ns ids full atoms e K=>X ((ns,ids,full,()),atoms,e,()) fun r o=>K r.1 o.1.1 o.1.2.1 o.1.2.2.1) a.1.1 a.1.2.1 a.1.2.2.1 a.2.1 a.2.2.1 (fun q0 q1 q2 q3=>K (q0,()) ((q1,q2,q3,()),(),(),()))) (fun _ _ _=>by kernel_rfl) fun a K h X hX=>h (fun ns ids full atoms e K=>X ((ns,ids,full,()),atoms,e,()) fun r o=>K r.1 o.1.1 o.1.2.1 o.1.2.2.1) fun ns ids full atoms e K hs=>hX ((ns,ids,full,()),atoms,e,()) (fun r o=>K r.1 o.1.1 o.1.2.1 o.1.2.2.1) hs
def G7(X:Jt):Con Sg:=conS [.sl C.rule] [.vec 3 C.i64,.int .i64,.bool] fun a K=>X a.1 (fun q0 q1 q2=>K (q0,q1,q2,()))
theorem j30{j2q:j02}{q39:Bh}{q4a:Uk}{q0r:q0g}(h:AL [(24,w6w j2q),(12,q9d q39),(27,z6g q4a),(33,q7i q0r)]):MT 10 (G7 (q4m j2q q39 q4a q0r)):=mS h [(13,⟨bl 28769,[],[(0,(86,3))],[sI 7,(.slot 8,.own 3 C.i64),sI 9,(.cell 0 0,.own 136 C.node),(.cell 0 2,.bool),(.obj 2,.map C.node C.i64)]⟩)]
theorem q4v:MT 10 (G7 W9):=j30 ⟨v7o,j8n,j8p,j18,trivial⟩
def j8q(X:z5k):Con Sg:=conV [.ptr 90 [.c,.v],.v] [.ptr 90 [.sl C.u8,.int .i64],.str] [.el C.layer] [.ptr 90 [.same,.int .i64],.same] fun a K=>X a.1.1 a.1.2.1 a.2.1 (fun q0 q1=>K (q0,()) (((),q1,()),(),()))
theorem v7q{J8:q0d}{Qd:Ji}{J9:q25}(h:AL [(37,z3w J8),(28,H3 Qd),(38,z7y J9)]):MT 46 (j8q (j70 J8 Qd J9)):=mP (rk:=[.el C.layer]) h [(8,⟨bl 130099,[1],[(2,(68,6)),(0,(90,2))],[(.cell 2 1,.str),(.cell 0 1,.int .i64)]⟩),(12,⟨bl 130099,[1],[(2,(68,6)),(0,(90,2))],[(.cell 2 3,.int .i64),(.cell 0 1,.int .i64)]⟩),(17,⟨bl 130099,[1],[(2,(68,6)),(0,(90,2))],[sI 6,sI 7,(.cell 2 5,.own 153 C.cool),(.cell 0 1,.int .i64)]⟩)]
theorem v7r:MT 46 (j8q j06):=v7q ⟨j13,q0j,j6s,trivial⟩
def w1p(X:z7j):Con Sg:=conS [.int .i64] [.bool] fun a K=>X a.1 (fun q0=>K (q0,()))
theorem v3e:MT 141 (w1p z7k):=mS (l:=[]) trivial []
def q7j(X:U2):Con Sg:=conS [.el C.env,.str] [.int .i64] fun a K=>X a.1 a.2.1 (fun q0=>K (q0,()))
theorem z3z:MT 142 (q7j q3d):=mS (l:=[]) trivial [(5,⟨[0,1,2],[0],[],[sI 5]⟩)]
def z6h(X:q3e):Con Sg:=conS [.sl C.cool,.int .i64] [.vec 3 C.i64] fun a K=>X a.1 a.2.1 (fun q0=>K (q0,()))
theorem j8r:MT 193 (z6h q3f):=mS (l:=[]) trivial [(7,⟨bl 563,[],[],[sI 6,(.obj 0,.own 3 C.i64)]⟩),(15,⟨bl 15987,[],[],[sI 7,(.obj 0,.own 3 C.i64)]⟩),(21,⟨bl 4243603187,[],[],[sI 8,(.obj 0,.own 3 C.i64)]⟩)]
end Go.En
end
noncomputable section
open Go Go.RowKit Go.Fl Go.Fl.Lk Go.Fx
namespace Go.En
def q4w(X:Vu):Con Sg:=conS [.sl C.bool] [.vec 126 C.span] fun a K=>X a.1 (fun q0=>K (q0,()))
theorem q9e:MT 87 (q4w Bj):=mS (l:=[]) trivial [(7,⟨[0,2],[],[],[(.slot 3,.own 126 C.span),sI 4]⟩)]
def z9x(X:q8n):Con Sg:=conS [.sl C.i64,.int .i64] [.vec 126 C.span] fun a K=>X a.1 a.2.1 (fun q0=>K (q0,()))
theorem w9b{Zf:Vu}(h:AL [(87,q4w Zf)]):MT 192 (z9x (z9d Zf)):=mS h [(7,⟨bl 947,[],[],[sI 6,(.obj 0,.own 4 C.bool)]⟩)]
theorem w9c:MT 192 (z9x z27):=w9b ⟨q9e,trivial⟩
def z16(X:Rf):Con Sg:=conS [.sl C.span] [.vec 4 C.bool] fun a K=>X a.1 (fun q0=>K (q0,()))
theorem z6i:MT 19 (z16 q05):=mS (l:=[]) trivial [(7,⟨bl 77,[],[],[sI 4,(.obj 0,.own 4 C.bool)]⟩),(13,⟨bl 518109,[],[],[sI 5,(.obj 0,.own 4 C.bool)]⟩)]
def z9y(X:q8o):Con Sg:=conS [.sl C.span,.sl C.span] [.vec 126 C.span] fun a K=>X a.1 a.2.1 (fun q0=>K (q0,()))
theorem w9d{Z0:Rf}{Zf:Vu}(h:AL [(19,z16 Z0),(87,q4w Zf)]):MT 191 (z9y (z9e Z0 Zf)):=mS h [(7,⟨bl 3955,[1],[],[sI 7,(.obj 0,.own 4 C.bool)]⟩)]
theorem w9e:MT 191 (z9y z29):=w9d ⟨z6i,q9e,trivial⟩
def z9z(X:q8p):Con Sg:=conS [.el C.env,.str,.str,.int .i64] [.vec 126 C.span] fun a K=>X a.1 a.2.1 a.2.2.1 a.2.2.2.1 (fun q0=>K (q0,()))
theorem w9f{Jf:U2}{q11:q8o}{B0:q3e}{q43:q8n}(h:AL [(142,q7j Jf),(191,z9y q11),(193,z6h B0),(192,z9x q43)]):MT 143 (z9z (z9f Jf q11 B0 q43)):=mS h [(10,⟨bl 254751,[0],[],[(.slot 10,.own 126 C.span)]⟩),(13,⟨bl 254751,[0],[],[(.slot 10,.own 126 C.span),sI 11]⟩)]
theorem w9g:MT 143 (z9z z3a):=w9f ⟨z3z,w9e,j8r,w9c,trivial⟩
def z30(X:q1s):Con Sg:=conS [.sl C.span,.sl C.span] [.vec 126 C.span] fun a K=>X a.1 a.2.1 (fun q0=>K (q0,()))
theorem w9h{Z0:Rf}{Zf:Vu}(h:AL [(19,z16 Z0),(87,q4w Zf)]):MT 89 (z30 (z9g Z0 Zf)):=mS h [(7,⟨bl 3955,[1],[],[sI 7,(.obj 0,.own 4 C.bool)]⟩)]
theorem j8s:MT 89 (z30 q8q):=w9h ⟨z6i,q9e,trivial⟩
def j31(X:z1i):Con Sg:=conS [.el C.env,.str,.int .i64] [.vec 126 C.span,.int .i64] fun a K=>X a.1 a.2.1 a.2.2.1 (fun q0 q1=>K (q0,q1,()))
theorem v3f{z73:z7j}{Jf:U2}{z4c:q8p}{Rb:q1s}(h:AL [(141,w1p z73),(142,q7j Jf),(143,z9z z4c),(89,z30 Rb)]):MT 88 (j31 (j3g z73 Jf z4c Rb)):=mS h []
theorem v3g:MT 88 (j31 z7l):=v3f ⟨v3e,z3z,w9g,j8s,trivial⟩
def z32(X:q1t):Con Sg:=conS [.sl C.span,.int .i64] [.vec 126 C.span] fun a K=>X a.1 a.2.1 (fun q0=>K (q0,()))
theorem w9i{Z0:Rf}{Zf:Vu}(h:AL [(19,z16 Z0),(87,q4w Zf)]):MT 42 (z32 (z9h Z0 Zf)):=mS h [(7,⟨bl 433,[],[],[sI 1,sI 6,(.obj 0,.own 4 C.bool)]⟩)]
theorem j8t:MT 42 (z32 q8r):=w9i ⟨z6i,q9e,trivial⟩
def q0k(X:Wn):Con Sg:=conS [.str] [.bool] fun a K=>X a.1 (fun q0=>K (q0,()))
theorem v3h{Jc:Ut}(h:AL [(154,q3s Jc)]):MT 232 (q0k (j3h Jc)):=mS h [(9,⟨bl 4081,[],[],[sI 3]⟩)]
theorem q4x:MT 232 (q0k Rr):=v3h ⟨q98,trivial⟩
def w6y(X:j07):Con Sg:=conS [.str] [.bool] fun a K=>X a.1 (fun q0=>K (q0,()))
theorem v7s:MT 261 (w6y j08):=mS (l:=[]) trivial [(5,⟨[0],[],[],[sI 3]⟩)]
def j19(X:q65):Con Sg:=conS [] [.vec 9 C.str] fun _ K=>X (fun q0=>K (q0,()))
theorem w32:MT 262 (j19 q66):=mS (l:=[]) trivial []
def q0l(X:J5):Con Sg:=conS [.str] [.bool] fun a K=>X a.1 (fun q0=>K (q0,()))
theorem y1i{j2r:j07}{q7t:q65}(h:AL [(261,w6y j2r),(262,j19 q7t)]):MT 233 (q0l (w24 j2r q7t)):=mS h [(11,⟨bl 16361,[0],[],[sI 4]⟩)]
theorem q30:MT 233 (q0l Ry):=y1i ⟨v7s,w32,trivial⟩
end Go.En
end
noncomputable section
open Go Go.RowKit Go.Fl Go.Fl.Lk Go.Fx
namespace Go.En
def z33(X:q3g):Con Sg:=conS [.el C.settings] [.int .i64] fun a K=>X a.1 (fun q0=>K (q0,()))
theorem w33{Q2:Wn}{Qr:J5}(h:AL [(232,q0k Q2),(233,q0l Qr)]):MT 194 (z33 (z3b Q2 Qr)):=mS h []
theorem w34:MT 194 (z33 q67):=w33 ⟨q4x,q30,trivial⟩
def z34(X:q3h):Con Sg:=conS [.sl C.decl] [.int .i64] fun a K=>X a.1 (fun q0=>K (q0,()))
theorem w35{Qr:J5}(h:AL [(233,q0l Qr)]):MT 195 (z34 (z3c Qr)):=mS h [(9,⟨bl 113,[],[],[sI 3]⟩)]
theorem w36:MT 195 (z34 q68):=w35 ⟨q30,trivial⟩
def z0b(X:Bk):Con Sg:=conS [.sl C.str] [.int .i64] fun a K=>X a.1 (fun q0=>K (q0,()))
theorem w6z{Q2:Wn}(h:AL [(232,q0k Q2)]):MT 263 (z0b (z5l Q2)):=mS h [(9,⟨bl 113,[],[],[sI 3]⟩)]
theorem j45:MT 263 (z0b q5s):=w6z ⟨q4x,trivial⟩
def w60(X:j09):Con Sg:=conS [.el C.ex] [.bool] fun a K=>X a.1 (fun q0=>K (q0,()))
theorem v7t:MT 264 (w60 j1a):=mS (l:=[]) trivial []
def z90(X:q8s):Con Sg:=conS [.el C.ex] [.bool] fun a K=>X a.1 (fun q0=>K (q0,()))
theorem w9j{Jn:Bg}(h:AL [(82,q9b Jn)]):MT 308 (z90 (z9i Jn)):=mS h [(20,⟨bl 16327,[0],[],[sB 3,sB 4]⟩)]
theorem w9k:MT 308 (z90 z3d):=w9j ⟨z3x,trivial⟩
def w1q(X:z7m):Con Sg:=conS [.el C.val] [.bool] fun a K=>X a.1 (fun q0=>K (q0,()))
theorem v3i:MT 295 (w1q z7n):=mS (l:=[]) trivial []
def z4n(X:q1f):Con Sg:=conS [.str] [.int .i64,.int .i64] fun a K=>X a.1 (fun q0 q1=>K (q0,q1,()))
theorem j5w:MT 309 (z4n q1g):=mS (l:=[]) trivial [(8,⟨bl 269,[],[],[(.slot 4,.str)]⟩),(11,⟨[0,4,8],[],[],[sI 5]⟩),(31,⟨bl 562915601547569,[],[],[sI 6,sI 7]⟩)]
def j32(X:z1j):Con Sg:=conS [.str] [.el C.a3,.bool] fun a K=>X a.1 (fun q0 q1=>K (q0,q1,()))
theorem v3j{Rl:q1f}(h:AL [(309,z4n Rl)]):MT 296 (j32 (j3i Rl)):=mS h [(9,⟨[0,2,4],[],[(1,(248,3)),(0,(248,3))],[sI 5,sI 6,(.cell 1 0,.int .i64),(.cell 1 1,.int .i64),(.cell 1 2,.int .i64),(.cell 0 0,.int .i64),(.cell 0 1,.int .i64),(.cell 0 2,.int .i64)]⟩),(15,⟨bl 19669,[1,0],[],[sI 5]⟩)]
theorem v3k:MT 296 (j32 z7o):=v3j ⟨j5w,trivial⟩
def j8u(X:z5m):Con Sg:=conS [.sl C.str] [.int .i64] fun a K=>X a.1 (fun q0=>K (q0,()))
theorem v7u{Q2:Wn}(h:AL [(232,q0k Q2)]):MT 297 (j8u (j71 Q2)):=mS h [(9,⟨bl 225,[],[],[sI 3]⟩),(19,⟨bl 4073,[],[],[sI 4]⟩)]
theorem v7v:MT 297 (j8u j1b):=v7u ⟨q4x,trivial⟩
def z7z(X:q4n):Con Sg:=conS [.el C.val] [.int .i64] fun a K=>X a.1 (fun q0=>K (q0,()))
theorem v3l{z74:z7m}{Q2:Wn}{z77:z1j}{j2s:z5m}(h:AL [(295,w1q z74),(232,q0k Q2),(296,j32 z77),(297,j8u j2s)]):MT 286 (z7z (j3j z74 Q2 z77 j2s)):=mS h []
theorem w1r:MT 286 (z7z z1k):=v3l ⟨v3i,q4x,v3k,v7v,trivial⟩
def j8v(X:j1c):Con Sg:=conS [.el C.ex] [.int .i64] fun a K=>X a.1 (fun q0=>K (q0,()))
theorem v7w{z4d:q8s}{Jn:Bg}{Qr:J5}{Vq:q4n}(h:AL [(308,z90 z4d),(82,q9b Jn),(233,q0l Qr),(286,z7z Vq)]):MT 294 (j8v (j72 z4d Jn Qr Vq)):=mS h [(17,⟨bl 134217667,[0],[],[sI 3]⟩),(31,⟨bl 9412450882139616968651,[0],[],[sI 4]⟩)]
theorem v7x:MT 294 (j8v z1l):=v7w ⟨w9k,z3x,q30,w1r,trivial⟩
def w61(X:q8t):Con Sg:=conV [.el C.ex,.v,.ptr 3 [.v]] [.el C.ex,.int .i64,.ptr 3 [.int .i64]] [.int .i64] [.same,.same,.ptr 3 [.int .i64]] fun a K=>X a.1 a.2.1 a.2.2.1.1 (fun q0 q1=>K (q0,()) ((),(),(q1,()),()))
theorem v7y:MT 285 (w61 j1d):=by show MT _ (conV ([.el C.ex,.v,.ptr 3 [.v]]:LP) ([.el C.ex,.int .i64,.ptr 3 [.int .i64]]:LV) ([.int .i64]:LV) ([.same,.same,.ptr 3 [.int .i64]]:LV) fun a K=>j1d a.1 a.2.1 a.2.2.1.1 (fun q0 q1=>K (q0,()) ((),(),(q1,()),())));exact mQ (l:=[(294,j8v z1l)]) (u:=4) (rk:=[.v]) ⟨v7x,trivial⟩ (by kernel_rfl) [(21,⟨bl 33553551,[1],[(0,(3,1))],[sI 8,(.cell 0 0,.int .i64)]⟩)] (fun X a K=>j73 z1l (fun e depth n K=>X (e,depth,(n,()),()) fun r o=>K r.1 o.2.2.1.1) a.1 a.2.1 a.2.2.1.1 (fun q0 q1=>K (q0,()) ((),(),(q1,()),()))) (fun _ _ _=>by kernel_rfl) fun _ K h X hX=>h (fun e depth n K=>X (e,depth,(n,()),()) fun r o=>K r.1 o.2.2.1.1) fun e depth n K hs=>hX (e,depth,(n,()),()) (fun r o=>K r.1 o.2.2.1.1) hs
end Go.En
end
noncomputable section
open Go Go.RowKit Go.Fl Go.Fl.Lk Go.Fx
namespace Go.En
def z6j(X:q3i):Con Sg:=conS [.el C.ex] [.int .i64] fun a K=>X a.1 (fun q0=>K (q0,()))
theorem v7z{j2t:q8t}(h:AL [(285,w61 j2t)]):MT 265 (z6j (j74 j2t)):=mS h []
theorem j8w:MT 265 (z6j z1m):=v7z ⟨v7y,trivial⟩
def z6k(X:q5t):Con Sg:=conS [.el C.seg] [.int .i64] fun a K=>X a.1 (fun q0=>K (q0,()))
theorem w62{Qr:J5}{Ub:Bk}{j2u:j09}{U9:q3i}(h:AL [(233,q0l Qr),(263,z0b Ub),(264,w60 j2u),(265,z6j U9)]):MT 234 (z6k (z5n Qr Ub j2u U9)):=mS h []
theorem w63:MT 234 (z6k q90):=w62 ⟨q30,j45,v7t,j8w,trivial⟩
def z35(X:q3j):Con Sg:=conS [.sl C.seg] [.int .i64] fun a K=>X a.1 (fun q0=>K (q0,()))
theorem w37{z0k:q5t}(h:AL [(234,z6k z0k)]):MT 196 (z35 (z3e z0k)):=mS h [(9,⟨bl 225,[],[],[sI 3]⟩)]
theorem w38:MT 196 (z35 q69):=w37 ⟨w63,trivial⟩
def q9f(X:Bl):Con Sg:=conS [.el C.flag] [.int .i64] fun a K=>X a.1 (fun q0=>K (q0,()))
theorem j8x{Vq:q4n}(h:AL [(286,z7z Vq)]):MT 266 (q9f (q8u Vq)):=mS h [(15,⟨bl 8139,[0],[],[sI 4]⟩)]
theorem j8y:MT 266 (q9f q3k):=j8x ⟨w1r,trivial⟩
def q31(X:U3):Con Sg:=conS [.sl C.prereq] [.int .i64] fun a K=>X a.1 (fun q0=>K (q0,()))
theorem j2a{Qr:J5}(h:AL [(233,q0l Qr)]):MT 267 (q31 (q3l Qr)):=mS h [(9,⟨bl 113,[],[],[sI 3]⟩)]
theorem j2b:MT 267 (q31 Rz):=j2a ⟨q30,trivial⟩
def z6l(X:q5u):Con Sg:=conS [.sl C.target,.int .i64] [.int .i64] fun a K=>X a.1 a.2.1 (fun q0=>K (q0,()))
theorem w64{Qr:J5}{Ub:Bk}(h:AL [(233,q0l Qr),(263,z0b Ub)]):MT 268 (z6l (z5o Qr Ub)):=mS h [(9,⟨bl 899,[],[],[sI 5]⟩)]
theorem w65:MT 268 (z6l q91):=w64 ⟨q30,j45,trivial⟩
def j33(X:q71):Con Sg:=conS [.sl C.range,.int .i64] [.int .i64] fun a K=>X a.1 a.2.1 (fun q0=>K (q0,()))
theorem w1s:MT 272 (j33 z1n):=mS (l:=[]) trivial [(11,⟨bl 899,[],[],[sI 5,sI 6]⟩)]
def z70(X:q4o):Con Sg:=conS [.el C.serve,.int .i64] [.int .i64] fun a K=>X a.1 a.2.1 (fun q0=>K (q0,()))
theorem v3m{Qr:J5}{Q2:Wn}{q0s:q71}(h:AL [(233,q0l Qr),(232,q0k Q2),(272,j33 q0s)]):MT 270 (z70 (j3k Qr Q2 q0s)):=mS h []
theorem w1t:MT 270 (z70 z1o):=v3m ⟨q30,q4x,w1s,trivial⟩
def j34(X:z1p):Con Sg:=conS [.sl C.rule,.int .i64] [.int .i64] fun a K=>X a.1 a.2.1 (fun q0=>K (q0,()))
theorem v3n{Qr:J5}{U9:q3i}{q0t:q4o}(h:AL [(233,q0l Qr),(265,z6j U9),(270,z70 q0t)]):MT 269 (j34 (j3l Qr U9 q0t)):=mS h [(9,⟨bl 3587,[],[],[sI 5]⟩),(19,⟨bl 33357347,[],[],[sI 6]⟩)]
theorem v3o:MT 269 (j34 z7p):=v3n ⟨q30,j8w,w1t,trivial⟩
def j8z(X:z5p):Con Sg:=conS [.el C.flag] [.int .i64] fun a K=>X a.1 (fun q0=>K (q0,()))
theorem v70{Qr:J5}{q4b:Bl}{R4:U3}{z0l:q5u}{z78:z1p}{q0t:q4o}(h:AL [(233,q0l Qr),(266,q9f q4b),(267,q31 R4),(268,z6l z0l),(269,j34 z78),(270,z70 q0t)]):MT 235 (j8z (j75 Qr q4b R4 z0l z78 q0t)):=mS h []
theorem v71:MT 235 (j8z j1e):=v70 ⟨q30,j8y,j2b,w65,v3o,w1t,trivial⟩
def j35(X:z1q):Con Sg:=conS [.sl C.flag] [.int .i64] fun a K=>X a.1 (fun q0=>K (q0,()))
theorem v3p{j2v:z5p}(h:AL [(235,j8z j2v)]):MT 197 (j35 (j3m j2v)):=mS h [(9,⟨bl 225,[],[],[sI 3]⟩)]
theorem v3q:MT 197 (j35 z7q):=v3p ⟨v71,trivial⟩
def j36(X:z1r):Con Sg:=conS [.el C.layer] [.int .i64] fun a K=>X a.1 (fun q0=>K (q0,()))
theorem v3r{Qr:J5}{Q2:Wn}(h:AL [(233,q0l Qr),(232,q0k Q2)]):MT 236 (j36 (j3n Qr Q2)):=mS h [(21,⟨bl 2199023255523,[0],[],[sI 3]⟩)]
theorem v3s:MT 236 (j36 z7r):=v3r ⟨q30,q4x,trivial⟩
end Go.En
end
noncomputable section
open Go Go.RowKit Go.Fl Go.Fl.Lk Go.Fx
namespace Go.En
def z91(X:q8v):Con Sg:=conS [.sl C.layer] [.int .i64] fun a K=>X a.1 (fun q0=>K (q0,()))
theorem w9l{z79:z1r}(h:AL [(236,j36 z79)]):MT 198 (z91 (z9j z79)):=mS h [(9,⟨bl 225,[],[],[sI 3]⟩)]
theorem w9m:MT 198 (z91 z3f):=w9l ⟨v3s,trivial⟩
def w1u(X:z7s):Con Sg:=conS [.sl C.span] [.int .i64] fun a K=>X a.1 (fun q0=>K (q0,()))
theorem v3t:MT 271 (w1u z7t):=mS (l:=[]) trivial [(9,⟨bl 113,[],[],[sI 3]⟩)]
def q9g(X:Bn):Con Sg:=conS [.el C.exper] [.int .i64] fun a K=>X a.1 (fun q0=>K (q0,()))
theorem j80{Qr:J5}{Q2:Wn}{z8a:z7s}{q0s:q71}{U9:q3i}(h:AL [(233,q0l Qr),(232,q0k Q2),(271,w1u z8a),(272,j33 q0s),(265,z6j U9)]):MT 237 (q9g (q8w Qr Q2 z8a q0s U9)):=mS h []
theorem j81:MT 237 (q9g q3m):=j80 ⟨q30,q4x,v3t,w1s,j8w,trivial⟩
def q6j(X:Rg):Con Sg:=conS [.sl C.exper] [.int .i64] fun a K=>X a.1 (fun q0=>K (q0,()))
theorem j5x{q4c:Bn}(h:AL [(237,q9g q4c)]):MT 199 (q6j (q6e q4c)):=mS h [(9,⟨bl 225,[],[],[sI 3]⟩)]
theorem j5y:MT 199 (q6j q1h):=j5x ⟨j81,trivial⟩
def q6k(X:Rh):Con Sg:=conS [.el C.env] [.int .i64] fun a K=>X a.1 (fun q0=>K (q0,()))
theorem j5z{q7u:q3g}{q7v:q3h}{q7w:q3j}{z8b:z1q}{z4e:q8v}{q1n:Rg}(h:AL [(194,z33 q7u),(195,z34 q7v),(196,z35 q7w),(197,j35 z8b),(198,z91 z4e),(199,q6j q1n)]):MT 144 (q6k (q6f q7u q7v q7w z8b z4e q1n)):=mS h []
theorem j50:MT 144 (q6k q1i):=j5z ⟨w34,w36,w38,v3q,w9m,j5y,trivial⟩
def z71(X:q2d):Con Sg:=conS [.sl C.seg] [.vec 9 C.str] fun a K=>X a.1 (fun q0=>K (q0,()))
theorem j37:MT 145 (z71 z1s):=mS (l:=[]) trivial [(7,⟨[0,2],[],[],[(.slot 3,.own 9 C.str),sI 4]⟩)]
def j6u(X:z3g):Con Sg:=conS [.sl C.str,.str] [.bool] fun a K=>X a.1 a.2.1 (fun q0=>K (q0,()))
theorem w39:MT 200 (j6u q92):=mS (l:=[]) trivial [(5,⟨[0,1],[],[],[sI 5]⟩)]
def j82(X:z5q):Con Sg:=conS [.sl C.decl,.str,.str] [.int .i64] fun a K=>X a.1 a.2.1 a.2.2.1 (fun q0=>K (q0,()))
theorem w66:MT 201 (j82 q5v):=mS (l:=[]) trivial [(5,⟨[0,1,2],[],[],[sI 7]⟩)]
def w67(X:j76):Con Sg:=conS [.int .i64,.el C.ex] [.bool] fun a K=>X a.1 a.2.1 (fun q0=>K (q0,()))
theorem v72:MT 202 (w67 q8x):=mS (l:=[]) trivial [(11,⟨bl 8075,[0],[],[sI 5]⟩),(36,⟨bl 8795019288539,[0],[],[sB 46]⟩)]
def j2c(X:Bo):Con Sg:=conV [.sl C.decl,.sl C.str,.el C.ex] [.sl C.decl,.sl C.str,.el C.ex] [.int .i64] [.same,.same,.same] fun a K=>X a.1 a.2.1 a.2.2.1 (fun q0=>K (q0,()) ((),(),(),()))
theorem j83:MT 146 (j2c z1t):=by show MT _ (conV ([.sl C.decl,.sl C.str,.el C.ex]:LP) ([.sl C.decl,.sl C.str,.el C.ex]:LV) ([.int .i64]:LV) ([.same,.same,.same]:LV) fun a K=>z1t a.1 a.2.1 a.2.2.1 (fun q0=>K (q0,()) ((),(),(),())));exact mQ (l:=[(200,j6u q92),(82,q9b Vs),(201,j82 q5v),(202,w67 q8x)]) (u:=4) (rk:=[.v]) ⟨w39,z3x,w66,v72,trivial⟩ (by kernel_rfl) [(18,⟨bl 1047591,[0],[],[]⟩),(21,⟨bl 1047591,[0],[],[sI 8]⟩)] (fun X a K=>j77 q92 Vs q5v q8x (fun l segments e K=>X (l,segments,e,()) fun r _=>K r.1) a.1 a.2.1 a.2.2.1 (fun q0=>K (q0,()) ((),(),(),()))) (fun _ _ _=>by kernel_rfl) fun a K h X hX=>h (fun l segments e K=>X (l,segments,e,()) fun r _=>K r.1) fun l segments e K hs=>hX (l,segments,e,()) (fun r _=>K r.1) hs
def j6v(X:z3h):Con Sg:=conS [.sl C.str,.str] [.sl C.str] fun a K=>X a.1 a.2.1 (fun q0=>K (q0,()))
theorem w4a:MT 239 (j6v q93):=mS (l:=[]) trivial [(5,⟨[0,1,4],[],[],[sI 5]⟩)]
def j46(X:Bp):Con Sg:=conV [.sl C.str,.el C.ex] [.sl C.str,.el C.ex] [.sl C.str] [.same,.same] fun a K=>X a.1 a.2.1 (fun q0=>K (q0,()) ((),(),()))
theorem w68:MT 240 (j46 q94):=by show MT _ (conV ([.sl C.str,.el C.ex]:LP) ([.sl C.str,.el C.ex]:LV) ([.sl C.str]:LV) ([.same,.same]:LV) fun a K=>q94 a.1 a.2.1 (fun q0=>K (q0,()) ((),(),())));exact mQ (l:=[(239,j6v q93)]) (u:=4) (rk:=[.sl C.str]) ⟨w4a,trivial⟩ (by kernel_rfl) [(6,⟨[1,3,4],[0],[],[(.slot 0,.sl C.str)]⟩),(9,⟨[1,3,4],[0],[],[(.slot 0,.sl C.str),sI 5]⟩)] (fun X a K=>z5r q93 (fun l e K=>X (l,e,()) fun r _=>K r.1) a.1 a.2.1 (fun q0=>K (q0,()) ((),(),()))) (fun _ _ _=>by kernel_rfl) fun _ K h X hX=>h (fun l e K=>X (l,e,()) fun r _=>K r.1) fun l e K hs=>hX (l,e,()) (fun r _=>K r.1) hs
end Go.En
end
noncomputable section
open Go Go.RowKit Go.Fl Go.Fl.Lk Go.Fx
namespace Go.En
def z6m(X:q5w):Con Sg:=conS [.el C.ex] [.sl C.str] fun a K=>X a.1 (fun q0=>K (q0,()))
theorem w69{z0m:Bp}(h:AL [(240,j46 z0m)]):MT 204 (z6m (z5s z0m)):=mS h []
theorem w7a:MT 204 (z6m q95):=w69 ⟨w68,trivial⟩
def z92(X:q8y):Con Sg:=conS [.sl C.seg] [.vec 118 C.edge] fun a K=>X a.1 (fun q0=>K (q0,()))
theorem w9n{z0n:q5w}(h:AL [(204,z6m z0n)]):MT 148 (z92 (z9k z0n)):=mS h [(7,⟨[0,2],[],[],[(.slot 3,.own 118 C.edge),sI 4]⟩),(15,⟨bl 518069,[],[],[(.slot 3,.own 118 C.edge),sI 6]⟩)]
theorem w9o:MT 148 (z92 z3i):=w9n ⟨w7a,trivial⟩
def j38(X:z1u):Con Sg:=conS [.sl C.edge,.str] [.sl C.str] fun a K=>X a.1 a.2.1 (fun q0=>K (q0,()))
theorem v3u{q4d:z3g}{q4e:z3h}(h:AL [(200,j6u q4d),(239,j6v q4e)]):MT 238 (j38 (j3o q4d q4e)):=mS h [(7,⟨bl 1555,[],[],[(.slot 5,.sl C.str),(.slot 6,.sl C.str)]⟩),(15,⟨bl 522899,[],[],[(.slot 5,.sl C.str),(.slot 6,.sl C.str),sI 8]⟩)]
theorem v3v:MT 238 (j38 z7u):=v3u ⟨w39,w4a,trivial⟩
def z93(X:q8z):Con Sg:=conS [.sl C.str,.sl C.edge] [.sl C.str] fun a K=>X a.1 a.2.1 (fun q0=>K (q0,()))
theorem w9p{z8c:z1u}{q4d:z3g}{q4e:z3h}(h:AL [(238,j38 z8c),(200,j6u q4d),(239,j6v q4e)]):MT 203 (z93 (z9l z8c q4d q4e)):=mS h [(7,⟨[0,1,4],[],[],[(.slot 5,.sl C.str),sI 6]⟩)]
theorem w9q:MT 203 (z93 z3j):=w9p ⟨v3v,w39,w4a,trivial⟩
def z94(X:q80):Con Sg:=conS [.sl C.str,.sl C.edge] [.str,.bool] fun a K=>X a.1 a.2.1 (fun q0 q1=>K (q0,q1,()))
theorem w9r{z4f:q8z}(h:AL [(203,z93 z4f)]):MT 147 (z94 (z9m z4f)):=mS h []
theorem w9s:MT 147 (z94 z3k):=w9r ⟨w9q,trivial⟩
def z6n(X:q2e):Con Sg:=conS [.el C.env,.str] [.int .i64] fun a K=>X a.1 a.2.1 (fun q0=>K (q0,()))
theorem j47:MT 205 (z6n q96):=mS (l:=[]) trivial [(5,⟨[0,1,2],[0],[],[sI 5]⟩)]
def j39(X:z1v):Con Sg:=conS [.sl C.decl,.el C.serve] [.int .i64] fun a K=>X a.1 a.2.1 (fun q0=>K (q0,()))
theorem v3w{q9l:z5q}(h:AL [(201,j82 q9l)]):MT 206 (j39 (j3p q9l)):=mS h []
theorem v3x:MT 206 (j39 z7v):=v3w ⟨w66,trivial⟩
def q9h(X:Bq):Con Sg:=conS [.el C.env,.el C.flag] [.int .i64] fun a K=>X a.1 a.2.1 (fun q0=>K (q0,()))
theorem j84{Vr:q2d}{Ga:q2e}{Gb:Bo}{z19:z1v}{Q5:Jt}(h:AL [(145,z71 Vr),(205,z6n Ga),(146,j2c Gb),(206,j39 z19),(10,G7 Q5)]):MT 149 (q9h (q81 Vr Ga Gb z19 Q5)):=mS h [(7,⟨bl 229423,[1,0],[],[sI 6,(.obj 2,.own 9 C.str)]⟩),(23,⟨bl 8355951,[1,0],[],[sI 8,(.obj 2,.own 9 C.str)]⟩)]
theorem j85:MT 149 (q9h q3n):=j84 ⟨j37,j47,j83,v3x,q4v,trivial⟩
def z8w(X:q5b):Con Sg:=conS [.el C.env] [.vec 9 C.str] fun a K=>X a.1 (fun q0=>K (q0,()))
theorem w0j:MT 150 (z8w z0w):=mS (l:=[]) trivial [(7,⟨[0,1,2],[0],[],[(.slot 3,.own 9 C.str),sI 4]⟩)]
def z6o(X:q3o):Con Sg:=conS [.el C.env] [.vec 118 C.edge] fun a K=>X a.1 (fun q0=>K (q0,()))
theorem j86:MT 151 (z6o q3p):=mS (l:=[]) trivial [(7,⟨[0,1,2],[0],[],[(.slot 3,.own 118 C.edge),sI 4]⟩),(13,⟨bl 2007,[],[],[(.slot 3,.own 118 C.edge),sI 5]⟩)]
def z6p(X:q5x):Con Sg:=conS [.sl C.span,.sl C.span] [.vec 126 C.span] fun a K=>X a.1 a.2.1 (fun q0=>K (q0,()))
theorem w7b{Z0:Rf}{Zf:Vu}(h:AL [(19,z16 Z0),(87,q4w Zf)]):MT 207 (z6p (z5t Z0 Zf)):=mS h [(7,⟨bl 3955,[1],[],[sI 7,(.obj 0,.own 4 C.bool)]⟩)]
theorem w7c:MT 207 (z6p q97):=w7b ⟨z6i,q9e,trivial⟩
def Bx(X:Vj):Con Sg:=conS [.el C.env,.int .i64] [.int .i64] fun a K=>X a.1 a.2.1 (fun q0=>K (q0,()))
theorem z6q{Jf:U2}{Ga:q2e}{Vr:q2d}{Gb:Bo}{z0o:q5x}(h:AL [(142,q7j Jf),(205,z6n Ga),(145,z71 Vr),(146,j2c Gb),(207,z6p z0o)]):MT 152 (Bx (Br Jf Ga Vr Gb z0o)):=mS h [(13,⟨bl 17179836647,[1,0],[],[sI 8]⟩),(35,⟨bl 151078797935433964553191,[1,0],[],[(.slot 10,.own 126 C.span),sI 11,(.obj 4,.own 9 C.str)]⟩),(51,⟨bl 159723976762087930960904772882407,[1,0],[],[sI 13,(.obj 9,.own 126 C.span),(.obj 6,.own 126 C.span),(.obj 4,.own 9 C.str)]⟩)]
theorem z6r:MT 152 (Bx U4):=z6q ⟨z3z,j47,j37,j83,w7c,trivial⟩
end Go.En
end
noncomputable section
open Go Go.RowKit Go.Fl Go.Fl.Lk Go.Fx
namespace Go.En
def q4y(X:G0):Con Sg:=conS [.el C.env] [.str,.int .i64] fun a K=>X a.1 (fun q0 q1=>K (q0,q1,()))
theorem j4a{q1o:Rh}{Vr:q2d}{Gb:Bo}{z4g:q8y}{q9m:q80}{q4f:Bq}{q5g:q5b}{q4g:q3o}{Gc:Vj}(h:AL [(144,q6k q1o),(145,z71 Vr),(146,j2c Gb),(148,z92 z4g),(147,z94 q9m),(149,q9h q4f),(150,z8w q5g),(151,z6o q4g),(152,Bx Gc)]):MT 90 (q4y (q4p q1o Vr Gb z4g q9m q4f q5g q4g Gc)):=mS h [(13,⟨bl 15663155,[0],[],[sI 6,(.obj 1,.own 9 C.str)]⟩),(33,⟨bl 294571444427585160051,[0],[],[sI 10,(.obj 1,.own 9 C.str),(.obj 4,.own 118 C.edge)]⟩),(51,⟨bl 10121397798090180814242575234931,[0],[],[sI 14,(.obj 8,.own 9 C.str),(.obj 9,.own 118 C.edge),(.obj 4,.own 118 C.edge),(.obj 1,.own 9 C.str)]⟩)]
theorem j4b:MT 90 (q4y q0h):=j4a ⟨j50,j37,j83,w9o,w9s,j85,w0j,j86,z6r,trivial⟩
def z95(X:q82):Con Sg:=conS [.el C.env] [.bool] fun a K=>X a.1 (fun q0=>K (q0,()))
theorem w9t{q0u:G0}(h:AL [(90,q4y q0u)]):MT 48 (z95 (z9n q0u)):=mS h []
theorem w9u:MT 48 (z95 q4q):=w9t ⟨j4b,trivial⟩
def q9i(X:Bt):Con Sg:=conV [.ptr 90 [.c,.v],.v] [.ptr 90 [.sl C.u8,.int .i64],.int .i64] [.el C.env] [.ptr 90 [.same,.int .i64],.same] fun a K=>X a.1.1 a.1.2.1 a.2.1 (fun q0 q1=>K (q0,()) (((),q1,()),(),()))
theorem j87{Z4:Hc}{z0p:q5r}{Qd:Ji}{q37:z7f}{Jw:q26}{U8:q64}{Gd:q8i}{Jo:Gu}{Gq:q27}{Q5:Jt}{j2w:z5k}{J8:q0d}{q38:q8g}{z8d:z1i}{J9:q25}{Rb:q1s}{Rd:q1t}{q12:q82}(h:AL [(43,z0a Z4),(44,z6d z0p),(28,H3 Qd),(45,w3w q37),(85,z6c Jw),(39,j14 U8),(40,j16 Gd),(86,q9a Jo),(20,j6t Gq),(10,G7 Q5),(46,j8q j2w),(37,z3w J8),(84,j15 q38),(88,j31 z8d),(38,z7y J9),(89,z30 Rb),(42,z32 Rd),(48,z95 q12)]):MT 16 (q9i (q83 Z4 z0p Qd q37 Jw U8 Gd Jo Gq Q5 j2w J8 q38 z8d J9 Rb Rd q12)):=mP (rk:=[.el C.env]) h [(8,⟨bl 3123,[1],[(3,(56,8)),(0,(90,2))],[(.cell 3 0,.str),(.cell 3 1,.str),(.cell 3 2,.int .i64),(.cell 0 1,.int .i64),(.obj 2,.own 142 C.decl)]⟩),(15,⟨bl 98569331,[2,1],[(0,(90,2)),(3,(56,8))],[sI 7,(.cell 0 1,.int .i64),(.cell 3 5,.own 99 C.flag),(.obj 10,.own 95 C.seg),(.obj 12,.own 68 C.layer),(.obj 13,.own 65 C.exper)]⟩),(42000009,⟨bl 1073218007,[22,21],[(0,(90,2)),(23,(99,13))],[sI 9,(.cell 0 1,.int .i64),(.cell 23 2,.own 144 C.val),(.obj 13,.own 65 C.exper),(.obj 12,.own 68 C.layer),(.obj 17,.own 99 C.flag),(.obj 10,.own 95 C.seg)]⟩),(42000019,⟨bl 545366356788183,[22,21],[(23,(99,13)),(0,(90,2))],[sI 10,(.cell 23 5,.own 147 C.prereq),(.cell 0 1,.int .i64),(.obj 10,.own 95 C.seg),(.obj 17,.own 99 C.flag),(.obj 12,.own 68 C.layer),(.obj 13,.own 65 C.exper),(.obj 27,.own 144 C.val)]⟩),(42000029,⟨bl 17996814912849879,[22,21],[(23,(99,13)),(0,(90,2))],[sI 11,(.cell 23 6,.own 149 C.target),(.cell 0 1,.int .i64),(.obj 27,.own 144 C.val),(.obj 13,.own 65 C.exper),(.obj 12,.own 68 C.layer),(.obj 17,.own 99 C.flag),(.obj 10,.own 95 C.seg),(.obj 34,.own 147 C.prereq)]⟩),(42000038,⟨bl 19688565898261847554177638359,[23],[(51,(149,3)),(0,(90,2))],[(.cell 51 0,.str),(.cell 0 1,.int .i64),(.obj 50,.own 9 C.str),(.obj 34,.own 147 C.prereq),(.obj 10,.own 95 C.seg),(.obj 17,.own 99 C.flag),(.obj 12,.own 68 C.layer),(.obj 13,.own 65 C.exper),(.obj 27,.own 144 C.val),(.obj 42,.own 149 C.target)]⟩),(42000060,⟨bl 324518589926201333218846174621655,[22,21],[(0,(90,2)),(23,(99,13))],[(.cell 0 1,.int .i64),(.cell 23 7,.own 45 C.rule),(.obj 50,.own 9 C.str),(.obj 34,.own 147 C.prereq),(.obj 10,.own 95 C.seg),(.obj 17,.own 99 C.flag),(.obj 12,.own 68 C.layer),(.obj 13,.own 65 C.exper),(.obj 27,.own 144 C.val),(.obj 42,.own 149 C.target)]⟩),(42000047,⟨bl 324518589926201333218846174621655,[],[(0,(90,2)),(23,(99,13))],[sI 14,(.cell 0 1,.int .i64),(.cell 23 7,.own 45 C.rule),(.obj 50,.own 9 C.str),(.obj 34,.own 147 C.prereq),(.obj 10,.own 95 C.seg),(.obj 17,.own 99 C.flag),(.obj 12,.own 68 C.layer),(.obj 13,.own 65 C.exper),(.obj 27,.own 144 C.val),(.obj 42,.own 149 C.target)]⟩),(25,⟨bl 387030204812531,[2,1],[(0,(90,2)),(3,(56,8))],[sI 8,(.cell 0 1,.int .i64),(.cell 3 6,.own 68 C.layer),(.obj 13,.own 65 C.exper),(.obj 10,.own 95 C.seg),(.obj 17,.own 99 C.flag)]⟩),(35,⟨bl 811665570522726403571,[2,1],[(0,(90,2)),(3,(56,8))],[sI 9,(.cell 0 1,.int .i64),(.cell 3 7,.own 65 C.exper),(.obj 17,.own 99 C.flag),(.obj 10,.own 95 C.seg),(.obj 24,.own 68 C.layer)]⟩),(48000010,⟨bl 140737488348975,[37,36,35],[(40,(65,12)),(0,(90,2))],[(.cell 40 4,.int .i64),(.cell 0 1,.int .i64),(.obj 39,.own 190 C.range),(.obj 31,.own 65 C.exper),(.obj 24,.own 68 C.layer),(.obj 17,.own 99 C.flag),(.obj 10,.own 95 C.seg)]⟩),(48000014,⟨bl 140737488348975,[37,36,35],[(40,(65,12)),(0,(90,2))],[(.cell 40 7,.int .i64),(.cell 40 8,.str),(.cell 40 9,.str),(.cell 40 10,.sl C.val),(.cell 40 11,.sl C.ex),(.cell 0 1,.int .i64),(.obj 10,.own 95 C.seg),(.obj 17,.own 99 C.flag),(.obj 24,.own 68 C.layer),(.obj 31,.own 65 C.exper),(.obj 39,.own 190 C.range)]⟩)]
theorem j88:MT 16 (q9i Bu):=j87 ⟨z6b,w6t,q0j,v1z,j8i,w3x,w6v,z6e,w3z,q4v,v7r,j13,w6u,v3g,j6s,j8s,j8t,w9u,trivial⟩
def j4c(X:z1w):Con Sg:=conV [.ptr 90 [.c,.v],.el C.env,.v] [.ptr 90 [.sl C.u8,.int .i64],.el C.env,.int .i64] [.el C.env] [.ptr 90 [.same,.int .i64],.same,.same] fun a K=>X a.1.1 a.1.2.1 a.2.1 a.2.2.1 (fun q0 q1=>K (q0,()) (((),q1,()),(),(),()))
theorem v3y{Qd:Ji}{J8:q0d}{J9:q25}{U8:q64}{Gd:q8i}{Jw:q26}{Jo:Gu}{Gq:q27}{Q5:Jt}{Rd:q1t}(h:AL [(28,H3 Qd),(37,z3w J8),(38,z7y J9),(39,j14 U8),(40,j16 Gd),(85,z6c Jw),(86,q9a Jo),(20,j6t Gq),(10,G7 Q5),(42,z32 Rd)]):MT 15 (j4c (j3q Qd J8 J9 U8 Gd Jw Jo Gq Q5 Rd)):=mP (rk:=[.el C.env]) h [(900107,⟨[],[],[],[]⟩),(900112,⟨[],[],[],[]⟩),(900226,⟨[],[],[],[]⟩),(900231,⟨[],[],[],[]⟩),(7,⟨bl 393431,[4,3,2,1],[(16,(56,8)),(0,(90,2))],[sI 8,(.cell 16 0,.str),(.cell 16 1,.str),(.cell 16 2,.int .i64),(.cell 16 3,.own 142 C.decl),(.cell 16 5,.own 99 C.flag),(.cell 16 7,.own 65 C.exper),(.cell 0 1,.int .i64),(.obj 11,.own 68 C.layer),(.obj 7,.own 95 C.seg)]⟩),(42000009,⟨bl 1073218007,[29,28],[(0,(90,2)),(30,(99,13))],[sI 9,(.cell 0 1,.int .i64),(.cell 30 2,.own 144 C.val),(.obj 7,.own 95 C.seg)]⟩),(42000019,⟨bl 545366356788183,[30,29,28],[(0,(90,2))],[sI 10,(.cell 0 1,.int .i64),(.obj 7,.own 95 C.seg),(.obj 34,.own 144 C.val)]⟩),(42000029,⟨bl 17996814912849879,[29,28],[(0,(90,2)),(30,(99,13))],[sI 11,(.cell 0 1,.int .i64),(.cell 30 6,.own 149 C.target),(.obj 34,.own 144 C.val),(.obj 7,.own 95 C.seg)]⟩),(42000038,⟨bl 19688565898261847554177638359,[30],[(47,(149,3)),(0,(90,2))],[(.cell 47 0,.str),(.cell 0 1,.int .i64),(.obj 46,.own 9 C.str),(.obj 7,.own 95 C.seg),(.obj 34,.own 144 C.val),(.obj 43,.own 149 C.target)]⟩),(42000060,⟨bl 324518589926201333218846174621655,[29,28],[(0,(90,2)),(30,(99,13))],[(.cell 0 1,.int .i64),(.cell 30 7,.own 45 C.rule),(.obj 46,.own 9 C.str),(.obj 7,.own 95 C.seg),(.obj 34,.own 144 C.val),(.obj 43,.own 149 C.target)]⟩),(42000047,⟨bl 324518589926201333218846174621655,[],[(0,(90,2)),(30,(99,13))],[sI 14,(.cell 0 1,.int .i64),(.cell 30 7,.own 45 C.rule),(.obj 46,.own 9 C.str),(.obj 7,.own 95 C.seg),(.obj 34,.own 144 C.val),(.obj 43,.own 149 C.target)]⟩)]
theorem v3z:MT 15 (j4c z7w):=v3y ⟨q0j,j13,j6s,w3x,w6v,j8i,z6e,w3z,q4v,j8t,trivial⟩
def v73(X:w25):Con Sg:=conS [.int .i64,.int .i64] [.int .i64] fun a K=>X a.1 a.2.1 (fun q0=>K (q0,()))
theorem y5x:MT 18 (v73 w26):=mS (l:=[]) trivial []
def H4(X:q1u):Con Sg:=conS [.sl C.u8,.int .i64] [.bool] fun a K=>X a.1 a.2.1 (fun q0=>K (q0,()))
theorem z96{q7x:q24}{w43:w2t}{q4h:Bt}{z8e:z1w}{Z9:Wg}{w44:w25}{Z0:Rf}(h:AL [(7,z3v q7x),(14,v7k w43),(16,q9i q4h),(15,j4c z8e),(17,H2 Z9),(18,v73 w44),(19,z16 Z0)]):MT 5 (H4 (q1v q7x w43 q4h z8e Z9 w44 Z0)):=mS h [(21,⟨bl 2147468259,[1,0],[],[sI 10]⟩),(29,⟨bl 68719462371,[],[],[sI 11,sI 12]⟩)]
theorem z97:MT 5 (H4 Wi):=z96 ⟨w3v,y5u,j88,v3z,q89,y5x,z6i,trivial⟩
end Go.En
end
noncomputable section
namespace Go.En
open Go Go.Fl Go.Fl.Lk Go.Fx
theorem Cnd.mk{c A B:Prop}(h:c->A)(k: ¬c->B):Cnd c A B:=⟨h,k⟩
structure DS(list:List Int)(at_:Int):Prop where
 len:list.length<=1000
 lo:0<=at_
 hi:at_<=list.length
 byte: ∀x∈list,0<=x/\x<256
theorem getm{α:Type}{l:List α}{k:Nat}{x:α}(h:l[k]? =some x):x∈l:=List.mem_of_getElem? h
theorem z98(n:Int):(Go.Utf8.encode n).size<=4:=by
 unfold Go.Utf8.encode;generalize (if Go.Utf8.valid n then n.toNat else Go.Utf8.runeError)=c;show (if c<0x80 then _ else if c<0x800 then _ else if c<0x10000 then _ else _:BA).size<=4;have h1: ∀a:UInt8,(ByteArray.mk #[a]).size<=4:=fun _=>(by decide:1<=4)
 have h2: ∀a b:UInt8,(ByteArray.mk #[a,b]).size<=4:=fun _ _=>(by decide:2<=4)
 have h3: ∀a b c:UInt8,(ByteArray.mk #[a,b,c]).size<=4:=fun _ _ _=>(by decide:3<=4)
 have h4: ∀a b c d:UInt8,(ByteArray.mk #[a,b,c,d]).size<=4:=fun _ _ _ _=>(by decide:4<=4)
 split
 .exact h1 _
 .split
  .exact h2 _ _
  .split
   .exact h3 _ _ _
   .exact h4 _ _ _ _
theorem Qe{list:List Int}{at_ n:Int}{K:Int->Int->Prop}(hD:DS list at_)(hn:1<=n)(h: ∀r a,0<=r->r<n->DS list a->K r a):Jb list at_ n K:=by
 obtain⟨h1,h2,h3,h4⟩:=hD;unfold Jb w2w w2v;refine fun _=>Cnd.mk (fun hl=> ?_) (fun _=>h _ _ (by omega) (by omega) ⟨h1,h2,h3,h4⟩)
 have hl:=of_decide_eq_true hl;refine⟨by unfold InI;omega,by unfold InI;omega,by omega,fun y hy=>⟨by unfold InI;have:=h4 _ (getm hy);omega,by omega,?_⟩⟩;obtain⟨a,b⟩:=h4 _ (getm hy);exact h _ _ (Int.tmod_nonneg _ a) (by have:=Int.tmod_lt_of_pos y (b:=n) (by omega);omega) ⟨h1,by omega,by omega,h4⟩
theorem By{list:List Int}{at_ n:Int}{K:Int->Int->Prop}(hD:DS list at_)(hn:1<=n)(h: ∀r a,0<=r->r<n->DS list a->K r a):z22 list at_ n K:=by
 unfold z22 w2y;refine Qe hD (by decide) fun r a r0 r1 hD=>⟨by unfold InI;omega,Qe hD (by decide) fun s b s0 s1 hD=>⟨by unfold InI;omega,by omega,?_⟩⟩
 exact h _ _ (Int.tmod_nonneg _ (by omega)) (by have:=Int.tmod_lt_of_pos (256*r+s) (b:=n) (by omega);omega) hD
theorem j2d{n:Int}{l:List BA}{K:List BA->Prop}(h0:0<=n)(h1:n<=l.length)(h:K (l.take n.toNat)):j6p n l K:=⟨⟨h0,h1⟩,h⟩
theorem q51{list:List Int}{at_:Int}{K:BA->Int->Prop}(hD:DS list at_)(h: ∀r a,r∈z45->DS list a->K r a):q9x list at_ K:=by unfold q9x w2x;exact Qe hD (by decide) fun r a r0 r1 hD=>⟨⟨r0,r1⟩,fun y hy=>h _ _ (getm hy) hD⟩
theorem sz_k(n:Int):(B8 [107]++Go.Utf8.encode n).size<=5:=by rw[ByteArray.size_append];have:=z98 n;show 1+_<=5;omega
theorem y1j{list:List Int}{at_:Int}{K:BA->Int->Prop}(hD:DS list at_)(h: ∀r a,r.size<=5->DS list a->K r a):w22 list at_ K:=by
 unfold w22 w84;refine Qe hD (by decide) fun r a r0 r1 hD=>⟨by unfold InI;omega,?_,h _ _ (sz_k _) hD⟩
 have:=z98 (IntKind.i32.wrap (48+r));have e:(B8 [107]).size=1:=rfl;omega
theorem z6s{list:List Int}{at_:Int}{K:List BA->Int->Prop}(hD:DS list at_)(h: ∀r a,r.length<=3->(∀s∈r,s.size<=5)->DS list a->K r a):z23 list at_ K:=by
 unfold z23 w2z;refine Qe hD (by decide) fun n a n0 n1 hD=> ?_
 refine Lp3.ind (fun l i a=>DS list a/\0<=i/\i<=3/\(l.length:Int)=i/\∀s∈l,s.size<=5) (fun _ i _=>(3 - i).toNat) ?_ ⟨hD,by decide,by decide,rfl,by simp⟩;rintro l i a ⟨hD,i0,i3,hl,hs⟩;refine Qe hD (by decide) fun r a r0 r1 hD=>Cnd.mk (fun hc=> ?_) (fun hc=> ?_)
 .have:=z98 (IntKind.i32.wrap ((48:Int)+(n+i).tmod 10));have e:(B8 [107]).size=1:=rfl;have m0:=Int.tmod_nonneg 10 (show 0<=n+i by omega);have m1:=Int.tmod_lt_of_pos (n+i) (b:=10) (by decide);refine⟨by unfold InI;omega,by decide,by unfold InI;omega,by omega,by unfold Sml;simp;omega,by unfold InI;omega,⟨hD,by omega,by omega,by simp;omega,fun s hm=> ?_⟩,by omega⟩;rcases List.mem_append.1 hm with hm|hm
  .exact hs s hm
  .rw[List.mem_singleton.1 hm];exact sz_k _
 .refine Lp2.ind (fun (i:Int) (m:List BA)=>m=l/\1<=i/\i<=1+l.length) (fun (i:Int) _=>(1+l.length - i).toNat) ?_ ⟨rfl,by decide,by omega⟩;rintro i m ⟨rfl,i0,i1⟩ _;refine Cnd.mk (fun hc=>⟨by omega,fun y hy=>⟨by unfold InI;omega,by omega,fun z hz=>Cnd.mk (fun _=>⟨by unfold InI;omega,⟨rfl,by omega,by omega⟩,by omega⟩) (fun _=>⟨by omega,h _ _ (by simp;omega) (fun s hm=>hs s (List.mem_of_mem_take hm)) hD⟩)⟩⟩) (fun _=>h _ _ (by omega) hs hD)
theorem sz0:(ByteArray.mk (Array.mk ([]:List UInt8))).size<=100:=by decide
structure ValS(v:Val):Prop where
 num:InI v.number
 txt:v.text.size<=100
 len:v.list.length<=10
 txs: ∀s∈v.list,s.size<=100
theorem q72{list:List Int}{at_ kind:Int}{K:Val->Int->Prop}(hD:DS list at_)(h: ∀r a,ValS r->DS list a->K r a):Bf list at_ kind K:=by
 unfold Bf j0z;have tt: ∀s∈z45,s.size<=100:=by decide
 have tv: ∀s∈z47,s.size<=100:=by decide
 have tl: ∀l∈j7w,l.length<=10/\∀s∈l,s.size<=100:=by decide
 refine Cnd.mk (fun _=> ?_) fun _=>Cnd.mk (fun _=>fun _=> ?_) fun _=>Cnd.mk (fun _=> ?_) fun _=>Cnd.mk (fun _=> ?_) fun _=> ?_
 .exact Qe hD (by decide) fun r a r0 r1 hD=>h _ _ ⟨by unfold InI;simp only;omega,sz0,by simp,by simp⟩ hD
 .refine Qe hD (by decide) fun r a r0 r1 hD=>⟨⟨r0,r1⟩,fun y hy=>h _ _ ⟨?_,sz0,by simp,by simp⟩ hD⟩
  have:=getm hy;have k: ∀y∈[(0:Int),(1:Int),(17:Int),(18:Int),(19:Int),(-5:Int),(64:Int),(1099511627776:Int),(-1099511627776:Int)], -9223372036854775808<=y/\y<=9223372036854775807:=by decide
  exact k y this
 .exact q51 hD fun r a hr hD=>h _ _ ⟨by unfold InI;simp,tt _ hr,by simp,by simp⟩ hD
 .exact Qe hD (by decide) fun r a r0 r1 hD=>⟨⟨r0,r1⟩,fun y hy=>h _ _ ⟨by unfold InI;simp,tv _ (getm hy),by simp,by simp⟩ hD⟩
 .refine Qe hD (by decide) fun r a r0 r1 hD=>⟨⟨r0,r1⟩,fun y hy=> ?_⟩
  obtain⟨a1,a2⟩:=tl _ (getm hy);exact⟨by unfold Sml;simp;omega,h _ _ ⟨by unfold InI;simp,sz0,by simpa using a1,by simpa using a2⟩ hD⟩
structure VsS(l:List Val):Prop where
 len:l.length<=4
 all: ∀v∈l,ValS v
theorem VsS.nil:VsS []:=⟨by simp,by simp⟩
theorem VsS.one{v:Val}(h:ValS v):VsS [v]:=⟨by simp,by simpa using h⟩
def ExS:Nat->Ex->Prop
 |0,e=>VsS e.values/\(e.name.size<=100/\e.kind.size<=100)/\(InI e.op/\(2<=e.op->e.op<=4->e.kids≠[]))/\e.kids=[]
 |n+1,e=>VsS e.values/\(e.name.size<=100/\e.kind.size<=100)/\(InI e.op/\(2<=e.op->e.op<=4->e.kids≠[]))/\e.kids.length<=3/\∀k∈e.kids,ExS n k
theorem ExS.up: ∀{n:Nat} {e:Ex},ExS n e->ExS (n+1) e
 |0,e,h=>⟨h.1,h.2.1,h.2.2.1,by rw[h.2.2.2];simp,by rw[h.2.2.2];simp⟩
 |n+1,e,h=>⟨h.1,h.2.1,h.2.2.1,h.2.2.2.1,fun k hk=>(h.2.2.2.2 k hk).up⟩
theorem ExS.le{n m:Nat}{e:Ex}(h:ExS n e)(hm:n<=m):ExS m e:=by
 induction hm with
 |refl=>exact h
 |step _ ih=>exact ih.up
theorem ExS.kids{n:Nat}{e:Ex}(h:ExS n e):e.kids.length<=3:=by
 cases n with
 |zero=>rw[h.2.2.2];simp
 |succ n=>exact h.2.2.2.1
theorem ExS.kid{n:Nat}{e k:Ex}(h:ExS n e)(hk:k∈e.kids): ∃m,m+1=n/\ExS m k:=by
 cases n with
 |zero=>rw[h.2.2.2] at hk;simp at hk
 |succ n=>exact⟨n,rfl,h.2.2.2.2 k hk⟩
theorem ExS.vals{n:Nat}{e:Ex}(h:ExS n e):VsS e.values:=by cases n<;>exact h.1
theorem ExS.nm{n:Nat}{e:Ex}(h:ExS n e):e.name.size<=100:=by cases n<;>exact h.2.1.1
theorem ExS.kd{n:Nat}{e:Ex}(h:ExS n e):e.kind.size<=100:=by cases n<;>exact h.2.1.2
theorem ExS.opK{n:Nat}{e:Ex}(h:ExS n e):2<=e.op->e.op<=4->e.kids≠[]:=by cases n<;>exact h.2.2.1.2
def OpL(op:Int):Prop:=InI op/\ ¬(2<=op/\op<=4)
theorem OpL.ok{op:Int}(h:OpL op){l:List Ex}:InI op/\(2<=op->op<=4->l≠[]):=⟨h.1,fun a b=>absurd ⟨a,b⟩ h.2⟩
theorem opl{op:Int}(h:(6<=op/\op<=100)\/op=0\/op=1\/op=5){l:List Ex}:InI op/\(2<=op->op<=4->l≠[]):=⟨by unfold InI;omega,fun a b=>by omega⟩
theorem q32{K:List Decl->Prop}(h: ∀l,l.length=8->(∀d∈l,d.kind.size<=100/\d.name.size<=100/\1<=d.type/\d.type<=5)->K l):Be K:=by unfold Be;exact h _ rfl (by decide)
theorem j2e{list:List Int}{at_:Int}{K:Ex->Int->Prop}(hD:DS list at_)(h: ∀r a,ExS 0 r->6<=r.op/\r.op<=15->DS list a->K r a):z7g list at_ K:=by
 unfold z7g w23;refine q32 fun l hl hd _=>⟨by unfold InI;omega,Qe hD (by omega) fun r a r0 r1 hD _=>Cnd.mk (fun _=> ?_) fun hc=>⟨by omega,fun y hy=> ?_⟩⟩
 .exact y1j hD fun s a hs hD=>h _ _ ⟨.one ⟨by unfold InI;simp,by show s.size<=100;omega,by simp,by simp⟩,⟨(by decide:(ByteArray.mk (Array.mk [107,101,121])).size<=100),(by decide:(ByteArray.mk (Array.mk [117,115,101,114])).size<=100)⟩,opl (by simp),rfl⟩ (by simp) hD
 obtain⟨hy0,hy1,hy2,hy3⟩:=hd y (getm hy);have one: ∀{op:Int} {v:Val},OpL op->ValS v->ExS 0 (Ex.mk op y.kind y.name [v] []):=fun ho hv=>⟨.one hv,⟨hy1,hy0⟩,ho.ok,rfl⟩
 refine Jn1.mk (fun x=>(∃b,x=(b,y.kind,y.name,([]:List Val),([]:List Ex),x.2.2.2.2.2.1,0,ByteArray.mk (Array.mk []),ByteArray.mk (Array.mk []),[],[],()))/\DS list x.2.2.2.2.2.1) ?_ ?_
 case refine_2=>
  rintro x ⟨⟨b,hx⟩,hD⟩;refine q72 hD fun v a hv hD=>h _ _ ?_ (by simp) hD
  rw[hx];exact one ⟨by unfold InI;simp,by decide⟩ hv
 refine Qe hD (by decide) fun q a q0 q1 hD=> ?_
 refine Jn1.mk (fun x=>(∃b,x=(x.1,b,y.kind,y.name,([]:List Val),([]:List Ex),0,ByteArray.mk (Array.mk []),ByteArray.mk (Array.mk []),[],[],()))/\DS list x.1) ?_ ?_
 case refine_2=>
  rintro x ⟨⟨b,hx⟩,hD⟩;have cmp:Jb list x.1 4 fun r a=>InI (12+r)/\Bf list a y.3 fun v a=>K (Ex.mk (12+r) x.2.2.1 x.2.2.2.1 [v] x.2.2.2.2.2.1) a:=by
   refine Qe hD (by decide) fun r a r0 r1 hD=>⟨by unfold InI;omega,q72 hD fun v a hv hD=>h _ _ ?_ (by simp only;omega) hD⟩
   rw[hx];exact one ⟨by unfold InI;omega,by omega⟩ hv
  refine Cnd.mk (fun _=>cmp) fun _=>Cnd.mk (fun _=>cmp) fun _=>Cnd.mk (fun _=>cmp) fun _=> ?_
  refine⟨⟨b,?_⟩,hD⟩;rw[hx]
 have nx: ∀{a:Int},DS list a->(fun x:Int×BA×BA×List Val×List Ex×Int×Int×BA×BA×List Val×List Ex×Unit=>(∃b,x=(b,y.kind,y.name,([]:List Val),([]:List Ex),x.2.2.2.2.2.1,0,ByteArray.mk (Array.mk []),ByteArray.mk (Array.mk []),[],[],()))/\DS list x.2.2.2.2.2.1) ((0:Int),y.1,y.2,[],[],a,(0:Int),ByteArray.mk (Array.mk []),ByteArray.mk (Array.mk []),[],[],()):=fun hD=>⟨⟨0,rfl⟩,hD⟩
 refine Cnd.mk (fun _=>h _ _ ⟨.nil,⟨hy1,hy0⟩,opl (by simp),rfl⟩ (by simp) hD) fun _=>Cnd.mk (fun _=> ?_) fun _=>Cnd.mk (fun _=> ?_) fun _=>Cnd.mk (fun _=> ?_) fun _=>Cnd.mk (fun _=> ?_) fun _=>nx hD
 .refine Cnd.mk (fun _=>nx hD) fun _=> ?_
  refine Lp3.ind (fun i l a=>DS list a/\0<=i/\i<=3/\(l.length:Int)=i/\∀v∈l,ValS v) (fun i _ _=>(3 - i).toNat) ?_ ⟨hD,by decide,by decide,rfl,by simp⟩;rintro i l a ⟨hD,i0,i3,hl,hv⟩;refine Qe hD (by decide) fun r a r0 r1 hD=>Cnd.mk (fun hc=>q72 hD fun v a hv' hD=>⟨by unfold Sml;simp;omega,by unfold InI;omega,⟨hD,by omega,by omega,by simp;omega,fun u hu=> ?_⟩,by omega⟩) (fun hc=>h _ _ ⟨⟨by simp only;omega,hv⟩,⟨hy1,hy0⟩,opl (by simp),rfl⟩ (by simp) hD)
  rcases List.mem_append.1 hu with hu|hu
  .exact hv u hu
  .rw[List.mem_singleton.1 hu];exact hv'
 .have c:Bf list a 3 fun v a=>K (Ex.mk 11 y.1 y.2 [v] []) a:=q72 hD fun v a hv hD=>h _ _ (one ⟨by unfold InI;simp,by decide⟩ hv) (by simp) hD
  exact Cnd.mk (fun _=>c) fun _=>Cnd.mk (fun _=>c) fun _=>nx hD
 .exact Cnd.mk (fun _=>Qe hD (by decide) fun r a r0 r1 hD=>⟨by unfold InI;omega,q72 hD fun v a hv hD=>h _ _ (one ⟨by unfold InI;omega,by omega⟩ hv) (by simp only;omega) hD⟩) fun _=>⟨⟨0,rfl⟩,hD⟩
 .exact⟨⟨0,rfl⟩,hD⟩
theorem ExS.eta{n:Nat}{e:Ex}(h:ExS n e):ExS n (Ex.mk e.op e.kind e.name e.values e.kids):=by cases e;exact h
theorem y1k{n:Nat}{e:Ex}(h:ExS n e){k m:BA}(hm:m.size<=100)(hk:k.size<=100):ExS (n+1) (Ex.mk 4 k m [] [e]):=⟨.nil,⟨hm,hk⟩,⟨InI.mk (by simp) (by simp),fun _ _=>by simp⟩,by simp,by simpa using h⟩
theorem v74{list:List Int}{segs:List BA}(hs: ∀s∈segs,s.size<=100): ∀(k:Nat) {at_ levels:Int} {K:Ex->Int->Prop},k<=100->levels<=k+1->1<=levels->DS list at_->(∀r a,ExS (2*k) r->DS list a->K r a)->q9y list at_ segs levels K:=by
 intro k at_ levels K hk0 hk hl hD h X hX
 induction k generalizing at_ levels K with
 |zero=>
  refine hX _ _ _ _ _ ?_;unfold z7h;have hseg: ∀{x:Int} {b:BA} {a:Int},b∈segs->OpL x->DS list a->K (Ex.mk x (ByteArray.mk (Array.mk [])) b [] []) a:=fun hb hx hD=>h _ _ ⟨.nil,⟨hs _ hb,sz0⟩,hx.ok,rfl⟩ hD
  refine Qe hD (by decide) fun r a r0 r1 hD=>Jn1.mk (fun x=>0<=x/\x<=3) (Cnd.mk (fun _=>Cnd.mk (fun _=>⟨by unfold InI;omega,by omega,by omega⟩) fun _=>⟨by omega,by omega⟩) fun _=>by omega) fun x hx=> ?_
  have t:=j2e (K:=fun r a=>K (Ex.mk r.1 r.2 r.3 r.4 r.5) a) hD fun r a hr _ hD=>h _ a (hr.eta.le (by omega)) hD
  refine Cnd.mk (fun _=>h _ _ ⟨.nil,⟨sz0,sz0⟩,opl (by simp),rfl⟩ hD) fun _=>Cnd.mk (fun _ _=>Cnd.mk (fun hc _=> ?_) fun _=>t) fun _=>Cnd.mk (fun hc=>by omega) fun _=> ?_
  .exact Qe hD (by omega) fun r a r0 r1 hD=>⟨⟨r0,r1⟩,fun y hy=>hseg (getm hy) ⟨by unfold InI;simp,by decide⟩ hD⟩
  .exact Jn1.mk (fun x=>x=false) (Cnd.mk (fun hc=>by omega) fun _=>decide_eq_false (by omega)) fun x hx=>Cnd.mk (fun hc=>by rw[hx] at hc;cases hc) fun _=>t
 |succ k ih=>
  refine hX _ _ _ _ _ ?_;unfold z7h;have hseg: ∀{x:Int} {b:BA} {a:Int},b∈segs->OpL x->DS list a->K (Ex.mk x (ByteArray.mk (Array.mk [])) b [] []) a:=fun hb hx hD=>h _ _ (ExS.le (n:=0) ⟨.nil,⟨hs _ hb,sz0⟩,hx.ok,rfl⟩ (by omega)) hD
  have go: ∀{at_:Int} {K:Ex->Int->Prop},InI (levels - 1)->1<=levels - 1->DS list at_->(∀r a,ExS (2*k) r->DS list a->K r a)->X list at_ segs (levels - 1) K:=fun _ h1 hD hK=>ih (by omega) (by omega) h1 hD hK
  refine Qe hD (by decide) fun r a r0 r1 hD=>Jn1.mk (fun x=>0<=x/\x<=7/\(levels<=1->x<=3)) (Cnd.mk (fun _=>Cnd.mk (fun _=>⟨by unfold InI;omega,by omega,by omega,by omega⟩) fun _=>⟨by omega,by omega,by omega⟩) fun _=>by omega) fun x hx=> ?_
  have t:=j2e (K:=fun r a=>K (Ex.mk r.1 r.2 r.3 r.4 r.5) a) hD fun r a hr _ hD=>h _ a (hr.eta.le (by omega)) hD
  refine Cnd.mk (fun _=>h _ _ (ExS.le (n:=0) ⟨.nil,⟨sz0,sz0⟩,opl (by simp),rfl⟩ (by omega)) hD) fun _=>Cnd.mk (fun _ _=>Cnd.mk (fun hc _=> ?_) fun _=>t) fun _=>Cnd.mk (fun hc=> ?_) fun _=> ?_
  .exact Qe hD (by omega) fun r a r0 r1 hD=>⟨⟨r0,r1⟩,fun y hy=>hseg (getm hy) ⟨by unfold InI;simp,by decide⟩ hD⟩
  .exact⟨by unfold InI;omega,go (by unfold InI;omega) (by omega) hD fun e a he hD=>h _ _ ((y1k he.eta sz0 sz0).le (by omega)) hD⟩
  refine Jn1.mk (fun y=>y=true->2<=levels) (Cnd.mk (fun hc _=>by omega) fun _ hc=>by have:=of_decide_eq_true hc;omega) fun y hy=>Cnd.mk (fun hc=> ?_) fun _=>t
  have hy:=hy hc;refine Qe hD (by decide) fun r a r0 r1 hD=>⟨by unfold InI;omega,Qe hD (by decide) fun q a q0 q1 hD=>⟨by unfold InI;omega,?_⟩⟩
  refine LpH.ind (fun x=>0<=x.1/\x.1<=2+q/\DS list x.2.1/\x.2.2=(2+r,ByteArray.mk (Array.mk []),ByteArray.mk (Array.mk []),[],x.2.2.2.2.2.2.1,())/\(x.2.2.2.2.2.2.1.length:Int)=x.1/\∀e∈x.2.2.2.2.2.2.1,ExS (2*k+1) e) (fun x=>(3 - x.1).toNat) ?_ ⟨Int.le_refl 0,by simp only;omega,hD,rfl,rfl,by simp⟩;rintro⟨i,a,x⟩ ⟨i0,i1,hD,hx,hl,he⟩;simp only at i0 i1 hD hx hl he;generalize x.2.2.2.2.1=l at*
  subst hx;simp only at hl he⊢;refine Cnd.mk (fun hc=>⟨by unfold InI;omega,go (by unfold InI;omega) (by omega) hD fun e a hk hD=> ?_⟩) fun hc=>h _ _ ⟨.nil,⟨sz0,sz0⟩,⟨InI.mk (by simp only;omega) (by simp only;omega),fun _ _ hn=>by simp only at hn;rw[hn] at hl;simp at hl;omega⟩,by simp only;omega,he⟩ hD
  refine Jn1.mk (fun z=>ExS (2*k+1) (Ex.mk z.1 z.2.1 z.2.2.1 z.2.2.2.1 z.2.2.2.2.1)) (Cnd.mk (fun _=>y1k hk.eta sz0 sz0) fun _=>hk.eta.up) fun z hz=> ?_
  refine⟨by unfold Sml;simp;omega,by unfold InI;omega,⟨by omega,by omega,hD,trivial,by simp;omega,fun e hm=> ?_⟩,by omega⟩;rcases List.mem_append.1 hm with hm|hm
  .exact he e hm
  .rw[List.mem_singleton.1 hm];exact hz
structure SegS(g:Seg):Prop where
 key:g.key.size<=100
 kind:g.kind.size<=100
 incl:g.incl.length<=3
 excl:g.excl.length<=3
 cond:ExS 4 g.cond
theorem Jj{α:Type}{P:α->Prop}{l:List α}{x:α}(h: ∀y∈l,P y)(hx:P x): ∀y∈l++[x],P y:=fun y hy=>by
 rcases List.mem_append.1 hy with hy|hy
 .exact h y hy
 .rw[List.mem_singleton.1 hy];exact hx
theorem q6l{v:Envt}{K:List BA->Prop}(hl:v.segments.length<=1000)(h:K (v.segments.map Seg.key)):Gv v K:=by
 unfold Gv;refine Lp2.ind (fun (l:List BA) (i:Int)=>0<=i/\i<=v.segments.length/\l=(v.segments.take i.toNat).map Seg.key) (fun _ (i:Int)=>(v.segments.length - i).toNat) ?_ ⟨Int.le_refl 0,by omega,by simp⟩;rintro l i ⟨i0,i1,rfl⟩ _;refine Cnd.mk (fun hc=>⟨by omega,fun y hy=>⟨by unfold Sml;simp;omega,by unfold InI;omega,⟨by omega,by omega,?_⟩,by omega⟩⟩) fun hc=> ?_
 .rw[show (i+1).toNat=i.toNat+1 by omega,List.take_add_one,hy];simp
 .rw[t99 (by omega)];exact h
def SplS(n:Int)(l:List Rng):Prop:=l.length<=4/\∀r∈l,0<=r.lo/\r.hi<=10000/\1<=r.variation/\r.variation<=n
theorem v30{list:List Int}{at_ n:Int}{K:List Rng->Int->Prop}(hD:DS list at_)(hn:1<=n)(hn':n<=100)(h: ∀l a,SplS n l->DS list a->K l a):q8h list at_ n K:=by
 unfold q8h j00;refine Jn4.mk (fun l at_ last a=>DS list a/\l.length<=3/\0<=at_/\∀r∈l,0<=r.lo/\r.hi<=10000/\1<=r.variation/\r.variation<=n) ?_ ?_
 .refine Lp5.ind (fun l at_ last i a=>DS list a/\0<=i/\i<=3/\(l.length:Int)=i/\0<=at_/\at_<=10000/\0<=last/\last<=n/\∀r∈l,0<=r.lo/\r.hi<=10000/\1<=r.variation/\r.variation<=n) (fun _ _ _ i _=>(3 - i).toNat) ?_ ⟨hD,by omega,by omega,rfl,by omega,by omega,by omega,by omega,by simp⟩;rintro l at_ last i a ⟨hD,i0,i1,hl,a0,a1,l0,l1,hr⟩;refine Qe hD (by decide) fun q a q0 q1 hD=>Cnd.mk (fun _=>Cnd.mk (fun _=>⟨by unfold InI;omega,By hD (by decide) fun w a w0 w1 hD=>⟨by unfold InI;omega,Qe hD hn fun v a v0 v1 hD=>⟨by unfold InI;omega,?_⟩⟩⟩) fun _=> ?_) fun _=> ?_
  .have m0:=Int.tmod_nonneg n (show 0<=1+v by omega);have m1:=Int.tmod_lt_of_pos (1+v) (b:=n) (by omega);refine Jn1.mk (fun v=>1<=v/\v<=n) (Cnd.mk (fun _=>⟨by omega,by unfold InI;omega,by omega,by omega⟩) fun _=>⟨by omega,by omega⟩) fun v hv=>Cnd.mk (fun _=>⟨hD,by omega,a0,hr⟩) fun _=> ?_
   exact⟨by unfold Sml;simp;omega,by unfold InI;omega,⟨hD,by omega,by omega,by simp;omega,by omega,by omega,by omega,by omega,Jj hr ⟨by simp only;omega,by simp only;omega,by simp only;omega,by simp only;omega⟩⟩,by omega⟩
  .exact⟨hD,by omega,a0,hr⟩
  .exact⟨hD,by omega,a0,hr⟩
 .rintro l at_ last a ⟨hD,hl,a0,hr⟩;refine Qe hD hn fun v a v0 v1 hD=>⟨by unfold InI;omega,?_⟩
  have m0:=Int.tmod_nonneg n (show 0<=1+v by omega);have m1:=Int.tmod_lt_of_pos (1+v) (b:=n) (by omega);refine Jn1.mk (fun v=>1<=v/\v<=n) (Cnd.mk (fun _=>⟨by omega,by unfold InI;omega,by omega,by omega⟩) fun _=>⟨by omega,by omega⟩) fun v hv=> ?_
  exact⟨by unfold Sml;simp;omega,h _ _ ⟨by simp;omega,Jj hr ⟨a0,by simp,hv.1,hv.2⟩⟩ hD⟩
structure SrvS(n:Int)(s:Srv):Prop where
 kind:s.kind.size<=100
 var:0<=s.variation/\s.variation<=n
 split:SplS n s.split
 by_:s.by_.size<=100
 salt:s.salt.size<=100
theorem j4d{list:List Int}{at_ n:Int}{K:Srv->Int->Prop}(hD:DS list at_)(hn:1<=n)(hn':n<=100)(h: ∀s a,SrvS n s->DS list a->K s a):q28 list at_ n K:=by
 unfold q28 j01;have tt: ∀s∈z45,s.size<=100:=by decide
 have key:(ByteArray.mk (Array.mk [107,101,121])).size<=100:=by decide
 refine Qe hD (by decide) fun r a r0 r1 hD=>Cnd.mk (fun _=>Qe hD hn fun v a v0 v1 hD=>⟨by unfold InI;omega,h _ _ ⟨sz0,⟨by simp only;omega,by simp only;omega⟩,⟨by simp,by simp⟩,sz0,sz0⟩ hD⟩) fun _=> ?_
 refine q51 hD fun t a ht hD=>v30 hD hn hn' fun l a hl hD=>q32 fun ds _ hds=>Qe hD (by decide) fun q a q0 q1 hD _=> ?_
 have usr:(ByteArray.mk (Array.mk [117,115,101,114])).size<=100:=by decide
 have ok: ∀{k b:BA},k.size<=100->b.size<=100->SrvS n (Srv.mk 0 k b t l):=fun hk hb=>⟨hk,⟨by simp,by simp only;omega⟩,hl,hb,tt _ ht⟩
 refine Cnd.mk (fun _=>⟨by omega,fun y hy=>Cnd.mk (fun _=>h _ _ (ok usr key) hD) fun _=>⟨by omega,fun z hz=>⟨by omega,fun u hu=>h _ _ (ok (hds z (getm hz)).1 (hds u (getm hu)).2.1) hD⟩⟩⟩) fun _=>h _ _ (ok usr key) hD
structure LayS(l:Lay_):Prop where
 key:l.key.size<=100
 kind:l.kind.size<=100
 salt:l.salt.size<=100
 hold:0<=l.holdout/\l.holdout<=10000
 cool:0<=l.cool/\l.cool<=100
 cl:l.cooling.length<=1000
theorem v32{list:List Int}{at_:Int}{key:BA}{K:Lay_->Int->Prop}(hD:DS list at_)(hk:key.size<=100)(h: ∀l a,LayS l->l.key=key->DS list a->K l a):j06 list at_ key K:=by
 unfold j06 j70;have tt: ∀s∈z45,s.size<=100:=by decide
 refine q51 hD fun t a ht hD=>Qe hD (by decide) fun c a c0 c1 hD=>⟨by unfold InI;omega,?_⟩
 refine Jn2.mk (fun k a=>k.size<=100/\DS list a) (Qe hD (by decide) fun r a r0 r1 hD=>Cnd.mk (fun _=>⟨by decide,hD⟩) fun _=>⟨by decide,hD⟩) fun kind a hx=> ?_
 obtain⟨hkd,hD⟩:=hx;refine Jn2.mk (fun x a=>DS list a/\0<=x/\x<=10000) (Qe hD (by decide) fun r a r0 r1 hD=>Cnd.mk (fun _=>By hD (by decide) fun w a w0 w1 hD=>⟨hD,by omega,by omega⟩) fun _=>⟨hD,by omega,by omega⟩) fun hold a hx=> ?_
 obtain⟨hD,x0,x1⟩:=hx;have ok: ∀{cs:List Col},cs.length<=1000->LayS (Lay_.mk key kind t hold (c*50) cs):=fun hcs=>⟨hk,hkd,tt _ ht,⟨x0,x1⟩,⟨by simp only;omega,by simp only;omega⟩,hcs⟩
 refine Lp4.ind (fun at_ i cs a=>DS list a/\0<=i/\i<=2/\(cs.length:Int)=i/\0<=at_/\at_<=10000/\∀c∈cs,0<=c.lo/\c.hi<=10000/\0<=c.until_/\c.until_<=200) (fun _ i _ _=>(2 - i).toNat) ?_ ⟨hD,by omega,by omega,rfl,by omega,by omega,by simp⟩;rintro at_ i cs a ⟨hD,i0,i1,hl,a0,a1,hc⟩;refine Qe hD (by decide) fun q a q0 q1 hD=>Cnd.mk (fun _=>By hD (by decide) fun w a w0 w1 hD=>⟨by unfold InI;omega,by unfold InI;omega,By hD (by decide) fun w' a w0' w1' hD=>⟨by unfold InI;omega,Cnd.mk (fun _=>h _ _ (ok (by omega)) rfl hD) fun _=> ?_⟩⟩) fun _=>h _ _ (ok (by omega)) rfl hD
 refine Qe hD (by decide) fun u a u0 u1 hD=>⟨by unfold Sml;simp;omega,by unfold InI;omega,⟨hD,by omega,by omega,by simp;omega,by omega,by omega,Jj hc ⟨by simp only;omega,by simp only;omega,by simp only;omega,by simp only;omega⟩⟩,by omega⟩
structure SpsS(l:List Spn):Prop where
 len:l.length<=10000
 all: ∀s∈l,0<=s.lo/\s.lo<s.hi/\s.hi<=10000
structure RulS(n:Int)(r:Rul):Prop where
 name:r.name.size<=100
 cond:ExS 4 r.cond
 serve:SrvS n r.serve
structure FlgS(f:Flg):Prop where
 key:f.key.size<=100
 vlen:1<=f.variations.length/\f.variations.length<=4
 vals: ∀v∈f.variations,ValS v
 nlen:f.needs.length<=4
 needs: ∀q∈f.needs,q.flag.size<=100
 tlen:f.targets.length<=3
 tgts: ∀t∈f.targets,t.kind.size<=100
 rlen:f.rules.length<=4
 rules: ∀r∈f.rules,RulS f.variations.length r
 dflt:SrvS f.variations.length f.dflt
structure ExpS(x:Exper):Prop where
 key:x.key.size<=100
 layer:x.layer.size<=100
 flag:x.flag.size<=100
 claims:SpsS x.claims
 arms:SplS 4 x.arms
 cond:ExS 4 x.cond
structure EnvS(v:Envt):Prop where
 hkind:v.settings.holdoutKind.size<=100
 attrs: ∀d∈v.attributes,d.kind.size<=100/\d.name.size<=100
 slen:v.segments.length<=3
 segs: ∀g∈v.segments,SegS g
 flen:v.flags.length<=4
 flags: ∀f∈v.flags,FlgS f
 llen:v.layers.length<=2
 layers: ∀l∈v.layers,LayS l
 xlen:v.experiments.length<=3
 exps: ∀x∈v.experiments,ExpS x
end Go.En
end
noncomputable section
namespace Go.En
open Go Go.Fl Go.Fl.Lk Go.Fx
theorem w1v{α:Type}{a b:List α}(hl:a.length=b.length){F:α->α->(Bool->Prop)->Prop}{K:Bool->Prop}(hF: ∀x∈a,∀y∈b,∀K:Bool->Prop,(∀r,(r=true↔x=y)->K r)->F x y K)(h: ∀r,(r=true↔a=b)->K r):
  Lp1 (fun i Y=>a.length<=9223372036854775807->Cnd (i<(a.length:Int)) ((0<=i/\i<(a.length:Int))/\∀x,a[i.toNat]? =some x->(0<=i/\i<(b.length:Int))/\∀y,b[i.toNat]? =some y->F x y fun r=>Cnd (r=true) (InI (i+1)/\Y (i+1)) (K false)) (K true)) 0:=by
 refine Lp1.ind (fun (i:Int)=>0<=i/\i<=a.length/\a.take i.toNat=b.take i.toNat) (fun (i:Int)=>(a.length - i).toNat) ?_ ⟨by omega,by omega,by simp⟩;rintro i ⟨i0,i1,he⟩ _;refine Cnd.mk (fun hc=>⟨by omega,fun x hx=>⟨by omega,fun y hy=>hF x (getm hx) y (getm hy) _ fun r hr=>Cnd.mk (fun hc=>⟨by unfold InI;omega,⟨by omega,by omega,?_⟩,by omega⟩) fun hc=>h _ ⟨fun h=>(by cases h),fun h=> ?_⟩⟩⟩) fun hc=>h _ ⟨fun _=> ?_,fun _=>rfl⟩
 .rw[show (i+1).toNat=i.toNat+1 by omega,List.take_add_one,List.take_add_one,he,hx,hy,hr.1 hc]
 .subst h;rw[hx] at hy;exact absurd (hr.2 (by cases hy;rfl)) hc
 .rwa [t99 (by omega),t99 (by omega)] at he
theorem v33{a b:List BA}{K:Bool->Prop}(h: ∀r,(r=true↔a=b)->K r):j04 a b K:=by
 unfold j04;intro ha hb;refine Cnd.mk (fun hl=> ?_) fun hl=>h _ ⟨fun h=>(by cases h),fun e=>by rw[e] at hl;exact absurd rfl hl⟩
 refine Lp1.ind (fun (i:Int)=>0<=i/\i<=a.length/\a.take i.toNat=b.take i.toNat) (fun (i:Int)=>(a.length - i).toNat) ?_ ⟨by omega,by omega,by simp⟩;rintro i ⟨i0,i1,he⟩ _;refine Cnd.mk (fun hc=>⟨by omega,fun x hx=>⟨by omega,fun y hy=>Cnd.mk (fun hc=>⟨by unfold InI;omega,⟨by omega,by omega,?_⟩,by omega⟩) fun hc=>h _ ⟨fun h=>(by cases h),fun h=> ?_⟩⟩⟩) fun hc=>h _ ⟨fun _=> ?_,fun _=>rfl⟩
 .rw[show (i+1).toNat=i.toNat+1 by omega,List.take_add_one,List.take_add_one,he,hx,hy,hc]
 .subst h;rw[hx] at hy;cases hy;exact absurd rfl hc
 .rwa [t99 (by omega),t99 (by omega)] at he
theorem j89{l:List BA}{s:BA}{K:Bool->Prop}(h: ∀r,(r=true↔s∈l)->K r):q92 l s K:=by
 unfold q92;refine Lp1.ind (fun (i:Int)=>0<=i/\i<=l.length/\s∉l.take i.toNat) (fun (i:Int)=>(l.length - i).toNat) ?_ ⟨by omega,by omega,by simp⟩;rintro i ⟨i0,i1,he⟩ _;refine Cnd.mk (fun hc=>⟨by omega,fun x hx=>Cnd.mk (fun e=>h _ ⟨fun _=>e▸getm hx,fun _=>rfl⟩) fun e=>⟨by unfold InI;omega,⟨by omega,by omega,?_⟩,by omega⟩⟩) fun hc=>h _ ⟨fun h=>(by cases h),fun hm=> ?_⟩
 .rw[show (i+1).toNat=i.toNat+1 by omega,List.take_add_one,hx];simp[he,Ne.symm e]
 .rw[t99 (by omega)] at he;exact absurd hm he
theorem w9v{a b:Val}{K:Bool->Prop}(h: ∀r,(r=true↔a=b)->K r):z7i a b K:=by
 unfold z7i j3f;have no:(a≠b)->K false:=fun hn=>h _ ⟨fun h=>(by cases h),fun e=>absurd e hn⟩
 refine Cnd.mk (fun h1=>Cnd.mk (fun h2=>Cnd.mk (fun h3=>v33 fun r hr=>h r (hr.trans ⟨fun h4=> ?_,fun e=>by rw[e]⟩)) fun h=>no fun e=>h (by rw[e])) fun h=>no fun e=>h (by rw[e])) fun h=>no fun e=>h (by rw[e])
 cases a;cases b;simp_all
theorem j51{a b:List Val}{K:Bool->Prop}(h: ∀r,(r=true↔a=b)->K r):Gw a b K:=by unfold Gw q8j;intro ha hb;exact Cnd.mk (fun hl=>w1v (by omega) (fun x _ y _ K hK=>w9v hK) h) fun hl=>h _ ⟨fun h=>(by cases h),fun e=>by rw[e] at hl;exact absurd rfl hl⟩
theorem Jh{e:Ex}:Ex.mk e.op e.kind e.name e.values e.kids=e:=by cases e;rfl
theorem w0k: ∀(n:Nat) {a b:Ex} {K:Bool->Prop},ExS n a->(∀r,(r=true↔a=b)->K r)->q3a a b K:=by
 intro n a b K ha h X hX
 induction n using Nat.strongRecOn generalizing a b K with
 |_ n ih=>
 refine hX _ _ _ ?_;unfold z25;have no:(a≠b)->K false:=fun hn=>h _ ⟨fun h=>(by cases h),fun e=>absurd e hn⟩
 refine Cnd.mk (fun h1=>Cnd.mk (fun h2=>Cnd.mk (fun h3=>j51 fun r hr=>Cnd.mk (fun hc _ _=>Cnd.mk (fun hl=> ?_) fun h=>no fun e=>h (by rw[e])) fun hc=>no fun e=>hc (hr.2 (by rw[e]))) fun h=>no fun e=>h (by rw[e])) fun h=>no fun e=>h (by rw[e])) fun h=>no fun e=>h (by rw[e])
 have h4:=hr.1 hc;refine w1v (by omega) (fun x hx y _ K hK=> ?_) fun r hr=>h r (hr.trans ⟨fun h5=> ?_,fun e=>by rw[e]⟩)
 .obtain⟨m,hm,hk⟩:=ha.kid hx;rw[Jh,Jh];exact ih m (by omega) hk hK
 .cases a;cases b;simp_all
theorem j9a(n:Nat){a b:Ex}{K:Bool->Prop}(ha:ExS n a)(h: ∀r,(r=true↔a=b)->K r):q3a (Ex.mk a.1 a.2 a.3 a.4 a.5) (Ex.mk b.1 b.2 b.3 b.4 b.5) K:=by rw[Jh,Jh];exact w0k n ha h
theorem j48{n:Nat}{l:List Ex}{e:Ex}{K:Int->Prop}(hl: ∀x∈l,ExS n x)(h: ∀r:Int,(r= -1/\e∉l)\/(0<=r/\l[r.toNat]? =some e/\e∉l.take r.toNat)->K r):Gi l e K:=by
 unfold Gi z9c;refine Lp1.ind (fun (i:Int)=>0<=i/\i<=l.length/\e∉l.take i.toNat) (fun (i:Int)=>(l.length - i).toNat) ?_ ⟨by omega,by omega,by simp⟩;rintro i ⟨i0,i1,he⟩ _;refine Cnd.mk (fun hc=>⟨by omega,fun x hx=>j9a n (hl x (getm hx)) fun r hr=>Cnd.mk (fun hc=>h _ (.inr ⟨i0,by rw[hx,hr.1 hc],he⟩)) fun hc=>⟨by unfold InI;omega,⟨by omega,by omega,?_⟩,by omega⟩⟩) fun hc=>h _ (.inl ⟨rfl,?_⟩)
 .rw[show (i+1).toNat=i.toNat+1 by omega,List.take_add_one,hx];have:e≠x:=fun e=>hc (hr.2 e.symm)
  simp[he,this]
 .rwa [t99 (by omega)] at he
theorem q52{op:Int}{K:Bool->Prop}(h: ∀r,(r=true↔6<=op/\op<=15)->K r):Vs op K:=by unfold Vs;exact Cnd.mk (fun h6=>h _ ⟨fun a=>⟨h6,of_decide_eq_true a⟩,fun a=>decide_eq_true a.2⟩) fun h6=>h _ ⟨fun a=>(by cases a),fun a=>absurd a.1 h6⟩
theorem w9w{now:Int}{K:Bool->Prop}(h: ∀r,(r=true↔0<=now/\now<=1099511627776)->K r):z7k now K:=by unfold z7k;exact Cnd.mk (fun h6=>h _ ⟨fun a=>⟨h6,of_decide_eq_true a⟩,fun a=>decide_eq_true a.2⟩) fun h6=>h _ ⟨fun a=>(by cases a),fun a=>absurd a.1 h6⟩
theorem w7d{α:Type}{l:List α}{f:α->BA}{key:BA}{K:Int->Prop}(h: ∀r:Int,(r= -1/\∀x∈l,f x≠key)\/(0<=r/\r<l.length/\(∃x,l[r.toNat]? =some x/\f x=key)/\∀x∈l.take r.toNat,f x≠key)->K r):
  Lp1 (fun i Y=>l.length<=9223372036854775807->Cnd (i<(l.length:Int)) ((0<=i/\i<(l.length:Int))/\∀y,l[i.toNat]? =some y->Cnd (f y=key) (K i) (InI (i+1)/\Y (i+1))) (K (-1))) 0:=by
 refine Lp1.ind (fun (i:Int)=>0<=i/\i<=l.length/\∀x∈l.take i.toNat,f x≠key) (fun (i:Int)=>(l.length - i).toNat) ?_ ⟨by omega,by omega,by simp⟩;rintro i ⟨i0,i1,he⟩ _;refine Cnd.mk (fun hc=>⟨by omega,fun x hx=>Cnd.mk (fun e=>h _ (.inr ⟨i0,hc,⟨x,hx,e⟩,he⟩)) fun e=>⟨by unfold InI;omega,⟨by omega,by omega,?_⟩,by omega⟩⟩) fun hc=>h _ (.inl ⟨rfl,?_⟩)
 .rw[show (i+1).toNat=i.toNat+1 by omega,List.take_add_one,hx];exact Jj he e
 .rwa [t99 (by omega)] at he
def PlcS{α:Type}(l:List α)(f:α->BA)(key:BA)(r:Int):Prop:=(r= -1/\∀x∈l,f x≠key)\/(0<=r/\r<l.length/\(∃x,l[r.toNat]? =some x/\f x=key)/\∀x∈l.take r.toNat,f x≠key)
theorem z02{v:Envt}{key:BA}{K:Int->Prop}(h: ∀r,PlcS v.layers Lay_.key key r->K r):q3d v key K:=w7d h
theorem j2f{v:Envt}{key:BA}{K:Int->Prop}(h: ∀r,PlcS v.flags Flg.key key r->K r):q96 v key K:=w7d h
theorem q4z{l:List Spn}{K:List Bool->Prop}(h: ∀b:List Bool,b.length=10000->K b):q05 l K:=by
 unfold q05;refine⟨⟨by decide,Int.le_refl _,by unfold Sml;decide⟩,Lp2.ind (fun (i:Int) (b:List Bool)=>0<=i/\i<=l.length/\b.length=10000) (fun (i:Int) _=>(l.length - i).toNat) ?_ ⟨by omega,by omega,by rw[List.length_replicate];decide⟩⟩;rintro i b ⟨i0,i1,hb⟩ _;refine Cnd.mk (fun hc=>⟨by omega,fun y hy=> ?_⟩) fun _=>h b hb
 refine Lp2.ind (fun (j:Int) (b:List Bool)=>0<=j/\b.length=10000) (fun (j:Int) _=>(10000 - j).toNat) ?_ ⟨by omega,hb⟩;rintro j b ⟨j0,hb⟩;refine⟨by omega,fun z hz=>Cnd.mk (fun hc=>⟨by omega,fun u hu=>⟨by unfold InI;omega,⟨by omega,by simpa using hb⟩,by omega⟩⟩) fun _=>⟨by unfold InI;omega,⟨by omega,by omega,hb⟩,by omega⟩⟩
theorem q53{b:List Bool}{K:List Spn->Prop}(hb:b.length<=10000)(h: ∀l,SpsS l->K l):Bj b K:=by
 unfold Bj;refine Lp2.ind (fun (l:List Spn) (i:Int)=>0<=i/\i<=b.length/\l.length<=i/\(∀s∈l,0<=s.lo/\s.lo<s.hi/\s.hi<=i)/\(0<i->b[(i - 1).toNat]? =some true->l≠[])) (fun _ (i:Int)=>(b.length - i).toNat) ?_ ⟨by omega,by omega,by simp,by simp,by omega⟩;rintro l i ⟨i0,i1,hl,hs,hn⟩ _;refine Cnd.mk (fun hc=>⟨by omega,fun y hy=>Cnd.mk (fun ht=> ?_) fun hf=> ?_⟩) fun _=>h l ⟨by omega,fun s hm=>by have:=hs s hm;omega⟩
 .have snoc:InI (i+1)/\Sml (l++[Spn.mk i (i+1)]).length/\InI (i+1)/\((0<=i+1/\i+1<=b.length/\((l++[Spn.mk i (i+1)]).length:Int)<=i+1/\(∀s∈l++[Spn.mk i (i+1)],0<=s.lo/\s.lo<s.hi/\s.hi<=i+1)/\(0<i+1->b[(i+1 - 1).toNat]? =some true->l++[Spn.mk i (i+1)]≠[]))/\(b.length - (i+1)).toNat<(b.length - i).toNat):=
   ⟨by unfold InI;omega,by unfold Sml;simp;omega,by unfold InI;omega,⟨by omega,by omega,by simp;omega,Jj (fun s hm=>by have:=hs s hm;omega) ⟨i0,by simp only;omega,by simp⟩,fun _ _=>by simp⟩,by omega⟩
  refine Cnd.mk (fun hp=>⟨by unfold InI;omega,by omega,fun z hz=>Cnd.mk (fun hz1=> ?_) fun _=>snoc⟩) fun _=>snoc
  have hne:=hn hp (by rw[hz,hz1]);have hpos:0<l.length:=List.length_pos_iff.2 hne;refine fun _=>⟨by unfold InI;omega,by unfold InI;omega,by omega,fun u hu=>⟨by unfold InI;omega,⟨by omega,by omega,by simp;omega,fun s hm=> ?_,fun _ _ hx=> ?_⟩,by omega⟩⟩
  .have:=hs u (getm hu);rcases List.mem_or_eq_of_mem_set hm with hm|rfl
   .have:=hs s hm;omega
   .exact⟨this.1,by simp only;omega,by simp⟩
  .exact hne (by rw[<-List.length_eq_zero_iff] at hx⊢;simpa using hx)
 .refine⟨by unfold InI;omega,⟨by omega,by omega,by omega,fun s hm=>by have:=hs s hm;omega,fun _ hx=> ?_⟩,by omega⟩;rw[show (i+1 - 1).toNat=i.toNat by omega,hy] at hx;cases hx;exact absurd rfl hf
theorem z4o{l:List Col}{now:Int}{K:List Int->Prop}(h: ∀b:List Int,b.length=10000->K b):q3f l now K:=by
 unfold q3f;refine⟨⟨by decide,Int.le_refl _,by unfold Sml;decide⟩,Lp2.ind (fun (i:Int) (b:List Int)=>0<=i/\i<=10000/\b.length=10000) (fun (i:Int) _=>(10000 - i).toNat) ?_ ⟨by omega,by omega,by rw[List.length_replicate];decide⟩⟩;rintro i b ⟨i0,i1,hb⟩ _;refine Cnd.mk (fun hc=>⟨by omega,fun y hy=>⟨by unfold InI;omega,⟨by omega,by omega,by simpa using hb⟩,by omega⟩⟩) fun _=> ?_
 refine Lp2.ind (fun (i:Int) (b:List Int)=>0<=i/\i<=l.length/\b.length=10000) (fun (i:Int) _=>(l.length - i).toNat) ?_ ⟨by omega,by omega,hb⟩;rintro i b ⟨i0,i1,hb⟩ _;refine Cnd.mk (fun hc=>⟨by omega,fun y hy=> ?_⟩) fun _=>h b hb
 refine Lp2.ind (fun (j:Int) (b:List Int)=>0<=j/\b.length=10000) (fun (j:Int) _=>(10000 - j).toNat) ?_ ⟨by omega,hb⟩;rintro j b ⟨j0,hb⟩;refine⟨by omega,fun z hz=>Cnd.mk (fun hc=>⟨by omega,fun u hu=>⟨by omega,fun w hw=>⟨by omega,fun x hx=>⟨by unfold InI;omega,⟨by omega,by simpa using hb⟩,by omega⟩⟩⟩⟩) fun _=>⟨by unfold InI;omega,⟨by omega,by omega,hb⟩,by omega⟩⟩
theorem z6t{u:List Int}{now:Int}{K:List Spn->Prop}(hu:u.length<=10000)(h: ∀l,SpsS l->K l):z27 u now K:=by
 unfold z27 z9d;refine fun _=>⟨⟨by omega,Int.le_refl _,by unfold Sml;omega⟩,Lp2.ind (fun (i:Int) (b:List Bool)=>0<=i/\i<=u.length/\b.length=u.length) (fun (i:Int) _=>(u.length - i).toNat) ?_ ⟨by omega,by omega,by simp⟩⟩
 rintro i b ⟨i0,i1,hb⟩ _;exact Cnd.mk (fun hc=>⟨by omega,fun y hy=>⟨by omega,fun z hz=>⟨by unfold InI;omega,⟨by omega,by omega,by simpa using hb⟩,by omega⟩⟩⟩) fun _=>q53 (by omega) h
theorem z0c{a b:List Spn}{K:List Spn->Prop}(h: ∀l,SpsS l->K l):z29 a b K:=by
 unfold z29 z9e;refine q4z fun x hx=>q4z fun y hy=>Lp2.ind (fun (i:Int) (b:List Bool)=>0<=i/\i<=10000/\b.length=10000) (fun (i:Int) _=>(10000 - i).toNat) ?_ ⟨by omega,by omega,hx⟩
 rintro i b ⟨i0,i1,hb⟩ _;exact Cnd.mk (fun hc=>⟨by omega,fun y hy=>Cnd.mk (fun _=>⟨by omega,fun _ _=>⟨by unfold InI;omega,⟨by omega,by omega,by simpa using hb⟩,by omega⟩⟩) fun _=>⟨by omega,fun _ _=>⟨by omega,fun _ _=>⟨by unfold InI;omega,⟨by omega,by omega,by simpa using hb⟩,by omega⟩⟩⟩⟩) fun _=>q53 (by omega) h
theorem j49{a b:List Spn}{K:List Spn->Prop}(h: ∀l,SpsS l->K l):q8q a b K:=by
 unfold q8q z9g;refine q4z fun x hx=>q4z fun y hy=>Lp2.ind (fun (i:Int) (b:List Bool)=>0<=i/\i<=10000/\b.length=10000) (fun (i:Int) _=>(10000 - i).toNat) ?_ ⟨by omega,by omega,hx⟩
 rintro i b ⟨i0,i1,hb⟩ _;exact Cnd.mk (fun hc=>⟨by omega,fun y hy=>Cnd.mk (fun _=>⟨by omega,fun _ _=>⟨by omega,fun _ _=>⟨by unfold InI;omega,⟨by omega,by omega,by simpa using hb⟩,by omega⟩⟩⟩) fun _=>⟨by omega,fun _ _=>⟨by unfold InI;omega,⟨by omega,by omega,by simpa using hb⟩,by omega⟩⟩⟩) fun _=>q53 (by omega) h
theorem w4b{a b:List Spn}{K:List Spn->Prop}(h: ∀l,SpsS l->K l):q97 a b K:=by
 unfold q97 z5t;refine q4z fun x hx=>q4z fun y hy=>Lp2.ind (fun (i:Int) (b:List Bool)=>0<=i/\i<=10000/\b.length=10000) (fun (i:Int) _=>(10000 - i).toNat) ?_ ⟨by omega,by omega,hx⟩
 rintro i b ⟨i0,i1,hb⟩ _;exact Cnd.mk (fun hc=>⟨by omega,fun y hy=>Cnd.mk (fun _=>⟨by omega,fun _ _=>⟨by omega,fun _ _=>⟨by unfold InI;omega,⟨by omega,by omega,by simpa using hb⟩,by omega⟩⟩⟩) fun _=>⟨by omega,fun _ _=>⟨by unfold InI;omega,⟨by omega,by omega,by simpa using hb⟩,by omega⟩⟩⟩) fun _=>q53 (by omega) h
theorem j5a{a:List Spn}{n:Int}{K:List Spn->Prop}(hn: -1000000<=n/\n<=1000000)(h: ∀l,SpsS l->K l):q8r a n K:=by
 unfold q8r z9h;refine q4z fun x hx=>Lp3.ind (fun (m i:Int) (b:List Bool)=>0<=i/\i<=10000/\b.length=10000/\ -1000000 - i<=m/\m<=1000000) (fun _ (i:Int) _=>(10000 - i).toNat) ?_ ⟨by omega,by omega,hx,by omega,by omega⟩
 rintro m i b ⟨i0,i1,hb,m0,m1⟩ _;refine Cnd.mk (fun hc=>⟨by omega,fun y hy=> ?_⟩) fun _=>q53 (by omega) h
 have step:(0<=i/\i<(b.length:Int))/\∀y5,b[i.toNat]? =some y5->Cnd (y5=true) (InI (m - 1)/\InI (i+1)/\((0<=i+1/\i+1<=10000/\b.length=10000/\ -1000000 - (i+1)<=m - 1/\m - 1<=1000000)/\(10000 - (i+1)).toNat<(10000 - i).toNat)) (InI (i+1)/\((0<=i+1/\i+1<=10000/\b.length=10000/\ -1000000 - (i+1)<=m/\m<=1000000)/\(10000 - (i+1)).toNat<(10000 - i).toNat)):=
  ⟨by omega,fun _ _=>Cnd.mk (fun _=>⟨by unfold InI;omega,by unfold InI;omega,by omega,by omega⟩) fun _=>⟨by unfold InI;omega,by omega,by omega⟩⟩
 exact Cnd.mk (fun _=>Cnd.mk (fun _=>⟨by omega,fun _ _=>⟨by unfold InI;omega,⟨by omega,by omega,by simpa using hb,by omega,by omega⟩,by omega⟩⟩) fun _=>step) fun _=>step
theorem y5y(n:Int):0<=IntKind.u8.wrap n/\IntKind.u8.wrap n<=255:=by have e:IntKind.u8.wrap n=n % 256:=rfl;rw[e];omega
theorem v34{s:BA}{K:Bool->Prop}(hs:s.size<=1000)(h: ∀r,K r):j08 s K:=by
 unfold j08;refine Lp1.ind (fun (i:Int)=>0<=i/\i<=s.size) (fun (i:Int)=>(s.size - i).toNat) ?_ ⟨by omega,by omega⟩;rintro i ⟨i0,i1⟩
 (repeat' (first|exact h _|assumption|(unfold InI;omega)|omega|refine Cnd.mk (fun _=> ?_) fun _=> ?_|refine⟨?_,?_⟩|intro _))
theorem v35{e:Ex}{K:Bool->Prop}(h: ∀r,K r):j1a e K:=by
 unfold j1a
 (repeat' (first|exact h _|assumption|(unfold InI;omega)|omega|refine Cnd.mk (fun _=> ?_) fun _=> ?_|refine⟨?_,?_⟩|intro _))
theorem w7e{e:Ex}{K:Bool->Prop}(h: ∀r:Bool,(r=true->9<=e.op->e.op<=11->e.values≠[])->K r):z3d e K:=by
 unfold z3d z9i;intro _ _;refine Jn2.mk (fun _ v=>v=true->9<=e.op->e.op<=11->e.values.length=1) ?_ fun k v hv=> ?_
 .refine Cnd.mk (fun _ _ _ _ _=>by omega) fun _=>Cnd.mk (fun _ _ _ _ _=>by omega) fun _=>Cnd.mk (fun _ _ _ _ _=>by omega) fun _=>Cnd.mk (fun _ _ _ _ _=>by omega) fun _=>q52 fun r hr=>Cnd.mk (fun _=>Cnd.mk (fun _ _ _ _=>by omega) fun _ _ hd _ _=>by have:=of_decide_eq_true hd;omega) fun hc _ h1 h2=>absurd (hr.2 ⟨by omega,by omega⟩) hc
 .have no:K false:=h _ fun h=>by cases h
  refine q52 fun r _=>Cnd.mk (fun _=>Cnd.mk (fun hv'=> ?_) fun _=>no) fun _=>no
  have yes: ∀r,K r:=fun r=>h r fun _ h1 h2 hn=>by have:=hv hv' h1 h2;rw[hn] at this;cases this
  (repeat' (first|exact yes _|exact no|assumption|(unfold InI;omega)|omega|refine Cnd.mk (fun _=> ?_) fun _=> ?_|refine⟨?_,?_⟩|intro _))
theorem w9x{v:Val}{K:Bool->Prop}(h: ∀r,K r):z7n v K:=by
 unfold z7n
 (repeat' (first|exact h _|assumption|(unfold InI;omega)|omega|refine Cnd.mk (fun _=> ?_) fun _=> ?_|refine⟨?_,?_⟩|intro _))
theorem j9b{l:List Rng}{n:Int}{K:Int->Prop}(h: ∀r,0<=r->r<=100->K r):z1n l n K:=by
 unfold z1n;intro _;refine Cnd.mk (fun _=>h _ (by omega) (by omega)) fun _=> ?_
 refine Lp2.ind (fun _ (i:Int)=>0<=i/\i<=l.length) (fun _ (i:Int)=>(l.length - i).toNat) ?_ ⟨by omega,by omega⟩;rintro a i ⟨i0,i1⟩
 (repeat' (first|exact h _ (by omega) (by omega)|assumption|(unfold InI;omega)|omega|refine Cnd.mk (fun _=> ?_) fun _=> ?_|refine⟨?_,?_⟩|intro _))
theorem w9y{l:List Spn}{K:Int->Prop}(h: ∀r,0<=r->r<=100->K r):z7t l K:=by
 unfold z7t;intro _;refine Cnd.mk (fun _=>h _ (by omega) (by omega)) fun _=> ?_
 refine Lp1.ind (fun (i:Int)=>0<=i/\i<=l.length) (fun (i:Int)=>(l.length - i).toNat) ?_ ⟨by omega,by omega⟩;rintro i ⟨i0,i1⟩
 (repeat' (first|exact h _ (by omega) (by omega)|assumption|(unfold InI;omega)|omega|refine Cnd.mk (fun _=> ?_) fun _=> ?_|refine⟨?_,?_⟩|intro _))
theorem w7f{α:Type}{l:List α}{f:α->BA}{K:List BA->Prop}(hl:l.length<=1000000)(h:K (l.map f)):
  Lp2 (fun (r:List BA) (i:Int) Y=>l.length<=9223372036854775807->Cnd (i<(l.length:Int)) ((0<=i/\i<(l.length:Int))/\∀y,l[i.toNat]? =some y->Sml (r++[f y]).length/\InI (i+1)/\Y (r++[f y]) (i+1)) (K r)) [] 0:=by
 refine Lp2.ind (fun (r:List BA) (i:Int)=>0<=i/\i<=l.length/\r=(l.take i.toNat).map f) (fun _ (i:Int)=>(l.length - i).toNat) ?_ ⟨Int.le_refl 0,by omega,by simp⟩;rintro r i ⟨i0,i1,rfl⟩ _;refine Cnd.mk (fun hc=>⟨by omega,fun y hy=>⟨by unfold Sml;simp;omega,by unfold InI;omega,⟨by omega,by omega,?_⟩,by omega⟩⟩) fun hc=> ?_
 .rw[show (i+1).toNat=i.toNat+1 by omega,List.take_add_one,hy];simp
 .rw[t99 (by omega)];exact h
theorem z99{l:List Seg}{K:List BA->Prop}(hl:l.length<=1000000)(h:K (l.map Seg.key)):z1s l K:=w7f hl h
theorem y1l{i:Nat}:(29:Int)*10 ^ (i+1)=10*(29*10 ^ i):=by rw[Int.pow_succ];omega
theorem j4e{s:BA}{K:Int->Int->Prop}(hs:s.size<=1000)(h: ∀n e,InI n->0<=e->e<=100->K n e):q1g s K:=by
 unfold q1g;refine Jn1.mk (fun d=>d.size<=1000) ?_ fun d hd=> ?_
 ·(repeat' (first|(show (s.extract _ _).size<=1000;rw[ByteArray.size_extract];omega)|assumption|(unfold InI;omega)|omega|refine Cnd.mk (fun _=> ?_) fun _=> ?_|refine⟨?_,?_⟩|intro _))
 refine Lp1.ind (fun (i:Int)=>0<=i/\i<=d.size) (fun (i:Int)=>(d.size - i).toNat) ?_ ⟨by omega,by omega⟩;rintro i ⟨i0,i1⟩;have fin:d.size<=13->Lp2 (fun (Qy Vz:Int) v4t=>Cnd (Vz<(↑d.size:Int)) (InI ((10:Int)*Qy)/\((0:Int)<=Vz/\Vz<(↑d.size:Int))/\∀b5,d[Vz.toNat]? =some b5->InI (IntKind.u8.wrap ((↑b5.toNat:Int) - (48:Int)))/\InI ((10:Int)*Qy+IntKind.u8.wrap ((↑b5.toNat:Int) - (48:Int)))/\InI (Vz+(1:Int))/\v4t ((10:Int)*Qy+IntKind.u8.wrap ((↑b5.toNat:Int) - (48:Int))) (Vz+(1:Int))) (Cnd ((1099511627776:Int)<Qy) (K (0:Int) (3:Int)) (Cnd ((↑d.size:Int)<(↑s.size:Int)) (InI ((0:Int) - Qy)/\K ((0:Int) - Qy) (0:Int)) (K Qy (0:Int))))) (0:Int) (0:Int):=fun h13=>by
  refine Lp2.ind (fun (n j:Int)=>0<=j/\j<=d.size/\0<=n/\n+29<=29*10 ^ j.toNat) (fun _ (j:Int)=>(d.size - j).toNat) ?_ ⟨by omega,by omega,by omega,by simp⟩;rintro n j ⟨j0,j1,n0,n1⟩;have hp:(10:Int) ^ j.toNat<=10 ^ 13:=by
   have:=Nat.pow_le_pow_right (n:=10) (by decide) (show j.toNat<=13 by omega)
   exact_mod_cast this
  refine Cnd.mk (fun hc=>⟨by unfold InI;omega,by omega,fun b _=> ?_⟩) fun hc=> ?_
  .obtain⟨w0,w1⟩:=y5y ((b.toNat:Int) - 48);refine⟨by unfold InI;omega,by unfold InI;omega,by unfold InI;omega,⟨by omega,by omega,by omega,?_⟩,by omega⟩;rw[show (j+1).toNat=j.toNat+1 by omega,y1l];omega
  .exact Cnd.mk (fun _=>h _ _ (by unfold InI;omega) (by omega) (by omega)) fun _=>Cnd.mk (fun _=>⟨by unfold InI;omega,h _ _ (by unfold InI;omega) (by omega) (by omega)⟩) fun _=>h _ _ (by unfold InI;omega) (by omega) (by omega)
 have k1:=h 0 1 (by unfold InI;omega) (by omega) (by omega);have k3:=h 0 3 (by unfold InI;omega) (by omega) (by omega);refine Cnd.mk (fun hc=>⟨by omega,fun b hb=>Cnd.mk (fun _=>k1) fun _=>⟨by omega,fun b' hb'=>Cnd.mk (fun _=>k1) fun _=>⟨by unfold InI;omega,by omega,by omega⟩⟩⟩) fun _=> ?_
 refine Cnd.mk (fun _=>k1) fun he=>⟨⟨by omega,?_⟩,fun b hb=>Cnd.mk (fun _=>Cnd.mk (fun _=>Cnd.mk (fun _=>k3) fun _=>fin (by omega)) fun _=>k1) fun _=>Cnd.mk (fun _=>k3) fun _=>fin (by omega)⟩
 refine Int.not_le.1 fun hn=>he ?_
 have:d.size=0:=by omega
 exact ByteArray.ext (Array.eq_empty_of_size_eq_zero this)
theorem v36{t:Int}{e:Ex}{K:Bool->Prop}(h: ∀r,K r):q8x t e K:=by
 unfold q8x;refine Cnd.mk (fun _=>h _) fun _=>Cnd.mk (fun _=> ?_) fun _ _=>Cnd.mk (fun _=>h _) fun _=>⟨by omega,fun y hy=>Cnd.mk (fun _=>h _) fun _=>Jn1.mk (fun _=>True) ?_ fun x _=> ?_⟩
 .refine Lp1.ind (fun (i:Int)=>0<=i/\i<=e.values.length) (fun (i:Int)=>(e.values.length - i).toNat) ?_ ⟨by omega,by omega⟩;rintro i ⟨i0,i1⟩
  (repeat' (first|exact h _|assumption|(unfold InI;omega)|omega|refine Cnd.mk (fun _=> ?_) fun _=> ?_|refine⟨?_,?_⟩|intro _))
 ·(repeat' (first|exact trivial|assumption|(unfold InI;omega)|omega|refine Cnd.mk (fun _=> ?_) fun _=> ?_|refine⟨?_,?_⟩|intro _))
 ·(repeat' (first|exact h _|assumption|(unfold InI;omega)|omega|refine Cnd.mk (fun _=> ?_) fun _=> ?_|refine⟨?_,?_⟩|intro _))
theorem j9c{v:Envt}{K:List BA->Prop}(hl:v.flags.length<=1000000)(h:K (v.flags.map Flg.key)):z0w v K:=w7f hl h
def z36(f:Flg):List Edg:=f.needs.map fun q=>Edg.mk f.key q.flag
theorem j52{v:Envt}{K:List Edg->Prop}(hl:v.flags.length<=1000)(hn: ∀f∈v.flags,f.needs.length<=1000)(h:K (v.flags.flatMap z36)):q3p v K:=by
 unfold q3p;have hb: ∀l:List Flg,(∀f∈l,f.needs.length<=1000)->(l.flatMap z36).length<=1000*l.length:=by
  intro l
  induction l with
  |nil=>simp
  |cons f l ih=>intro hf;have h1:=hf f (by simp);have h2:=ih fun g hg=>hf g (by simp[hg]);simp only[List.flatMap_cons,List.length_append,z36,List.length_map,List.length_cons] at*;omega
 refine Lp2.ind (fun (r:List Edg) (i:Int)=>0<=i/\i<=v.flags.length/\r=(v.flags.take i.toNat).flatMap z36) (fun _ (i:Int)=>(v.flags.length - i).toNat) ?_ ⟨Int.le_refl 0,by omega,by simp⟩;rintro r i ⟨i0,i1,rfl⟩ _;refine Cnd.mk (fun hc=> ?_) fun hc=> ?_
 .obtain⟨f,hf⟩: ∃f,v.flags[i.toNat]? =some f:=⟨_,List.getElem?_eq_getElem (by omega)⟩;have hfn:=hn f (getm hf);have hbt:=hb (v.flags.take i.toNat) fun g hg=>hn g (List.mem_of_mem_take hg)
  rw[List.length_take] at hbt;refine Lp2.ind (fun (r:List Edg) (j:Int)=>0<=j/\j<=f.needs.length/\r=(v.flags.take i.toNat).flatMap z36++(f.needs.take j.toNat).map fun q=>Edg.mk f.key q.flag) (fun _ (j:Int)=>(f.needs.length - j).toNat) ?_ ⟨by omega,by omega,by simp⟩;rintro r j ⟨j0,j1,rfl⟩;refine⟨by omega,fun g hg=> ?_⟩;rw[hf] at hg;cases hg;refine fun _=>Cnd.mk (fun hc=>⟨by omega,fun g hg=> ?_⟩) fun hc=>⟨by unfold InI;omega,⟨by omega,by omega,?_⟩,by omega⟩
  .rw[hf] at hg;cases hg;refine⟨by omega,fun g hg=> ?_⟩;rw[hf] at hg;cases hg;refine⟨by omega,fun q hq=>⟨?_,by unfold InI;omega,⟨by omega,by omega,?_⟩,by omega⟩⟩
   .unfold Sml;simp only[List.length_append,List.length_map,List.length_take,List.length_cons,List.length_nil];omega
   .rw[show (j+1).toNat=j.toNat+1 by omega,List.take_add_one,hq];simp
  .rw[t99 (show f.needs.length<=j.toNat by omega),show (i+1).toNat=i.toNat+1 by omega,List.take_add_one,hf];simp[z36]
 .rw[t99 (by omega)];exact h
end Go.En
end
noncomputable section
namespace Go.Sg
open Go
abbrev bts(s:BA):List UInt8:=s.data.toList
theorem j0a(s:BA):(bts s).length=s.size:=rfl
theorem j9d{s:BA}{i:Nat}{b:UInt8}:s[i]? =some b↔(bts s)[i]? =some b:=by
 rw[show s[i]? =s.data[i]? from by
  by_cases h:i<s.size
  .rw[getElem?_pos s i h,getElem?_pos s.data i h];rfl
  .rw[getElem?_neg s i h,getElem?_neg s.data i h]]
 rw[Array.getElem?_toList]
theorem get!_of{s:BA}{i:Nat}(h:i<s.size):(bts s)[i]? =some (s.get! i):=by have h':i<s.data.size:=h;show s.data.toList[i]? =some (s.data[i]!);rw[Array.getElem?_toList,Array.getElem?_eq_getElem h',getElem!_pos s.data i h']
theorem v10{s:BA}{i:Nat}(h:(s.get! i).toNat<128):Utf8.decode s i=((s.get! i).toNat,1):=by unfold Utf8.decode;simp only[Nat.add_zero];rw[if_pos h]
theorem v11{s:BA}{i:Nat}(h:128<=(s.get! i).toNat):128<=(Utf8.decode s i).1/\1<=(Utf8.decode s i).2/\∀k,k<(Utf8.decode s i).2->128<=(s.get! (i+k)).toNat:=by
 have k1: ∀k,k<1->128<=(s.get! (i+k)).toNat:=fun k hk=>by rw[show k=0 by omega];exact h
 have bad:128<=(Utf8.runeError,1).1/\1<=(Utf8.runeError,1).2/\∀k,k<(Utf8.runeError,1).2->128<=(s.get! (i+k)).toNat:=⟨by decide,by decide,k1⟩;unfold Utf8.decode;simp only[Nat.add_zero];rw[if_neg (by omega)];split
 .rename_i hc;simp only[Bool.and_eq_true,beq_iff_eq,decide_eq_true_eq] at hc;split
  .rename_i h2;refine⟨h2,by simp,fun k hk=> ?_⟩;have:k=0\/k=1:=by simp only at hk;omega
   rcases this with rfl|rfl
   .exact h
   .omega
  .exact bad
 .split
  .rename_i _ hc;simp only[Bool.and_eq_true,beq_iff_eq,decide_eq_true_eq] at hc;split
   .rename_i h2;simp only[Bool.and_eq_true,decide_eq_true_eq] at h2;refine⟨by simp only;omega,by simp,fun k hk=> ?_⟩;have:k=0\/k=1\/k=2:=by simp only at hk;omega
    rcases this with rfl|rfl|rfl
    .exact h
    .omega
    .omega
   .exact bad
  .split
   .rename_i _ _ hc;simp only[Bool.and_eq_true,beq_iff_eq,decide_eq_true_eq] at hc;split
    .rename_i h2;simp only[Bool.and_eq_true,decide_eq_true_eq] at h2;refine⟨by simp only;omega,by simp,fun k hk=> ?_⟩;have:k=0\/k=1\/k=2\/k=3:=by simp only at hk;omega
     rcases this with rfl|rfl|rfl|rfl
     .exact h
     .omega
     .omega
     .omega
    .exact bad
   .exact bad
structure RuneP(p:Nat->Prop):Prop where
 hi: ∀n,128<=n->(p n↔p 128)
def Clr(p:Nat->Prop)(s:BA)(k:Nat):Prop:= ∀i,i<k->i<s.size-> ¬p (s.get! i).toNat
theorem Clr.zero{p:Nat->Prop}{s:BA}:Clr p s 0:=fun _ h=>absurd h (Nat.not_lt_zero _)
theorem v77(s:BA)(k:Nat):1<=(Utf8.decode s k).2:=by
 rcases Nat.lt_or_ge (s.get! k).toNat 128 with h|h
 .rw[v10 h];exact Nat.le_refl 1
 .exact (v11 h).2.1
theorem Clr.step{p:Nat->Prop}(hp:RuneP p){s:BA}{k:Nat}(h:Clr p s k)(hk: ¬p (Utf8.decode s k).1):Clr p s (k+(Utf8.decode s k).2):=by
 intro i hi hs;rcases Nat.lt_or_ge i k with h1|h1
 .exact h i h1 hs
 rcases Nat.lt_or_ge (s.get! k).toNat 128 with h2|h2
 .rw[v10 h2] at hk hi;simp only at hk hi;rw[show i=k by omega];exact hk
 .obtain⟨a,_,c⟩:=v11 h2;have:=c (i - k) (by omega);rw[show k+(i - k)=i by omega] at this;rw[hp.hi _ this,<-hp.hi _ a];exact hk
theorem j6w{p:Nat->Prop}(hp:RuneP p){s:BA}{k:Nat}(hk:p (Utf8.decode s k).1):p (s.get! k).toNat:=by
 rcases Nat.lt_or_ge (s.get! k).toNat 128 with h2|h2
 .rw[v10 h2] at hk;exact hk
 .rw[hp.hi _ h2,<-hp.hi _ (v11 h2).1];exact hk
theorem Clr.all{p:Nat->Prop}{s:BA}{k:Nat}(h:Clr p s k)(hk:s.size<=k): ∀c∈bts s,¬p c.toNat:=by intro c hc;obtain⟨i,hi⟩:=List.mem_iff_getElem?.1 hc;have hl:i<s.size:=(List.getElem?_eq_some_iff.1 hi).1;have:=get!_of hl;rw[hi] at this;cases this;exact h i (by omega) hl
theorem w4c{s:BA}{k:Nat}(h:k<s.size):s.get! k∈bts s:=List.mem_of_getElem? (get!_of h)
def good(c:UInt8):Bool:=decide (32<=c.toNat) && decide (c.toNat≠127)
def vld(s:BA):Bool:=decide (s.size<=200) && Go.Lib.validD (bts s) && (bts s).all good
def isD(c:UInt8):Bool:=decide (48<=c.toNat) && decide (c.toNat<=57)
def w4d(n:Nat)(c:UInt8):Nat:=10*n+(c.toNat - 48)
def valD(n:Nat)(l:List UInt8):Nat:=l.foldl w4d n
def digs(s:BA):BA:=if s[0]? =some 45 then s.extract 1 s.size else s
def pnum(s:BA):Int×Int:=
 if (bts (digs s)).all isD=false then (0,1)
 else if (digs s).size=0\/((digs s)[0]? =some 48/\s≠ByteArray.mk (Array.mk [48])) then (0,1)
 else if 1099511627776<valD 0 (bts (digs s)) then (0,3)
 else (if (digs s).size<s.size then -(valD 0 (bts (digs s)):Int) else valD 0 (bts (digs s)),0)
theorem v13(n:Nat):valD n []=n:=rfl
theorem w7g(n:Nat)(c:UInt8)(l:List UInt8):valD n (c::l)=valD (w4d n c) l:=List.foldl_cons ..
theorem v78: ∀(l:List UInt8) (n:Nat),n*10 ^ l.length<=valD n l
 |[],n=>by simp[valD]
 |c::l,n=>by rw[w7g,List.length_cons];refine Nat.le_trans ?_ (v78 l (w4d n c));rw[Nat.pow_succ,Nat.mul_comm (10 ^ l.length) 10,<-Nat.mul_assoc];exact Nat.mul_le_mul_right _ (by unfold w4d;omega)
theorem v79: ∀(l:List UInt8) (n:Nat),n<=valD n l:=fun l n=>Nat.le_trans (by
 have:0<10 ^ l.length:=Nat.pow_pos (by decide)
 exact Nat.le_mul_of_pos_right n this) (v78 l n)
theorem j5b: ∀(l:List UInt8) (n:Nat),l.all isD=true->Go.Lib.parseUint10 n l=(if valD n l<18446744073709551616/\n<18446744073709551616 then .ok (valD n l) else if l=[] then .ok n else .range)
 |[],n,_=>by unfold Go.Lib.parseUint10;rw[v13];split<;>simp
 |c::l,n,h=>by
  simp only[List.all_cons,Bool.and_eq_true] at h;have h1:=h.1;simp only[isD,Bool.and_eq_true,decide_eq_true_eq] at h1;have ih:=j5b l (w4d n c) h.2;have hs:=v79 l (w4d n c);have es:w4d n c=10*n+(c.toNat - 48):=rfl;have e:n*10+(c.toNat - 48)=w4d n c:=by omega
  have hne: ¬(c::l=[]):=by simp
  unfold Go.Lib.parseUint10;rw[if_pos h1,w7g,e,if_neg hne];generalize w4d n c=m at ih hs es e⊢;by_cases h2:1844674407370955162<=n
  .rw[if_pos h2,if_neg (by omega)]
  .rw[if_neg h2];by_cases h3:18446744073709551616<=m
   .rw[if_pos h3,if_neg (by omega)]
   .rw[if_neg h3,ih];by_cases h4:valD m l<18446744073709551616
    .rw[if_pos ⟨h4,by omega⟩,if_pos ⟨h4,by omega⟩]
    .have: ¬l=[]:=by rintro rfl;rw[v13] at h4;omega
     rw[if_neg (by omega),if_neg this,if_neg (by omega)]
theorem w7h{l:List UInt8}(h:l.all isD=true)(hn:l≠[]):Go.Lib.parseMag l=(if valD 0 l<18446744073709551616 then .ok (valD 0 l) else .range):=by
 unfold Go.Lib.parseMag;rw[if_neg hn,j5b l 0 h];by_cases h4:valD 0 l<18446744073709551616
 .rw[if_pos ⟨h4,by omega⟩,if_pos h4]
 .rw[if_neg (by omega),if_neg h4,if_neg hn]
theorem v14{s:BA}{k:Nat}:bts (s.extract k s.size)=(bts s).drop k:=by show (s.extract k s.size).data.toList=_;rw[ByteArray.data_extract,Array.toList_extract,List.extract_eq_take_drop,t99];rw[List.length_drop];exact Nat.le_refl _
theorem j4f{s:BA}(h:s[0]? =some 45):bts s=45::bts (digs s)/\(digs s).size+1=s.size:=by
 have h0:0<s.size:=by rw[j9d] at h;exact (List.getElem?_eq_some_iff.1 h).1
 have e:bts (digs s)=(bts s).drop 1:=by unfold digs;rw[if_pos h,v14]
 rw[j9d] at h;refine⟨?_,?_⟩
 .rw[e];cases hb:bts s with
  |nil=>rw[hb] at h;simp at h
  |cons c l=>rw[hb] at h;simp at h;simp[h]
 .rw[<-j0a,e,List.length_drop,j0a];omega
theorem z6u{s:BA}(h: ¬s[0]? =some 45):digs s=s:=by unfold digs;rw[if_neg h]
theorem w9z{s:BA}(h:(bts (digs s)).all isD=true)(hn:(digs s).size≠0):Go.Lib.atoiAll (bts s)=(if valD 0 (bts (digs s))<=(if s[0]? =some 45 then 9223372036854775808 else 9223372036854775807) then .ok (if s[0]? =some 45 then -(valD 0 (bts (digs s)):Int) else valD 0 (bts (digs s))) else .range):=by
 have hne:bts (digs s)≠[]:=fun e=>hn (by rw[<-j0a,e];rfl)
 by_cases hm:s[0]? =some 45
 .obtain⟨e,_⟩:=j4f hm;rw[if_pos hm,if_pos hm,e];unfold Go.Lib.atoiAll;simp only[show (45:UInt8).toNat=45 from rfl,or_true,if_true];rw[w7h h hne];generalize valD 0 (bts (digs s))=v;by_cases h1:v<18446744073709551616
  .rw[if_pos h1];by_cases h2:v<=9223372036854775808
   .rw[if_pos h2];simp only[not_true,false_and,if_false,true_and];rw[if_neg (by omega)]
   .rw[if_neg h2];simp only[not_true,false_and,if_false,true_and];rw[if_pos (by omega)]
  .rw[if_neg h1,if_neg (by omega)]
 .rw[if_neg hm,if_neg hm];rw[z6u hm] at h hne⊢;have hp:=w7h h hne;generalize valD 0 (bts s)=v at hp⊢;cases hb:bts s with
  |nil=>exact absurd hb hne
  |cons c l=>
   have hc':isD c=true:=by rw[hb] at h;simp only[List.all_cons,Bool.and_eq_true] at h;exact h.1
   simp only[isD,Bool.and_eq_true,decide_eq_true_eq] at hc';unfold Go.Lib.atoiAll;simp only[];rw[if_neg (show ¬(c.toNat=43\/c.toNat=45) by omega),<-hb,hp];by_cases h1:v<18446744073709551616
   .rw[if_pos h1];simp only[];by_cases h2:v<=9223372036854775807
    .rw[if_pos h2,if_neg (by omega),if_neg (by omega),if_neg (by omega)]
    .rw[if_neg h2,if_pos (by omega)]
   .rw[if_neg h1,if_neg (by omega)]
def dot(s:BA)(k:Nat):Nat:=k+((bts s).drop k).idxOf 46
theorem y3f{s:BA}{k:Nat}:k<=dot s k:=Nat.le_add_right _ _
theorem y8l{s:BA}{k:Nat}(h:k<=s.size):dot s k<=s.size:=by have:=List.idxOf_le_length (a:=(46:UInt8)) (l:=(bts s).drop k);rw[List.length_drop,j0a] at this;unfold dot;omega
def okp(p:Int×Int):Bool:=decide (p.2=0) && decide (0<=p.1) && decide (p.1<=999999)
def q7k(s:BA)(k:Nat):Int×Int:=pnum (s.extract k (dot s k))
def w90(s:BA):Prop:=(dot s 0<s.size/\okp (q7k s 0)=true)/\(dot s (dot s 0+1)<s.size/\okp (q7k s (dot s 0+1))=true)/\ ¬dot s (dot s (dot s 0+1)+1)<s.size/\okp (q7k s (dot s (dot s 0+1)+1))=true
instance (s:BA):Decidable (w90 s):=by unfold w90;infer_instance
def prt(s:BA):(Int×Int×Int)×Bool:=
 if w90 s then (((q7k s 0).1,(q7k s (dot s 0+1)).1,(q7k s (dot s (dot s 0+1)+1)).1),true) else ((0,0,0),false)
theorem y8m{s:BA}(h: ¬w90 s):prt s=((0,0,0),false):=if_neg h
theorem y5z{s:BA}(h:w90 s):prt s=(((q7k s 0).1,(q7k s (dot s 0+1)).1,(q7k s (dot s (dot s 0+1)+1)).1),true):=if_pos h
abbrev dotB:BA:=ByteArray.mk (Array.mk [46])
theorem w7i: ∀l:List UInt8,Go.Lib.index l [46]=if l.idxOf 46<l.length then ((l.idxOf 46:Nat):Int) else -1
 |[]=>rfl
 |b::l=>by
  have ih:=w7i l;unfold Go.Lib.index;by_cases hb:b=46
  .subst hb;rw[if_pos (by simp[List.isPrefixOf]),List.idxOf_cons_self,if_pos (by simp)];rfl
  .have hx:(b::l).idxOf 46=l.idxOf 46+1:=by rw[List.idxOf_cons,show (b==(46:UInt8))=false by simpa using hb];rfl
   rw[if_neg (by simp[List.isPrefixOf,Ne.symm hb]),hx,ih,List.length_cons];by_cases h:l.idxOf 46<l.length
   .simp only[if_pos h];rw[if_neg (by simp only[beq_iff_eq];omega),if_pos (by omega)]
    push_cast;rfl
   .simp only[if_neg h];rw[if_pos (by decide),if_neg (by omega)]
theorem v8a{s:BA}{k:Nat}:(s.extract k s.size).size=s.size - k:=by rw[ByteArray.size_extract];omega
theorem j9e{s:BA}{k:Nat}(hk:k<=s.size):Go.Lib.indexB (s.extract k s.size) dotB=if dot s k<s.size then ((dot s k - k:Nat):Int) else -1:=by
 show Go.Lib.index (bts (s.extract k s.size)) [46]=_;rw[v14,w7i,List.length_drop,j0a];have e:dot s k - k=((bts s).drop k).idxOf 46:=by unfold dot;omega
 rw[e];have hg:=y3f (s:=s) (k:=k);by_cases h:dot s k<s.size
 .rw[if_pos h,if_pos (by omega)]
 .rw[if_neg h,if_neg (by omega)]
def pc(s:BA)(k:Nat):List BA:=Go.Lib.splitB dotB 0 (Go.Lib.countB (s.extract k s.size) dotB) (s.extract k s.size)
theorem ext2{s:BA}{k i:Nat}(h:k+i<=s.size):(s.extract k s.size).extract 0 i=s.extract k (k+i):=by apply ByteArray.ext;have:s.data.size=s.size:=rfl;simp only[ByteArray.data_extract,Array.extract_extract];congr 1;omega
theorem ext3{s:BA}{k i:Nat}:(s.extract k s.size).extract i (s.extract k s.size).size=s.extract (k+i) s.size:=by apply ByteArray.ext;rw[v8a];have:s.data.size=s.size:=rfl;simp only[ByteArray.data_extract,Array.extract_extract];congr 1;omega
theorem j9f{s:BA}{k:Nat}(hk:k<=s.size)(h: ¬dot s k<s.size):pc s k=[s.extract k s.size]:=by unfold pc;exact Go.Lib.splitB_miss _ _ _ _ (by rw[j9e hk,if_neg h])
theorem w1w{s:BA}{k:Nat}(hk:k<=s.size)(h:dot s k<s.size):pc s k=s.extract k (dot s k)::pc s (dot s k+1):=by have hi:=j9e hk;rw[if_pos h] at hi;have hg:=y3f (s:=s) (k:=k);unfold pc;rw[Go.Lib.countB_hit _ dotB _ (by decide) hi,Nat.add_comm,Go.Lib.splitB_hit _ _ _ _ _ hi];have e1:dotB.size=1:=rfl;rw[Nat.add_zero,e1,ext2 (by omega),ext3,show k+(dot s k - k)=dot s k by omega,show k+(dot s k - k+1)=dot s k+1 by omega]
theorem y8n{s:BA}{k:Nat}(hk:k<=s.size):0<(pc s k).length:=by
 by_cases h:dot s k<s.size
 .rw[w1w hk h];simp
 .rw[j9f hk h];simp
theorem w7j{s:BA}:Go.En.q14 s dotB=pc s 0:=by
 unfold Go.En.q14 pc;have e:s.extract 0 s.size=s:=by simp
 rw[e]
theorem j9g{s:BA}:(Go.En.q14 s dotB).length=3↔dot s 0<s.size/\dot s (dot s 0+1)<s.size/\ ¬dot s (dot s (dot s 0+1)+1)<s.size:=by
 rw[w7j];by_cases h0:dot s 0<s.size
 .rw[w1w (by omega) h0];by_cases h1:dot s (dot s 0+1)<s.size
  .rw[w1w (by omega) h1];by_cases h2:dot s (dot s (dot s 0+1)+1)<s.size
   .have:=y8n (s:=s) (k:=dot s (dot s (dot s 0+1)+1)+1) (by omega);rw[w1w (by omega) h2];simp only[List.length_cons];exact⟨fun e=>by omega,fun e=>absurd h2 e.2.2⟩
   .rw[j9f (by omega) h2];simp[h0,h1,h2]
  .rw[j9f (by omega) h1];simp[h1]
 .rw[j9f (by omega) h0];simp[h0]
theorem w91{s:BA}(h:dot s 0<s.size/\dot s (dot s 0+1)<s.size/\ ¬dot s (dot s (dot s 0+1)+1)<s.size):Go.En.q14 s dotB=[s.extract 0 (dot s 0),s.extract (dot s 0+1) (dot s (dot s 0+1)),s.extract (dot s (dot s 0+1)+1) (dot s (dot s (dot s 0+1)+1))]:=by obtain⟨h0,h1,h2⟩:=h;rw[w7j,w1w (by omega) h0,w1w (by omega) h1,j9f (by omega) h2];have:=y8l (s:=s) (k:=dot s (dot s 0+1)+1) (by omega);rw[show dot s (dot s (dot s 0+1)+1)=s.size by omega]
end Go.Sg
end
noncomputable section
namespace Go.En
open Go Go.Fl Go.Fl.Lk Go.Fx Go.Sg
theorem y50{s:BA}:s=ByteArray.mk (Array.mk [])↔s.size=0:=by
 constructor
 .rintro rfl;rfl
 .intro h;exact ByteArray.ext (Array.eq_empty_of_size_eq_zero h)
theorem y51{s:BA}{K:Bool->Prop}(hs:s.size<=1000)(h:K (Go.Lib.validD (bts s))):Uu s K:=⟨by omega,h⟩
theorem badP:RuneP fun n=>n<32\/n=127:=⟨fun n h=>by omega⟩
theorem v15{s:BA}(h:200<s.size\/Go.Lib.validD (bts s)=false\/ ∃c∈bts s,c.toNat<32\/c.toNat=127):vld s=false:=by
 unfold vld;rcases h with h|h|⟨c,hc,h⟩
 .rw[decide_eq_false (by omega)];rfl
 .rw[h];simp
 .have:(bts s).all good=false:=by rw[List.all_eq_false];refine⟨c,hc,?_⟩;unfold good;simp only[Bool.and_eq_true,decide_eq_true_eq];omega
  rw[this];simp
theorem y52{s:BA}(h1: ¬200<s.size)(h2:Go.Lib.validD (bts s)=true)(h3: ∀c∈bts s,¬(c.toNat<32\/c.toNat=127)):vld s=true:=by unfold vld;rw[h2,decide_eq_true (show s.size<=200 by omega)];simp only[Bool.and_true,Bool.true_and,List.all_eq_true];intro c hc;have:=h3 c hc;unfold good;simp only[Bool.and_eq_true,decide_eq_true_eq];omega
theorem digP:RuneP fun n=>n<48\/57<n:=⟨fun n h=>by omega⟩
theorem v8b{l:List UInt8}:l.all isD=true↔ ∀c∈l,¬(c.toNat<48\/57<c.toNat):=by
 rw[List.all_eq_true];constructor
 .intro h c hc;have:=h c hc;simp only[isD,Bool.and_eq_true,decide_eq_true_eq] at this;omega
 .intro h c hc;have:=h c hc;simp only[isD,Bool.and_eq_true,decide_eq_true_eq];omega
theorem j9h{l:List UInt8}{c:UInt8}(hc:c∈l)(h:c.toNat<48\/57<c.toNat):l.all isD=false:=by rw[Bool.eq_false_iff];intro e;exact v8b.1 e c hc h
theorem take_snoc{l:List UInt8}{i:Nat}{b:UInt8}(h:l[i]? =some b):l.take (i+1)=l.take i++[b]:=by rw[List.take_add_one,h];rfl
theorem w4e{s:BA}(h:(bts (digs s)).all isD=false):pnum s=(0,1):=by unfold pnum;rw[if_pos h]
theorem w7k{s:BA}(h:(bts (digs s)).all isD=true)(h0:(digs s).size=0\/((digs s)[0]? =some 48/\s≠ByteArray.mk (Array.mk [48]))):pnum s=(0,1):=by unfold pnum;rw[if_neg (by simp[h]),if_pos h0]
theorem y1m{s:BA}(h:(bts (digs s)).all isD=true)(h0: ¬((digs s).size=0\/((digs s)[0]? =some 48/\s≠ByteArray.mk (Array.mk [48]))))(h1:1099511627776<valD 0 (bts (digs s))):pnum s=(0,3):=by unfold pnum;rw[if_neg (by simp[h]),if_neg h0,if_pos h1]
theorem y1n{s:BA}(h:(bts (digs s)).all isD=true)(h0: ¬((digs s).size=0\/((digs s)[0]? =some 48/\s≠ByteArray.mk (Array.mk [48]))))(h1: ¬1099511627776<valD 0 (bts (digs s))):pnum s=(if (digs s).size<s.size then -(valD 0 (bts (digs s)):Int) else valD 0 (bts (digs s)),0):=by unfold pnum;rw[if_neg (by simp[h]),if_neg h0,if_neg h1]
theorem j2g{p:Int×Int}(h: ¬p.2=0\/p.1<0\/999999<p.1):okp p=false:=by unfold okp;rw[Bool.eq_false_iff];simp only[ne_eq,Bool.and_eq_true,decide_eq_true_eq];omega
theorem w92{p:Int×Int}(h0:p.2=0)(h1: ¬p.1<0)(h2: ¬999999<p.1):okp p=true:=by unfold okp;simp only[Bool.and_eq_true,decide_eq_true_eq];omega
end Go.En
end
noncomputable section
namespace Go.En
open Go Go.Fl Go.Fl.Lk Go.Fx Go.Sg
theorem Cnd.ite{α:Type}{c:Prop}[Decidable c]{A B:α}{K:α->Prop}(h:K (if c then A else B)){X Y:Prop}(hx:c->K A->X)(hy: ¬c->K B->Y):Cnd c X Y:=⟨fun hc=>hx hc (by rwa [if_pos hc] at h),fun hc=>hy hc (by rwa [if_neg hc] at h)⟩
theorem q7l{s:BA}{K:Bool->Prop}(h:K (vld s)):V8 s K:=by
 unfold V8 z5b;refine Cnd.mk (fun h1=>by rwa [v15 (.inl (by omega))] at h) fun h1=>y51 (by omega) (Cnd.mk (fun h2=> ?_) fun h2=>by rwa [v15 (.inr (.inl (by simpa using h2)))] at h)
 refine Lp1.ind (fun (x:BA×Nat)=>x.1=s/\Clr (fun n=>n<32\/n=127) s x.2) (fun x=>s.size - x.2) ?_ ⟨rfl,Clr.zero⟩;rintro⟨s',p⟩ ⟨rfl,hc⟩;dsimp only at hc⊢;refine Cnd.mk (fun h3=>Cnd.mk (fun h4=> ?_) fun h4=>Cnd.mk (fun h5=> ?_) fun h5=>⟨⟨rfl,hc.step badP (fun e=>by rcases e with e|e<;>omega)⟩,by have:=v77 s' p;omega⟩) fun h3=>by rwa [y52 (by omega) h2 (hc.all (by omega))] at h
 .rwa [v15 (.inr (.inr ⟨_,w4c h3,j6w badP (.inl (by omega))⟩))] at h
 .rwa [v15 (.inr (.inr ⟨_,w4c h3,j6w badP (.inr (by omega))⟩))] at h
theorem v8c{s t:BA}:bts s=bts t↔s=t:=⟨fun h=>v02 h,fun h=>by rw[h]⟩
theorem w7l{s:BA}{i n:Nat}:bts (s.extract i (i+n))=((bts s).drop i).take n:=by show (s.extract i (i+n)).data.toList=_;rw[ByteArray.data_extract,Array.toList_extract,List.extract_eq_take_drop];rw[show i+n - i=n by omega]
theorem v8d{s:BA}{K:BA->Bool->Prop}(h:K (digs s) (decide (s[0]? =some 45))):Hn s (ByteArray.mk (Array.mk [45])) K:=by
 unfold Hn q1r Hm Hl Hk;have e1:(ByteArray.mk (Array.mk [45])).size=1:=rfl;rw[e1];refine Cnd.mk (fun h0=>⟨by omega,Cnd.mk (fun h1=>⟨by omega,?_⟩) fun h1=> ?_⟩) fun h0=>Cnd.mk (fun h1=>by cases h1) fun _=> ?_
 .have h1:=of_decide_eq_true h1;have hm:s[0]? =some 45:=by
   have h2:=congrArg bts h1;rw[show s.extract (Int.toNat 0) ((1:Nat):Int).toNat=s.extract 0 (0+1) from rfl,w7l] at h2;rw[j9d];have h3:((bts s).drop 0).take 1=[45]:=h2;rw[List.drop_zero] at h3;cases hb:bts s with
   |nil=>rw[hb] at h3;cases h3
   |cons c l=>rw[hb] at h3;simp at h3;rw[h3];rfl
  rw[decide_eq_true hm] at h;unfold digs at h;rw[if_pos hm] at h;exact h
 .have hm: ¬s[0]? =some 45:=by intro hm;refine h1 (decide_eq_true ?_);rw[<-v8c,show s.extract (Int.toNat 0) ((1:Nat):Int).toNat=s.extract 0 (0+1) from rfl,w7l,(j4f hm).1];rfl
  rw[decide_eq_false hm,z6u hm] at h;exact h
 .have hm: ¬s[0]? =some 45:=fun e=>by have:=(List.getElem?_eq_some_iff.1 (j9d.1 e)).1;rw[j0a] at this;omega
  rw[decide_eq_false hm,z6u hm] at h;exact h
theorem w7m{s:BA}(h:(digs s)[0]? =some 48)(hs:s≠ByteArray.mk (Array.mk [48])):pnum s=(0,1):=by
 cases ha:(bts (digs s)).all isD with
 |false=>exact w4e ha
 |true=>exact w7k ha (.inr ⟨h,hs⟩)
theorem q1z{s:BA}{K:Int->Int->Prop}(hs:s.size<=1000000000)(h:K (pnum s).1 (pnum s).2):Rw s K:=by
 unfold Rw q2s;refine v8d ?_;have fin: ¬((digs s).size=0\/((digs s)[0]? =some 48/\s≠ByteArray.mk (Array.mk [48])))->Lp1 (fun (Qo:BA×Nat) z2a=>Cnd (Qo.snd<Qo.fst.size) (Cnd (((Go.Utf8.decode Qo.fst Qo.snd).fst:Int)<48) (K 0 1) (Cnd (57<((Go.Utf8.decode Qo.fst Qo.snd).fst:Int)) (K 0 1) (z2a (Qo.fst,Qo.snd+(Go.Utf8.decode Qo.fst Qo.snd).snd)))) (q46 s fun Qy Vz=>Cnd ((match (Qy,Vz,()).snd.fst with|true=>false|false=>true)=true) (K 0 3) (Cnd (Qy< -1099511627776) (K 0 3) (Cnd (1099511627776<Qy) (K 0 3) (K Qy 0))))) (digs s,0):=fun hg=>by
  refine Lp1.ind (fun (x:BA×Nat)=>x.1=digs s/\Clr (fun n=>n<48\/57<n) (digs s) x.2) (fun x=>(digs s).size - x.2) ?_ ⟨rfl,Clr.zero⟩;rintro⟨d,p⟩ ⟨hd,hc⟩;dsimp only at hd hc⊢;subst hd;refine Cnd.mk (fun h3=>Cnd.mk (fun h4=> ?_) fun h4=>Cnd.mk (fun h5=> ?_) fun h5=>⟨⟨rfl,hc.step digP (fun e=>by rcases e with e|e<;>omega)⟩,by have:=v77 (digs s) p;omega⟩) fun h3=> ?_
  .rwa [w4e (j9h (w4c h3) (j6w digP (.inl (by omega))))] at h
  .rwa [w4e (j9h (w4c h3) (j6w digP (.inr (by omega))))] at h
  have hall:=v8b.2 (hc.all (by omega));refine⟨by omega,?_⟩;unfold y0z;rw[w9z hall fun e=>hg (.inl e)];have hsz:(digs s).size<s.size↔s[0]? =some 45:=by
   by_cases hm:s[0]? =some 45
   .have:=(j4f hm).2;exact⟨fun _=>hm,fun _=>by omega⟩
   .rw[z6u hm];exact⟨fun e=>by omega,fun e=>absurd e hm⟩
  by_cases hv:1099511627776<valD 0 (bts (digs s))
  .rw[y1m hall hg hv] at h;by_cases hl:valD 0 (bts (digs s))<=(if s[0]? =some 45 then 9223372036854775808 else 9223372036854775807)
   .rw[if_pos hl];dsimp only;by_cases hm:s[0]? =some 45
    .rw[if_pos hm];exact Cnd.mk (fun e=>by cases e) fun _=>Cnd.mk (fun _=>h) fun e=>by omega
    .rw[if_neg hm];exact Cnd.mk (fun e=>by cases e) fun _=>Cnd.mk (fun _=>h) fun _=>Cnd.mk (fun _=>h) fun e=>by omega
   .rw[if_neg hl];exact Cnd.mk (fun _=>h) fun e=>absurd rfl e
  .rw[y1n hall hg hv] at h;rw[if_pos (by split<;>omega)];dsimp only;by_cases hm:s[0]? =some 45
   .rw[if_pos hm];rw[if_pos (hsz.2 hm)] at h;exact Cnd.mk (fun e=>by cases e) fun _=>Cnd.mk (fun e=>by omega) fun _=>Cnd.mk (fun e=>by omega) fun _=>h
   .rw[if_neg hm];rw[if_neg (fun e=>hm (hsz.1 e))] at h;exact Cnd.mk (fun e=>by cases e) fun _=>Cnd.mk (fun e=>by omega) fun _=>Cnd.mk (fun e=>by omega) fun _=>h
 refine Cnd.mk (fun h0=> ?_) fun h0=>⟨⟨by omega,?_⟩,fun b hb=> ?_⟩
 .have hz:(digs s).size=0:=y50.1 h0;have ha:(bts (digs s)).all isD=true:=by have:bts (digs s)=[]:=List.length_eq_zero_iff.1 hz;rw[this];rfl
  rwa [w7k ha (.inl hz)] at h
 .refine Int.not_le.1 fun hn=>h0 (y50.2 (by omega))
 have hb:(digs s)[0]? =some b:=hb;have hne:(digs s).size≠0:=fun e=>h0 (y50.2 e)
 refine Cnd.mk (fun h1=> ?_) fun h1=>fin ?_
 .have hb48:b=48:=by rw[<-UInt8.toNat_inj];show b.toNat=48;omega
  subst hb48;refine Cnd.mk (fun h2=> ?_) fun h2=>Cnd.mk (fun h3=> ?_) fun h3=>fin ?_
  .rwa [w7m hb (by rintro rfl;revert h2;decide)] at h
  .have h3:=of_decide_eq_true h3
   rwa [w7m hb (by rintro rfl;revert h3;decide)] at h
  .have hm: ¬s[0]? =some 45:=fun e=>h3 (decide_eq_true e)
   rw[z6u hm] at hb h2 hne⊢;rintro (h4|⟨_,h4⟩)
   .exact hne h4
   .refine h4 ?_;rw[<-v8c];have hl:(bts s).length=1:=by rw[j0a];omega
    rw[j9d] at hb;cases hbs:bts s with
    |nil=>rw[hbs] at hl;cases hl
    |cons c l=>
     rw[hbs] at hb hl;have:l=[]:=List.length_eq_zero_iff.1 (by simpa using hl);subst this;simp at hb;rw[hb]
 .rintro (h4|⟨h4,_⟩)
  .exact hne h4
  .rw[hb] at h4;cases h4;exact h1 rfl
end Go.En
end
