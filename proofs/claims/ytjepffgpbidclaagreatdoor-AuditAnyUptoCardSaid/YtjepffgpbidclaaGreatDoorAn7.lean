/- Explain and Check return what is specified for any register, record and environment with the layers and experiments of a made one; for every input of bulk at most 1048576 the law returns true. This is part 7 of 10. Conditions: those in the statements. -/
import Derived.Test.YtjepffgpbidclaaGreatDoorRows
import Derived.Test.YtjepffgpbidclaaGreatDoorCards
import Derived.Test.YtjepffgpbidclaaGreatDoorTie
import Derived.Test.YtjepffgpbidclaaGreatDoorAn6
import Derived.KernelRfl
import Derived.WalkKit
import Derived.ProofKit
import Derived.OpenShut
import Derived.Deep.DeepHandedRow
import Derived.Deep.DeepWitnessRowRef
import Derived.Lay
import Derived.SevenTiedAt
noncomputable section
set_option maxRecDepth 100000
namespace Go.En
open Go Go.RowKit Go.Fl Go.Fx
theorem z4z(x0:AEnv)(x1:Reg)(x2:Rcd)(x3:ByteArray)(x4:ByteArray)(x5:Int){v0:List Value}{v1:List Value}{v2:List Value}{σ:Hv}{w:World}(hV:View σ w)(hG:Glb D σ)(rd0:RowF D σ v0 (D.shape C.aenv x0))(rd1:RowF D σ v1 (D.shape C.register x1))(rd2:RowF D σ v2 (D.shape C.record x2))(h: ∀K:Bool->Prop,K true->Jg x0 x1 x2 x3 x4 x5 K):
  Calls Proofs.Tryz.prog 3 #[.agg v0.toArray,.agg v1.toArray,.agg v2.toArray,.string x3,.string x4,.int .i64 x5] w fun e w1=> ∃r,e= .returned (.bool r)/\Grow [] σ w σ w1/\r=true:=by
 have he:(G7 Jg).m ([.el C.aenv x0,.el C.register x1,.el C.record x2,.f (.str x3),.f (.str x4),.f (.int .i64 x5)]:List (Fx.Tr Sg)) (fun rets _=>rets=[.f (.bool true)])=Jg x0 x1 x2 x3 x4 x5 (fun b=>([.f (.bool b)]:List (Fx.Tr Sg))=[.f (.bool true)]):=by kernel_rfl
 have hp:(G7 Jg).m ([.el C.aenv x0,.el C.register x1,.el C.record x2,.f (.str x3),.f (.str x4),.f (.int .i64 x5)]:List (Fx.Tr Sg)) (fun rets _=>rets=[.f (.bool true)]):=Eq.mpr he (h _ rfl)
 have hm:=(z4s).m _ _ hp w σ [.agg v0.toArray,.agg v1.toArray,.agg v2.toArray,.string x3,.string x4,.int .i64 x5] [] hG (LayL.cons (ms:=[]) (.el rd0) (LayL.cons (ms:=[]) (.el rd1) (LayL.cons (ms:=[]) (.el rd2) (LayL.cons (ms:=[]) (.f (.str _)) (LayL.cons (ms:=[]) (.f (.str _)) (LayL.cons (ms:=[]) (.f (.int _ _)) .nil)))))) (St.start hV)
 refine Calls.mono hm ?_
 rintro e w1 ⟨rets,outs,rv,σ1,msr,mso,rfl,hK,hLr,_,hS⟩
 subst hK
 cases hLr with
 |cons h1 hn=>
 cases hn
 cases h1 with
 |f hf=>
 cases hf
 exact⟨true,rfl,hS.done.forget,rfl⟩
end Go.En
namespace Go.Proofs.YtjepffgpbidclaaGreatDoor.auditAnyUpto
open Go Go.RowKit Go.Fl Go.ChangeShapes Go.WideShapes Go.ChangeAt
open Go.ChangeMaps (open_string shut_string)
theorem own:ownKnob Tryz.prog.godebug=none:=by kernel_rfl
theorem laidOut:laidOutB Tryz.prog=true:=by kernel_rfl
theorem contract(H:Type)(enc:TypeId×Value->H)(W:World)(base:Nat)(args:Array Value)(ds gs:List (DataW H))(before:List MemPlace)
  (hval: ∀(j:Nat) t v,Tryz.f3.params[j]? =some t->args[j]? =some v->Value.okWide Tryz.prog W .any base t v)
  (hW:DataW.Whole enc Tryz.prog Tryz.f3.params.toList Rows.auditAnySpec.vars false W args.toList ds gs before)
  (hsz:(DataW.weightsEach Tryz.prog (Tryz.f3.params.toList++(Rows.OpenSpec.upto Rows.auditAnySpec).bare.plain.varTypes Tryz.prog) (ds++gs)).all (· <=reachBytes)=true)
  (hL:laidMetH Tryz.prog Rows.auditAnyUptoRow.laid W)(hsh:W.ShapedOpen Tryz.prog)(hcnd: ∀k,(Rows.OpenSpec.upto Rows.auditAnySpec).cond=some k->k H (ds++gs)=true):
  Calls Tryz.prog 3 args W fun e W'=> ∃v,e= .returned v/\Rows.auditAnySpec.post enc Tryz.prog Tryz.f3 false true false false W args v W':=by
 have hG:Go.Fx.Glb Go.En.D (hv W):=Go.En.j5m hL hsh
 have hW':=hW
 obtain⟨p,q,hA0,hV,rfl,hfz,hnd⟩:=hW
 have hA:DataW.TrodAll enc Tryz.prog W 0 (fun _=>true) true Tryz.f3.params.toList args.toList ds p:=hA0
 rw[Tryz.params3] at hA hval
 obtain⟨v0,vs0,d0,ds0,p0,q0,hargs,rfl,rfl,h0,r0⟩:=trodAll_cons hA
 obtain⟨v1,vs1,d1,ds1,p1,q1,rfl,rfl,rfl,h1,r1⟩:=trodAll_cons r0
 obtain⟨v2,vs2,d2,ds2,p2,q2,rfl,rfl,rfl,h2,r2⟩:=trodAll_cons r1
 obtain⟨v3,vs3,d3,ds3,p3,q3,rfl,rfl,rfl,h3,r3⟩:=trodAll_cons r2
 obtain⟨v4,vs4,d4,ds4,p4,q4,rfl,rfl,rfl,h4,r4⟩:=trodAll_cons r3
 obtain⟨v5,vs5,d5,ds5,p5,q5,rfl,rfl,rfl,h5,r5⟩:=trodAll_cons r4
 obtain⟨rfl,rfl,rfl⟩:=trodAll_nil r5
 obtain rfl:args= #[v0,v1,v2,v3,v4,v5]:=by cases args;simp_all
 obtain⟨rfl,rfl⟩:=trodVars_none hV
 have hbk:Rows.uptoBulkAll ([d0,d1,d2,d3,d4,d5]++([]:List (DataW H)))<=1048576:=of_decide_eq_true (hcnd _ rfl)
 simp only[List.cons_append,List.nil_append,Rows.uptoBulkAll] at hbk
 have k0:=h0
 have lt0: ∀x∈p0,x.block<W.heap.size:=by obtain⟨m,hm⟩:=k0;exact DataW.trod_lt m _ _ _ hm
 obtain⟨c0,rfl,z0⟩:=okWide_struct Tryz.underlying24 (hval 0 24 v0 rfl rfl)
 have hz0:(Tryz.prog.cellsOf 24)=5:=by kernel_rfl
 obtain⟨m0,hm0⟩:=k0
 have hm0:DataW.trod enc Tryz.prog W 0 (fun _=>true) true m0 24 c0.toList=some (d0,p0):=hm0
 obtain⟨x0,rd0,sz0⟩:=Go.En.w6h (by rw[Array.length_toList,z0,hz0]) hm0 (by simp only;omega)
 have k1:=h1
 have lt1: ∀x∈p1,x.block<W.heap.size:=by obtain⟨m,hm⟩:=k1;exact DataW.trod_lt m _ _ _ hm
 obtain⟨c1,rfl,z1⟩:=okWide_struct Tryz.underlying28 (hval 1 28 v1 rfl rfl)
 have hz1:(Tryz.prog.cellsOf 28)=3:=by kernel_rfl
 obtain⟨m1,hm1⟩:=k1
 have hm1:DataW.trod enc Tryz.prog W 0 (fun _=>true) true m1 28 c1.toList=some (d1,p1):=hm1
 obtain⟨x1,rd1,sz1⟩:=Go.En.j4u (by rw[Array.length_toList,z1,hz1]) hm1 (by simp only;omega)
 have k2:=h2
 have lt2: ∀x∈p2,x.block<W.heap.size:=by obtain⟨m,hm⟩:=k2;exact DataW.trod_lt m _ _ _ hm
 obtain⟨c2,rfl,z2⟩:=okWide_struct Tryz.underlying32 (hval 2 32 v2 rfl rfl)
 have hz2:(Tryz.prog.cellsOf 32)=11:=by kernel_rfl
 obtain⟨m2,hm2⟩:=k2
 have hm2:DataW.trod enc Tryz.prog W 0 (fun _=>true) true m2 32 c2.toList=some (d2,p2):=hm2
 obtain⟨x2,rd2,sz2⟩:=Go.En.j9h (by rw[Array.length_toList,z2,hz2]) hm2 (by simp only;omega)
 obtain⟨x3,rfl,rfl,rfl,wx3⟩:=open_string Tryz.underlying9 (hval 3 9 v3 rfl rfl) h3
 obtain⟨x4,rfl,rfl,rfl,wx4⟩:=open_string Tryz.underlying9 (hval 4 9 v4 rfl rfl) h4
 obtain⟨x5,rfl,rfl,rfl,wx5⟩:=open_int Tryz.underlying3 (hval 5 3 v5 rfl rfl) h5
 have bx5:=wx5
 simp only[Lit.wf,Bool.and_eq_true,decide_eq_true_eq] at bx5
 have blo5: -9223372036854775808<=x5:=by have:=bx5.1;simp[IntKind.min] at this;exact this
 have bhi5:x5<=9223372036854775807:=by have:=bx5.2;simp[IntKind.max] at this;exact this
 refine (Go.En.z4z x0 x1 x2 x3 x4 x5 (w88 W) hG rd0 rd1 rd2 (fun _ hk=>Go.En.j6h sz0 sz1 (Nat.le_trans sz2.1 (by decide)) (Nat.le_trans sz2.2 (by decide)) hk)).mono fun e W' he=> ?_
 obtain⟨r,rfl,hg,hr⟩:=he
 have hrt:r=true:=hr
 subst hrt
 have bel:=w5k hg.keeps
 exact⟨_,rfl,_,_,_,[],_,[],hW',trodAll_mk1 (shut_bool Tryz.underlying4 _),(trodAll_cons_mk (Below.trod laidOut (by kernel_rfl) (of_decide_eq_true (by kernel_rfl)) h0 bel lt0) (trodAll_cons_mk (Below.trod laidOut (by kernel_rfl) (of_decide_eq_true (by kernel_rfl)) h1 bel lt1) (trodAll_cons_mk (Below.trod laidOut (by kernel_rfl) (of_decide_eq_true (by kernel_rfl)) h2 bel lt2) (trodAll_cons_mk (shut_string Tryz.underlying9 wx3) (trodAll_cons_mk (shut_string Tryz.underlying9 wx4) (trodAll_cons_mk (shut_int Tryz.underlying3 wx5) trodAll_mk0)))))),rfl,bel.frame _,fun h=>by cases h⟩
theorem reads(os:Os){H:Type}(enc:TypeId×Value->H): ∃places,DataW.whole enc Tryz.prog ((World.laidAll Tryz.prog os Rows.auditAnyUptoRow.laid).forCall (fun _ _=>0) ⟨#[],#[.agg #[.int .u8 0,.int .u8 0,.int .u16 0,.int .u16 0,.int .u16 0],.agg #[.int .i64 0,.slice none 0 0,.slice none 0 0],.agg #[.string ⟨#[]⟩,.int .i64 0,.string ⟨#[]⟩,.string ⟨#[]⟩,.string ⟨#[]⟩,.int .i64 0,.int .i64 0,.int .i64 0,.int .i64 0,.int .i64 0,.slice none 0 0],.string ⟨#[]⟩,.string ⟨#[]⟩,.int .i64 0],[]⟩).memory Tryz.f3.params.toList Rows.auditAnySpec.vars false (#[.agg #[.int .u8 0,.int .u8 0,.int .u16 0,.int .u16 0,.int .u16 0],.agg #[.int .i64 0,.slice none 0 0,.slice none 0 0],.agg #[.string ⟨#[]⟩,.int .i64 0,.string ⟨#[]⟩,.string ⟨#[]⟩,.string ⟨#[]⟩,.int .i64 0,.int .i64 0,.int .i64 0,.int .i64 0,.int .i64 0,.slice none 0 0],.string ⟨#[]⟩,.string ⟨#[]⟩,.int .i64 0]:Array Value).toList 8=some ([.agg [.lit (.int .u8 0),.lit (.int .u8 0),.lit (.int .u16 0),.lit (.int .u16 0),.lit (.int .u16 0)],.agg [.lit (.int .i64 0),.nil,.nil],.agg [.lit (.string []),.lit (.int .i64 0),.agg [.lit (.string []),.lit (.string []),.lit (.string []),.lit (.int .i64 0),.lit (.int .i64 0),.lit (.int .i64 0),.lit (.int .i64 0)],.lit (.int .i64 0),.nil],.lit (.string []),.lit (.string []),.lit (.int .i64 0)],[],places):=
 ⟨[],by kernel_rfl⟩
theorem lifted(os:Os)(started:os.Started)(H:Type)(enc:TypeId×Value->H)(F:Stop.Interp):
  ReturnsInHanded {} Tryz.checked os 3 .any ((Rows.OpenSpec.upto Rows.auditAnySpec).preRow enc Tryz.prog Tryz.f3 Rows.auditAnyUptoRow.domain false Rows.auditAnyUptoRow.laid) (((Rows.OpenSpec.upto Rows.auditAnySpec).at F).post enc Tryz.prog Tryz.f3 false true false false):=by
 obtain⟨places,hx⟩:=reads os enc
 refine returnsInHanded_of_row (C:=Tryz.checked) (s:=(Rows.OpenSpec.upto Rows.auditAnySpec)) own started (by kernel_rfl) Tryz.func3
  (witness_row_atRef (enc:=enc) (C:=Tryz.checked) false (World.laidAll Tryz.prog os Rows.auditAnyUptoRow.laid) #[.agg #[.int .u8 0,.int .u8 0,.int .u16 0,.int .u16 0,.int .u16 0],.agg #[.int .i64 0,.slice none 0 0,.slice none 0 0],.agg #[.string ⟨#[]⟩,.int .i64 0,.string ⟨#[]⟩,.string ⟨#[]⟩,.string ⟨#[]⟩,.int .i64 0,.int .i64 0,.int .i64 0,.int .i64 0,.int .i64 0,.slice none 0 0],.string ⟨#[]⟩,.string ⟨#[]⟩,.int .i64 0] (World.laidAll_os _ _ _) (by kernel_rfl) (by kernel_rfl) (by kernel_rfl)
   (OpenSpec.preRow_of_cond 8 hx (by kernel_rfl) (fun k hk=>by cases hk;kernel_rfl) (by kernel_rfl) (by rw[MakeChecks.laidMetH_plain _ _ _ (by kernel_rfl)];exact laidMet_laidAll _ (by kernel_rfl) (by kernel_rfl)))) ?_
 intro W base args ds gs before hval hW _ hcnd hsz hL hsh _
 exact contract H enc W base args ds gs before hval hW hsz hL hsh hcnd
end Go.Proofs.YtjepffgpbidclaaGreatDoor.auditAnyUpto
end
