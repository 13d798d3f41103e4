/- For every input AuditSpoilt returns true and leaves its arguments as they were. This is part 7 of 10. Conditions: those in the statements. -/
import Derived.Test.YtjepffgpbidclaaGreatDoorRows
import Derived.Test.YtjepffgpbidclaaGreatDoorCards
import Derived.Test.YtjepffgpbidclaaGreatDoorTie
import Derived.Test.YtjepffgpbidclaaGreatDoorSp6
import Derived.KernelRfl
import Derived.WalkKit
import Derived.ProofKit
import Derived.OpenShut
import Derived.Deep.DeepHandedRow
import Derived.Deep.DeepWitnessRowRef
import Derived.Lay
import Derived.SevenTiedAt
noncomputable section
set_option maxRecDepth 100000
namespace Go.En
open Go Go.RowKit Go.Fl Go.Fx
theorem v27{T:C}{n:Nat}{Q:Sg.car T->Prop}{σ:Hv}{v:Value}{l:List (Sg.car T)}(hn:D.size T=n)(h:RSl n (fun σ cs y=>RowF D σ cs (D.shape T y)/\Q y) σ v l):RSl (D.size T) (ElF D T) σ v l/\ ∀y∈l,Q y:=by
 subst hn
 obtain⟨a,cap,rfl,h1,h2,h3⟩:=h
 refine⟨⟨a,cap,rfl,h1,h2,fun i x hx=> ?_⟩,fun y hy=> ?_⟩
 ·obtain⟨ad,cs,e1,e2,e3,e4⟩:=h3 i x hx
  exact⟨ad,cs,e1,e2,e3,e4.1⟩
 ·obtain⟨i,hi⟩:=List.mem_iff_getElem?.1 hy
  obtain⟨ad,cs,e1,e2,e3,e4⟩:=h3 i y hi
  exact e4.2
theorem z0a(x0:AEnv)(x1:AEnv)(x2:List Mov)(x3:Int)(x4:Int)(x5:Int)(x6:Int)(x7:ByteArray){v0:List Value}{v1:List Value}{v2:Value}{σ:Hv}{w:World}(hV:View σ w)(hG:Glb D σ)(rd0:RowF D σ v0 (D.shape C.aenv x0))(rd1:RowF D σ v1 (D.shape C.aenv x1))(rd2:RepF D σ v2 (.sl C.move x2))(h: ∀K:Bool->Prop,K true->Zz x0 x1 x2 x3 x4 x5 x6 x7 K):
  Calls Proofs.Tryz.prog 4 #[.agg v0.toArray,.agg v1.toArray,v2,.int .u8 x3,.int .u8 x4,.int .u8 x5,.int .i64 x6,.string x7] w fun e w1=> ∃r,e= .returned (.bool r)/\Grow [] σ w σ w1/\r=true:=by
 have he:(Vw Zz).m ([.el C.aenv x0,.el C.aenv x1,.f (.sl C.move x2),.f (.int .u8 x3),.f (.int .u8 x4),.f (.int .u8 x5),.f (.int .i64 x6),.f (.str x7)]:List (Fx.Tr Sg)) (fun rets _=>rets=[.f (.bool true)])=Zz x0 x1 x2 x3 x4 x5 x6 x7 (fun b=>([.f (.bool b)]:List (Fx.Tr Sg))=[.f (.bool true)]):=by kernel_rfl
 have hp:(Vw Zz).m ([.el C.aenv x0,.el C.aenv x1,.f (.sl C.move x2),.f (.int .u8 x3),.f (.int .u8 x4),.f (.int .u8 x5),.f (.int .i64 x6),.f (.str x7)]:List (Fx.Tr Sg)) (fun rets _=>rets=[.f (.bool true)]):=Eq.mpr he (h _ rfl)
 have hm:=(q94).m _ _ hp w σ [.agg v0.toArray,.agg v1.toArray,v2,.int .u8 x3,.int .u8 x4,.int .u8 x5,.int .i64 x6,.string x7] [] hG (LayL.cons (ms:=[]) (.el rd0) (LayL.cons (ms:=[]) (.el rd1) (LayL.cons (ms:=[]) (.f rd2) (LayL.cons (ms:=[]) (.f (.int _ _)) (LayL.cons (ms:=[]) (.f (.int _ _)) (LayL.cons (ms:=[]) (.f (.int _ _)) (LayL.cons (ms:=[]) (.f (.int _ _)) (LayL.cons (ms:=[]) (.f (.str _)) .nil)))))))) (St.start hV)
 refine Calls.mono hm ?_
 rintro e w1 ⟨rets,outs,rv,σ1,msr,mso,rfl,hK,hLr,_,hS⟩
 subst hK
 cases hLr with
 |cons h1 hn=>
 cases hn
 cases h1 with
 |f hf=>
 cases hf
 exact⟨true,rfl,hS.done.forget,rfl⟩
end Go.En
namespace Go.Proofs.YtjepffgpbidclaaGreatDoor.auditSpoilt
open Go Go.RowKit Go.Fl Go.ChangeShapes Go.WideShapes Go.ChangeAt
open Go.ChangeMaps (open_string shut_string)
theorem own:ownKnob Tryz.prog.godebug=none:=by kernel_rfl
theorem laidOut:laidOutB Tryz.prog=true:=by kernel_rfl
theorem contract(H:Type)(enc:TypeId×Value->H)(W:World)(base:Nat)(args:Array Value)(ds gs:List (DataW H))(before:List MemPlace)
  (hval: ∀(j:Nat) t v,Tryz.f4.params[j]? =some t->args[j]? =some v->Value.okWide Tryz.prog W .any base t v)
  (hW:DataW.Whole enc Tryz.prog Tryz.f4.params.toList Rows.auditSpoiltSpec.vars false W args.toList ds gs before)
  (hsz:(DataW.weightsEach Tryz.prog (Tryz.f4.params.toList++(OpenSpec.ofChange Rows.auditSpoiltSpec).bare.plain.varTypes Tryz.prog) (ds++gs)).all (· <=reachBytes)=true)
  (hL:laidMetH Tryz.prog Rows.auditSpoiltRow.laid W)(hsh:W.ShapedOpen Tryz.prog):
  Calls Tryz.prog 4 args W fun e W'=> ∃v,e= .returned v/\Rows.auditSpoiltSpec.post enc Tryz.prog Tryz.f4 false true false false W args v W':=by
 have hG:Go.Fx.Glb Go.En.D (hv W):=Go.En.j40 hL hsh
 have hW':=hW
 obtain⟨p,q,hA0,hV,rfl,hfz,hnd⟩:=hW
 have hA:DataW.TrodAll enc Tryz.prog W 0 (fun _=>true) true Tryz.f4.params.toList args.toList ds p:=hA0
 rw[Tryz.params4] at hA hval hsz
 obtain⟨v0,vs0,d0,ds0,p0,q0,hargs,rfl,rfl,h0,r0⟩:=trodAll_cons hA
 obtain⟨v1,vs1,d1,ds1,p1,q1,rfl,rfl,rfl,h1,r1⟩:=trodAll_cons r0
 obtain⟨v2,vs2,d2,ds2,p2,q2,rfl,rfl,rfl,h2,r2⟩:=trodAll_cons r1
 obtain⟨v3,vs3,d3,ds3,p3,q3,rfl,rfl,rfl,h3,r3⟩:=trodAll_cons r2
 obtain⟨v4,vs4,d4,ds4,p4,q4,rfl,rfl,rfl,h4,r4⟩:=trodAll_cons r3
 obtain⟨v5,vs5,d5,ds5,p5,q5,rfl,rfl,rfl,h5,r5⟩:=trodAll_cons r4
 obtain⟨v6,vs6,d6,ds6,p6,q6,rfl,rfl,rfl,h6,r6⟩:=trodAll_cons r5
 obtain⟨v7,vs7,d7,ds7,p7,q7,rfl,rfl,rfl,h7,r7⟩:=trodAll_cons r6
 obtain⟨rfl,rfl,rfl⟩:=trodAll_nil r7
 obtain rfl:args= #[v0,v1,v2,v3,v4,v5,v6,v7]:=by cases args;simp_all
 obtain⟨rfl,rfl⟩:=trodVars_none hV
 have k0:=h0
 have lt0: ∀x∈p0,x.block<W.heap.size:=by obtain⟨m,hm⟩:=k0;exact DataW.trod_lt m _ _ _ hm
 obtain⟨c0,rfl,z0⟩:=okWide_struct Tryz.underlying24 (hval 0 24 v0 rfl rfl)
 have hz0:(Tryz.prog.cellsOf 24)=5:=by kernel_rfl
 obtain⟨m0,hm0⟩:=k0
 have hm0:DataW.trod enc Tryz.prog W 0 (fun _=>true) true m0 24 c0.toList=some (d0,p0):=hm0
 obtain⟨x0,rd0,sz0⟩:=Go.En.j7k (by rw[Array.length_toList,z0,hz0]) hm0
 have k1:=h1
 have lt1: ∀x∈p1,x.block<W.heap.size:=by obtain⟨m,hm⟩:=k1;exact DataW.trod_lt m _ _ _ hm
 obtain⟨c1,rfl,z1⟩:=okWide_struct Tryz.underlying24 (hval 1 24 v1 rfl rfl)
 have hz1:(Tryz.prog.cellsOf 24)=5:=by kernel_rfl
 obtain⟨m1,hm1⟩:=k1
 have hm1:DataW.trod enc Tryz.prog W 0 (fun _=>true) true m1 24 c1.toList=some (d1,p1):=hm1
 obtain⟨x1,rd1,sz1⟩:=Go.En.j7k (by rw[Array.length_toList,z1,hz1]) hm1
 have k2:=h2
 have lt2: ∀x∈p2,x.block<W.heap.size:=by obtain⟨m,hm⟩:=k2;exact DataW.trod_lt m _ _ _ hm
 obtain⟨x2,rs2⟩:=w4v (R:=fun σ cs y=>Go.Fx.RowF Go.En.D σ cs (Go.En.D.shape .move y)/\Go.En.MvB y) (size:=5) Tryz.underlying50 (by kernel_rfl) (of_decide_eq_true (by kernel_rfl)) (fun n cs x hl hx=>Go.En.w5p hl hx) (hval 2 50 v2 rfl rfl) h2 (w4u hsz (j:=2) (t:=50) rfl rfl)
 obtain⟨rq2,mv2⟩:=Go.En.v27 (T:=Go.En.C.move) rfl rs2
 have rd2:=Go.Fx.RepF.ofRSl Go.En.okP.ok rq2
 obtain⟨x3,rfl,rfl,rfl,wx3⟩:=open_int Tryz.underlying5 (hval 3 5 v3 rfl rfl) h3
 have bx3:=Go.En.q4i wx3
 obtain⟨x4,rfl,rfl,rfl,wx4⟩:=open_int Tryz.underlying5 (hval 4 5 v4 rfl rfl) h4
 have bx4:=Go.En.q4i wx4
 obtain⟨x5,rfl,rfl,rfl,wx5⟩:=open_int Tryz.underlying5 (hval 5 5 v5 rfl rfl) h5
 have bx5:=Go.En.q4i wx5
 obtain⟨x6,rfl,rfl,rfl,wx6⟩:=open_int Tryz.underlying3 (hval 6 3 v6 rfl rfl) h6
 have bx6:=wx6
 simp only[Lit.wf,Bool.and_eq_true,decide_eq_true_eq] at bx6
 have blo6: -9223372036854775808<=x6:=by have:=bx6.1;simp[IntKind.min] at this;exact this
 have bhi6:x6<=9223372036854775807:=by have:=bx6.2;simp[IntKind.max] at this;exact this
 obtain⟨x7,rfl,rfl,rfl,wx7⟩:=open_string Tryz.underlying9 (hval 7 9 v7 rfl rfl) h7
 refine (Go.En.z0a x0 x1 x2 x3 x4 x5 x6 x7 (w8i W) hG rd0 rd1 rd2 (fun _ hk=>Go.En.z8o sz0 sz1 mv2 bx3 bx4 hk)).mono fun e W' he=> ?_
 obtain⟨r,rfl,hg,hr⟩:=he
 have hrt:r=true:=hr
 subst hrt
 have bel:=w4t hg.keeps
 exact⟨_,rfl,_,_,_,[],_,[],hW',trodAll_mk1 (shut_bool Tryz.underlying4 _),(trodAll_cons_mk (Below.trod laidOut (by kernel_rfl) (of_decide_eq_true (by kernel_rfl)) h0 bel lt0) (trodAll_cons_mk (Below.trod laidOut (by kernel_rfl) (of_decide_eq_true (by kernel_rfl)) h1 bel lt1) (trodAll_cons_mk (Below.trod laidOut (by kernel_rfl) (of_decide_eq_true (by kernel_rfl)) k2 bel lt2) (trodAll_cons_mk (shut_int Tryz.underlying5 wx3) (trodAll_cons_mk (shut_int Tryz.underlying5 wx4) (trodAll_cons_mk (shut_int Tryz.underlying5 wx5) (trodAll_cons_mk (shut_int Tryz.underlying3 wx6) (trodAll_cons_mk (shut_string Tryz.underlying9 wx7) trodAll_mk0)))))))),rfl,bel.frame _,fun h=>by cases h⟩
theorem reads(os:Os){H:Type}(enc:TypeId×Value->H): ∃places,DataW.whole enc Tryz.prog ((World.laidAll Tryz.prog os Rows.auditSpoiltRow.laid).forCall (fun _ _=>0) ⟨#[],#[.agg #[.int .u8 0,.int .u8 0,.int .u16 0,.int .u16 0,.int .u16 0],.agg #[.int .u8 0,.int .u8 0,.int .u16 0,.int .u16 0,.int .u16 0],.slice none 0 0,.int .u8 0,.int .u8 0,.int .u8 0,.int .i64 0,.string ⟨#[]⟩],[]⟩).memory Tryz.f4.params.toList Rows.auditSpoiltSpec.vars false (#[.agg #[.int .u8 0,.int .u8 0,.int .u16 0,.int .u16 0,.int .u16 0],.agg #[.int .u8 0,.int .u8 0,.int .u16 0,.int .u16 0,.int .u16 0],.slice none 0 0,.int .u8 0,.int .u8 0,.int .u8 0,.int .i64 0,.string ⟨#[]⟩]:Array Value).toList 8=some ([.agg [.lit (.int .u8 0),.lit (.int .u8 0),.lit (.int .u16 0),.lit (.int .u16 0),.lit (.int .u16 0)],.agg [.lit (.int .u8 0),.lit (.int .u8 0),.lit (.int .u16 0),.lit (.int .u16 0),.lit (.int .u16 0)],.nil,.lit (.int .u8 0),.lit (.int .u8 0),.lit (.int .u8 0),.lit (.int .i64 0),.lit (.string [])],[],places):=
 ⟨[],by kernel_rfl⟩
theorem lifted(os:Os)(started:os.Started)(H:Type)(enc:TypeId×Value->H)(F:Stop.Interp):
  ReturnsInHanded {} Tryz.checked os 4 .any ((OpenSpec.ofChange Rows.auditSpoiltSpec).preRow enc Tryz.prog Tryz.f4 Rows.auditSpoiltRow.domain false Rows.auditSpoiltRow.laid) (((OpenSpec.ofChange Rows.auditSpoiltSpec).at F).post enc Tryz.prog Tryz.f4 false true false false):=by
 obtain⟨places,hx⟩:=reads os enc
 refine returnsInHanded_of_row (C:=Tryz.checked) (s:=(OpenSpec.ofChange Rows.auditSpoiltSpec)) own started (by kernel_rfl) Tryz.func4
  (witness_row_atRef (enc:=enc) (C:=Tryz.checked) false (World.laidAll Tryz.prog os Rows.auditSpoiltRow.laid) #[.agg #[.int .u8 0,.int .u8 0,.int .u16 0,.int .u16 0,.int .u16 0],.agg #[.int .u8 0,.int .u8 0,.int .u16 0,.int .u16 0,.int .u16 0],.slice none 0 0,.int .u8 0,.int .u8 0,.int .u8 0,.int .i64 0,.string ⟨#[]⟩] (World.laidAll_os _ _ _) (by kernel_rfl) (by kernel_rfl) (by kernel_rfl)
   (OpenSpec.preRow_of_cond 8 hx (by kernel_rfl) (fun k hk=>by cases hk) (by kernel_rfl) (by rw[MakeChecks.laidMetH_plain _ _ _ (by kernel_rfl)];exact laidMet_laidAll _ (by kernel_rfl) (by kernel_rfl)))) ?_
 intro W base args ds gs before hval hW _ _ hsz hL hsh _
 exact contract H enc W base args ds gs before hval hW hsz hL hsh
end Go.Proofs.YtjepffgpbidclaaGreatDoor.auditSpoilt
end
