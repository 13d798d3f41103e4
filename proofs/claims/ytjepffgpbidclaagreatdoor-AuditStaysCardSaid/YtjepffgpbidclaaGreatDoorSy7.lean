/- For every input AuditStays returns true and leaves its arguments as they were. This is part 7 of 10. Conditions: those in the statements. -/
import Derived.Test.YtjepffgpbidclaaGreatDoorRows
import Derived.Test.YtjepffgpbidclaaGreatDoorCards
import Derived.Test.YtjepffgpbidclaaGreatDoorTie
import Derived.Test.YtjepffgpbidclaaGreatDoorSy6
import Derived.KernelRfl
import Derived.WalkKit
import Derived.ProofKit
import Derived.OpenShut
import Derived.Deep.DeepHandedRow
import Derived.Deep.DeepWitnessRowRef
import Derived.Lay
import Derived.SevenTiedAt
noncomputable section
set_option maxRecDepth 100000
namespace Go.En
open Go Go.RowKit Go.Fl Go.Fx
theorem v2v{T:C}{n:Nat}{Q:Sg.car T->Prop}{σ:Hv}{v:Value}{l:List (Sg.car T)}(hn:D.size T=n)(h:RSl n (fun σ cs y=>RowF D σ cs (D.shape T y)/\Q y) σ v l):RSl (D.size T) (ElF D T) σ v l/\ ∀y∈l,Q y:=by
 subst hn
 obtain⟨a,cap,rfl,h1,h2,h3⟩:=h
 refine⟨⟨a,cap,rfl,h1,h2,fun i x hx=> ?_⟩,fun y hy=> ?_⟩
 ·obtain⟨ad,cs,e1,e2,e3,e4⟩:=h3 i x hx
  exact⟨ad,cs,e1,e2,e3,e4.1⟩
 ·obtain⟨i,hi⟩:=List.mem_iff_getElem?.1 hy
  obtain⟨ad,cs,e1,e2,e3,e4⟩:=h3 i y hi
  exact e4.2
theorem z18(x0:AEnv)(x1:List Mov)(x2:Int)(x3:Bool){v0:List Value}{v1:Value}{σ:Hv}{w:World}(hV:View σ w)(hG:Glb D σ)(rd0:RowF D σ v0 (D.shape C.aenv x0))(rd1:RepF D σ v1 (.sl C.move x1))(h: ∀K:Bool->Prop,K true->Jf x0 x1 x2 x3 K):
  Calls Proofs.Tryz.prog 8 #[.agg v0.toArray,v1,.int .u8 x2,.bool x3] w fun e w1=> ∃r,e= .returned (.bool r)/\Grow [] σ w σ w1/\r=true:=by
 have he:(Gd Jf).m ([.el C.aenv x0,.f (.sl C.move x1),.f (.int .u8 x2),.f (.bool x3)]:List (Fx.Tr Sg)) (fun rets _=>rets=[.f (.bool true)])=Jf x0 x1 x2 x3 (fun b=>([.f (.bool b)]:List (Fx.Tr Sg))=[.f (.bool true)]):=by kernel_rfl
 have hp:(Gd Jf).m ([.el C.aenv x0,.f (.sl C.move x1),.f (.int .u8 x2),.f (.bool x3)]:List (Fx.Tr Sg)) (fun rets _=>rets=[.f (.bool true)]):=Eq.mpr he (h _ rfl)
 have hm:=(z1x).m _ _ hp w σ [.agg v0.toArray,v1,.int .u8 x2,.bool x3] [] hG (LayL.cons (ms:=[]) (.el rd0) (LayL.cons (ms:=[]) (.f rd1) (LayL.cons (ms:=[]) (.f (.int _ _)) (LayL.cons (ms:=[]) (.f (.bool _)) .nil)))) (St.start hV)
 refine Calls.mono hm ?_
 rintro e w1 ⟨rets,outs,rv,σ1,msr,mso,rfl,hK,hLr,_,hS⟩
 subst hK
 cases hLr with
 |cons h1 hn=>
 cases hn
 cases h1 with
 |f hf=>
 cases hf
 exact⟨true,rfl,hS.done.forget,rfl⟩
end Go.En
namespace Go.Proofs.YtjepffgpbidclaaGreatDoor.auditStays
open Go Go.RowKit Go.Fl Go.ChangeShapes Go.WideShapes Go.ChangeAt
open Go.ChangeMaps (open_string shut_string)
theorem own:ownKnob Tryz.prog.godebug=none:=by kernel_rfl
theorem laidOut:laidOutB Tryz.prog=true:=by kernel_rfl
theorem contract(H:Type)(enc:TypeId×Value->H)(W:World)(base:Nat)(args:Array Value)(ds gs:List (DataW H))(before:List MemPlace)
  (hval: ∀(j:Nat) t v,Tryz.f8.params[j]? =some t->args[j]? =some v->Value.okWide Tryz.prog W .any base t v)
  (hW:DataW.Whole enc Tryz.prog Tryz.f8.params.toList Rows.auditStaysSpec.vars false W args.toList ds gs before)
  (hsz:(DataW.weightsEach Tryz.prog (Tryz.f8.params.toList++(OpenSpec.ofChange Rows.auditStaysSpec).bare.plain.varTypes Tryz.prog) (ds++gs)).all (· <=reachBytes)=true)
  (hL:laidMetH Tryz.prog Rows.auditStaysRow.laid W)(hsh:W.ShapedOpen Tryz.prog):
  Calls Tryz.prog 8 args W fun e W'=> ∃v,e= .returned v/\Rows.auditStaysSpec.post enc Tryz.prog Tryz.f8 false true false false W args v W':=by
 have hG:Go.Fx.Glb Go.En.D (hv W):=Go.En.j4a hL hsh
 have hW':=hW
 obtain⟨p,q,hA0,hV,rfl,hfz,hnd⟩:=hW
 have hA:DataW.TrodAll enc Tryz.prog W 0 (fun _=>true) true Tryz.f8.params.toList args.toList ds p:=hA0
 rw[Tryz.params8] at hA hval hsz
 obtain⟨v0,vs0,d0,ds0,p0,q0,hargs,rfl,rfl,h0,r0⟩:=trodAll_cons hA
 obtain⟨v1,vs1,d1,ds1,p1,q1,rfl,rfl,rfl,h1,r1⟩:=trodAll_cons r0
 obtain⟨v2,vs2,d2,ds2,p2,q2,rfl,rfl,rfl,h2,r2⟩:=trodAll_cons r1
 obtain⟨v3,vs3,d3,ds3,p3,q3,rfl,rfl,rfl,h3,r3⟩:=trodAll_cons r2
 obtain⟨rfl,rfl,rfl⟩:=trodAll_nil r3
 obtain rfl:args= #[v0,v1,v2,v3]:=by cases args;simp_all
 obtain⟨rfl,rfl⟩:=trodVars_none hV
 have k0:=h0
 have lt0: ∀x∈p0,x.block<W.heap.size:=by obtain⟨m,hm⟩:=k0;exact DataW.trod_lt m _ _ _ hm
 obtain⟨c0,rfl,z0⟩:=okWide_struct Tryz.underlying24 (hval 0 24 v0 rfl rfl)
 have hz0:(Tryz.prog.cellsOf 24)=5:=by kernel_rfl
 obtain⟨m0,hm0⟩:=k0
 have hm0:DataW.trod enc Tryz.prog W 0 (fun _=>true) true m0 24 c0.toList=some (d0,p0):=hm0
 obtain⟨x0,rd0,sz0⟩:=Go.En.w4m (by rw[Array.length_toList,z0,hz0]) hm0
 have k1:=h1
 have lt1: ∀x∈p1,x.block<W.heap.size:=by obtain⟨m,hm⟩:=k1;exact DataW.trod_lt m _ _ _ hm
 obtain⟨x1,rs1⟩:=w3h (R:=fun σ cs y=>Go.Fx.RowF Go.En.D σ cs (Go.En.D.shape .move y)/\Go.En.MvB y) (size:=5) Tryz.underlying50 (by kernel_rfl) (of_decide_eq_true (by kernel_rfl)) (fun n cs x hl hx=>Go.En.w4l hl hx) (hval 1 50 v1 rfl rfl) h1 (w3g hsz (j:=1) (t:=50) rfl rfl)
 obtain⟨rq1,mv1⟩:=Go.En.v2v (T:=Go.En.C.move) rfl rs1
 have rd1:=Go.Fx.RepF.ofRSl Go.En.okP.ok rq1
 obtain⟨x2,rfl,rfl,rfl,wx2⟩:=open_int Tryz.underlying5 (hval 2 5 v2 rfl rfl) h2
 have bx2:=Go.En.q81 wx2
 obtain⟨x3,rfl,rfl,rfl⟩:=open_bool Tryz.underlying4 (hval 3 4 v3 rfl rfl) h3
 refine (Go.En.z18 x0 x1 x2 x3 (w7o W) hG rd0 rd1 (fun _ hk=>Go.En.j06 sz0 mv1 bx2 hk)).mono fun e W' he=> ?_
 obtain⟨r,rfl,hg,hr⟩:=he
 have hrt:r=true:=hr
 subst hrt
 have bel:=w3f hg.keeps
 exact⟨_,rfl,_,_,_,[],_,[],hW',trodAll_mk1 (shut_bool Tryz.underlying4 _),(trodAll_cons_mk (Below.trod laidOut (by kernel_rfl) (of_decide_eq_true (by kernel_rfl)) h0 bel lt0) (trodAll_cons_mk (Below.trod laidOut (by kernel_rfl) (of_decide_eq_true (by kernel_rfl)) k1 bel lt1) (trodAll_cons_mk (shut_int Tryz.underlying5 wx2) (trodAll_cons_mk (shut_bool Tryz.underlying4 _) trodAll_mk0)))),rfl,bel.frame _,fun h=>by cases h⟩
theorem reads(os:Os){H:Type}(enc:TypeId×Value->H): ∃places,DataW.whole enc Tryz.prog ((World.laidAll Tryz.prog os Rows.auditStaysRow.laid).forCall (fun _ _=>0) ⟨#[],#[.agg #[.int .u8 0,.int .u8 0,.int .u16 0,.int .u16 0,.int .u16 0],.slice none 0 0,.int .u8 0,.bool false],[]⟩).memory Tryz.f8.params.toList Rows.auditStaysSpec.vars false (#[.agg #[.int .u8 0,.int .u8 0,.int .u16 0,.int .u16 0,.int .u16 0],.slice none 0 0,.int .u8 0,.bool false]:Array Value).toList 8=some ([.agg [.lit (.int .u8 0),.lit (.int .u8 0),.lit (.int .u16 0),.lit (.int .u16 0),.lit (.int .u16 0)],.nil,.lit (.int .u8 0),.lit (.bool false)],[],places):=
 ⟨[],by kernel_rfl⟩
theorem lifted(os:Os)(started:os.Started)(H:Type)(enc:TypeId×Value->H)(F:Stop.Interp):
  ReturnsInHanded {} Tryz.checked os 8 .any ((OpenSpec.ofChange Rows.auditStaysSpec).preRow enc Tryz.prog Tryz.f8 Rows.auditStaysRow.domain false Rows.auditStaysRow.laid) (((OpenSpec.ofChange Rows.auditStaysSpec).at F).post enc Tryz.prog Tryz.f8 false true false false):=by
 obtain⟨places,hx⟩:=reads os enc
 refine returnsInHanded_of_row (C:=Tryz.checked) (s:=(OpenSpec.ofChange Rows.auditStaysSpec)) own started (by kernel_rfl) Tryz.func8
  (witness_row_atRef (enc:=enc) (C:=Tryz.checked) false (World.laidAll Tryz.prog os Rows.auditStaysRow.laid) #[.agg #[.int .u8 0,.int .u8 0,.int .u16 0,.int .u16 0,.int .u16 0],.slice none 0 0,.int .u8 0,.bool false] (World.laidAll_os _ _ _) (by kernel_rfl) (by kernel_rfl) (by kernel_rfl)
   (OpenSpec.preRow_of_cond 8 hx (by kernel_rfl) (fun k hk=>by cases hk) (by kernel_rfl) (by rw[MakeChecks.laidMetH_plain _ _ _ (by kernel_rfl)];exact laidMet_laidAll _ (by kernel_rfl) (by kernel_rfl)))) ?_
 intro W base args ds gs before hval hW _ _ hsz hL hsh _
 exact contract H enc W base args ds gs before hval hW hsz hL hsh
end Go.Proofs.YtjepffgpbidclaaGreatDoor.auditStays
end
