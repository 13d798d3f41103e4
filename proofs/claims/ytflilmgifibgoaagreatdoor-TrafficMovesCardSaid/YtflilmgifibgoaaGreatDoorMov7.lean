/- TrafficMoves This is part 7 of 10. Conditions: those in the statements. -/
import Derived.Test.YtflilmgifibgoaaGreatDoorRows
import Derived.Test.YtflilmgifibgoaaGreatDoorCards
import Derived.Test.YtflilmgifibgoaaGreatDoorTie
import Derived.Test.YtflilmgifibgoaaGreatDoorMov6
import Derived.KernelRfl
import Derived.WalkKit
import Derived.ProofKit
import Derived.OpenShut
import Derived.Deep.DeepHandedRow
import Derived.Deep.DeepWitnessRowRef
import Derived.Lay
import Derived.SevenTiedAt
noncomputable section
set_option maxRecDepth 100000
namespace Go.En
open Go Go.RowKit Go.Fl Go.Fx
def u8s(l:List UInt8):List Int:=l.map fun b=>((b.toNat:Nat):Int)
theorem v42{l:List UInt8}:Byts (u8s l):=fun x hx=>by
 obtain⟨b,_,rfl⟩:=List.mem_map.1 hx
 have:=b.toNat_lt
 exact⟨by omega,by omega⟩
theorem v9x{σ:Hv}{v:Value}{l:List UInt8}(h:RSl 1 RU8 σ v l):RSl (D.size C.u8) (ElF D C.u8) σ v (u8s l):=by
 obtain⟨a,cap,rfl,h1,h2,h3⟩:=h
 refine⟨a,cap,by simp[u8s],by simpa [u8s] using h1,by simpa [u8s] using h2,fun i x hx=> ?_⟩
 simp only[u8s,List.getElem?_map,Option.map_eq_some_iff] at hx
 obtain⟨b,hb,rfl⟩:=hx
 obtain⟨ad,cs,e1,e2,e3,e4⟩:=h3 i b hb
 have e4:cs=_:=e4
 subst e4
 exact⟨ad,_,e1,rfl,e3,Vy (.int _ _) z4x⟩
theorem z39(x0:List UInt8)(x1:List UInt8)(x2:Int){v0:Value}{v1:Value}{σ:Hv}{w:World}(hV:View σ w)(hG:Glb D σ)(rd0:RSl 1 RU8 σ v0 x0)(rd1:RSl 1 RU8 σ v1 x1)(h: ∀K:Bool->Prop,K true->Jd (u8s x0) (u8s x1) x2 K):
  Calls Proofs.Tryz.prog 6 #[v0,v1,.int .i64 x2] w fun e w1=> ∃r,e= .returned (.bool r)/\Grow [] σ w σ w1/\r=true:=by
 have he:(Ul Jd).m ([.f (.sl C.u8 (u8s x0)),.f (.sl C.u8 (u8s x1)),.f (.int .i64 x2)]:List (Fx.Tr Sg)) (fun rets _=>rets=[.f (.bool true)])=Jd (u8s x0) (u8s x1) x2 (fun b=>([.f (.bool b)]:List (Fx.Tr Sg))=[.f (.bool true)]):=by kernel_rfl
 have hp:(Ul Jd).m ([.f (.sl C.u8 (u8s x0)),.f (.sl C.u8 (u8s x1)),.f (.int .i64 x2)]:List (Fx.Tr Sg)) (fun rets _=>rets=[.f (.bool true)]):=Eq.mpr he (h _ rfl)
 have hm:=(z38).m _ _ hp w σ [v0,v1,.int .i64 x2] [] hG (LayL.cons (ms:=[]) (.f (RepF.ofRSl okP.ok (v9x rd0))) (LayL.cons (ms:=[]) (.f (RepF.ofRSl okP.ok (v9x rd1))) (LayL.cons (ms:=[]) (.f (.int _ _)) .nil))) (St.start hV)
 refine Calls.mono hm ?_
 rintro e w1 ⟨rets,outs,rv,σ1,msr,mso,rfl,hK,hLr,_,hS⟩
 subst hK
 cases hLr with
 |cons h1 hn=>
 cases hn
 cases h1 with
 |f hf=>
 cases hf
 exact⟨true,rfl,hS.done.forget,rfl⟩
end Go.En
namespace Go.Proofs.YtflilmgifibgoaaGreatDoor.trafficMoves
open Go Go.RowKit Go.Fl Go.ChangeShapes Go.WideShapes Go.ChangeAt
theorem own:ownKnob Tryz.prog.godebug=none:=by kernel_rfl
theorem laidOut:laidOutB Tryz.prog=true:=by kernel_rfl
theorem contract(H:Type)(enc:TypeId×Value->H)(W:World)(base:Nat)(args:Array Value)(ds gs:List (DataW H))(before:List MemPlace)
  (hval: ∀(j:Nat) t v,Tryz.f6.params[j]? =some t->args[j]? =some v->Value.okWide Tryz.prog W .any base t v)
  (hW:DataW.Whole enc Tryz.prog Tryz.f6.params.toList Rows.trafficMovesSpec.vars false W args.toList ds gs before)
  (hsz:(DataW.weightsEach Tryz.prog (Tryz.f6.params.toList++(OpenSpec.ofChange Rows.trafficMovesSpec).bare.plain.varTypes Tryz.prog) (ds++gs)).all (· <=reachBytes)=true)
  (hL:laidMetH Tryz.prog Rows.trafficMovesRow.laid W)(hsh:W.ShapedOpen Tryz.prog):
  Calls Tryz.prog 6 args W fun e W'=> ∃v,e= .returned v/\Rows.trafficMovesSpec.post enc Tryz.prog Tryz.f6 false true false false W args v W':=by
 have hG:Go.Fx.Glb Go.En.D (hv W):=Go.En.w14 hL hsh
 have hW':=hW
 obtain⟨p,q,hA0,hV,rfl,hfz,hnd⟩:=hW
 have hA:DataW.TrodAll enc Tryz.prog W 0 (fun _=>true) true Tryz.f6.params.toList args.toList ds p:=hA0
 rw[Tryz.params6] at hA hval hsz
 obtain⟨v0,vs0,d0,ds0,p0,q0,hargs,rfl,rfl,h0,r0⟩:=trodAll_cons hA
 obtain⟨v1,vs1,d1,ds1,p1,q1,rfl,rfl,rfl,h1,r1⟩:=trodAll_cons r0
 obtain⟨v2,vs2,d2,ds2,p2,q2,rfl,rfl,rfl,h2,r2⟩:=trodAll_cons r1
 obtain⟨rfl,rfl,rfl⟩:=trodAll_nil r2
 obtain rfl:args= #[v0,v1,v2]:=by cases args;simp_all
 obtain⟨rfl,rfl⟩:=trodVars_none hV
 have k0:=h0
 have lt0: ∀x∈p0,x.block<W.heap.size:=by obtain⟨m,hm⟩:=k0;exact DataW.trod_lt m _ _ _ hm
 obtain⟨x0,rd0⟩:=v82 Tryz.underlying22 Tryz.underlying5 (by kernel_rfl) (of_decide_eq_true (by kernel_rfl)) (hval 0 22 v0 rfl rfl) h0 (w4p hsz (j:=0) (t:=22) rfl rfl)
 have k1:=h1
 have lt1: ∀x∈p1,x.block<W.heap.size:=by obtain⟨m,hm⟩:=k1;exact DataW.trod_lt m _ _ _ hm
 obtain⟨x1,rd1⟩:=v82 Tryz.underlying22 Tryz.underlying5 (by kernel_rfl) (of_decide_eq_true (by kernel_rfl)) (hval 1 22 v1 rfl rfl) h1 (w4p hsz (j:=1) (t:=22) rfl rfl)
 obtain⟨x2,rfl,rfl,rfl,wx2⟩:=open_int Tryz.underlying3 (hval 2 3 v2 rfl rfl) h2
 have bx2:=wx2
 simp only[Lit.wf,Bool.and_eq_true,decide_eq_true_eq] at bx2
 have blo2: -9223372036854775808<=x2:=by have:=bx2.1;simp[IntKind.min] at this;exact this
 have bhi2:x2<=9223372036854775807:=by have:=bx2.2;simp[IntKind.max] at this;exact this
 refine (Go.En.z39 x0 x1 x2 (v6m W) hG rd0 rd1 (fun _ hk=>Go.En.j3w Go.En.v42 Go.En.v42 hk)).mono fun e W' he=> ?_
 obtain⟨r,rfl,hg,hr⟩:=he
 have hrt:r=true:=hr
 subst hrt
 have bel:=v2u hg.keeps
 exact⟨_,rfl,_,_,_,[],_,[],hW',trodAll_mk1 (shut_bool Tryz.underlying4 _),(trodAll_cons_mk (Below.trod laidOut (by kernel_rfl) (of_decide_eq_true (by kernel_rfl)) k0 bel lt0) (trodAll_cons_mk (Below.trod laidOut (by kernel_rfl) (of_decide_eq_true (by kernel_rfl)) k1 bel lt1) (trodAll_cons_mk (shut_int Tryz.underlying3 wx2) trodAll_mk0))),rfl,bel.frame _,fun h=>by cases h⟩
theorem reads(os:Os){H:Type}(enc:TypeId×Value->H): ∃places,DataW.whole enc Tryz.prog ((World.laidAll Tryz.prog os Rows.trafficMovesRow.laid).forCall (fun _ _=>0) ⟨#[],#[.slice none 0 0,.slice none 0 0,.int .i64 0],[]⟩).memory Tryz.f6.params.toList Rows.trafficMovesSpec.vars false (#[.slice none 0 0,.slice none 0 0,.int .i64 0]:Array Value).toList 8=some ([.nil,.nil,.lit (.int .i64 0)],[],places):=
 ⟨[],by kernel_rfl⟩
theorem lifted(os:Os)(started:os.Started)(H:Type)(enc:TypeId×Value->H)(F:Stop.Interp):
  ReturnsInHanded {} Tryz.checked os 6 .any ((OpenSpec.ofChange Rows.trafficMovesSpec).preRow enc Tryz.prog Tryz.f6 Rows.trafficMovesRow.domain false Rows.trafficMovesRow.laid) (((OpenSpec.ofChange Rows.trafficMovesSpec).at F).post enc Tryz.prog Tryz.f6 false true false false):=by
 obtain⟨places,hx⟩:=reads os enc
 refine returnsInHanded_of_row (C:=Tryz.checked) (s:=(OpenSpec.ofChange Rows.trafficMovesSpec)) own started (by kernel_rfl) Tryz.func6
  (witness_row_atRef (enc:=enc) (C:=Tryz.checked) false (World.laidAll Tryz.prog os Rows.trafficMovesRow.laid) #[.slice none 0 0,.slice none 0 0,.int .i64 0] (World.laidAll_os _ _ _) (by kernel_rfl) (by kernel_rfl) (by kernel_rfl)
   (OpenSpec.preRow_of_cond 8 hx (by kernel_rfl) (fun k hk=>by cases hk) (by kernel_rfl) (by rw[MakeChecks.laidMetH_plain _ _ _ (by kernel_rfl)];exact laidMet_laidAll _ (by kernel_rfl) (by kernel_rfl)))) ?_
 intro W base args ds gs before hval hW _ _ hsz hL hsh _
 exact contract H enc W base args ds gs before hval hW hsz hL hsh
end Go.Proofs.YtflilmgifibgoaaGreatDoor.trafficMoves
end
