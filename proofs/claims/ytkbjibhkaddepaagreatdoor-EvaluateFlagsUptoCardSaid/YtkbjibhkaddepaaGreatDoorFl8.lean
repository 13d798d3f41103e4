/- For every input within the given bound on its size EvaluateFlags returns true and leaves its arguments as they were. This is part 8 of 11. Conditions: those in the statements. -/
import Derived.Test.YtkbjibhkaddepaaGreatDoorRows
import Derived.Test.YtkbjibhkaddepaaGreatDoorCards
import Derived.Test.YtkbjibhkaddepaaGreatDoorTie
import Derived.Test.YtkbjibhkaddepaaGreatDoorFl7
import Derived.KernelRfl
import Derived.WalkKit
import Derived.ProofKit
import Derived.OpenShut
import Derived.Deep.DeepHandedRow
import Derived.Deep.DeepWitnessRowRef
import Derived.Lay
import Derived.SevenTiedAt
noncomputable section
set_option maxRecDepth 100000
namespace Go.En
open Go Go.RowKit Go.Fl Go.Fx
def u8s(l:List UInt8):List Int:=l.map fun b=>((b.toNat:Nat):Int)
theorem u11{l:List UInt8}:Byts (u8s l):=fun x hx=>by
 obtain⟨b,_,rfl⟩:=List.mem_map.1 hx
 have:=b.toNat_lt
 exact⟨by omega,by omega⟩
theorem u7h{σ:Hv}{v:Value}{l:List UInt8}(h:RSl 1 RU8 σ v l):RSl (D.size C.u8) (ElF D C.u8) σ v (u8s l):=by
 obtain⟨a,cap,rfl,h1,h2,h3⟩:=h
 refine⟨a,cap,by simp[u8s],by simpa [u8s] using h1,by simpa [u8s] using h2,fun i x hx=> ?_⟩
 simp only[u8s,List.getElem?_map,Option.map_eq_some_iff] at hx
 obtain⟨b,hb,rfl⟩:=hx
 obtain⟨ad,cs,e1,e2,e3,e4⟩:=h3 i b hb
 have e4:cs=_:=e4
 subst e4
 exact⟨ad,_,e1,rfl,e3,Jc (.int _ _) q97⟩
theorem j0l(x0:List UInt8)(x1:List UInt8)(x2:Subj)(x3:List Frc)(x4:ByteArray){v0:Value}{v1:Value}{v2:List Value}{v3:Value}{σ:Hv}{w:World}(hV:View σ w)(hG:Glb D σ)(rd0:RSl 1 RU8 σ v0 x0)(rd1:RSl 1 RU8 σ v1 x1)(rd2:RowF D σ v2 (D.shape C.subj x2))(rd3:RepF D σ v3 (.sl C.forced x3))(h: ∀K:Bool->Prop,K true->Je (u8s x0) (u8s x1) x2 x3 x4 K):
  Calls Proofs.Tryz.prog 6 #[v0,v1,.agg v2.toArray,v3,.string x4] w fun e w1=> ∃r,e= .returned (.bool r)/\Grow [] σ w σ w1/\r=true:=by
 have he:(Uy Je).m ([.f (.sl C.u8 (u8s x0)),.f (.sl C.u8 (u8s x1)),.el C.subj x2,.f (.sl C.forced x3),.f (.str x4)]:List (Fx.Tr Sg)) (fun rets _=>rets=[.f (.bool true)])=Je (u8s x0) (u8s x1) x2 x3 x4 (fun b=>([.f (.bool b)]:List (Fx.Tr Sg))=[.f (.bool true)]):=by kernel_rfl
 have hp:(Uy Je).m ([.f (.sl C.u8 (u8s x0)),.f (.sl C.u8 (u8s x1)),.el C.subj x2,.f (.sl C.forced x3),.f (.str x4)]:List (Fx.Tr Sg)) (fun rets _=>rets=[.f (.bool true)]):=Eq.mpr he (h _ rfl)
 have hm:=(z98).m _ _ hp w σ [v0,v1,.agg v2.toArray,v3,.string x4] [] hG (LayL.cons (ms:=[]) (.f (RepF.ofRSl okP.ok (u7h rd0))) (LayL.cons (ms:=[]) (.f (RepF.ofRSl okP.ok (u7h rd1))) (LayL.cons (ms:=[]) (.el rd2) (LayL.cons (ms:=[]) (.f rd3) (LayL.cons (ms:=[]) (.f (.str _)) .nil))))) (St.start hV)
 refine Calls.mono hm ?_
 rintro e w1 ⟨rets,outs,rv,σ1,msr,mso,rfl,hK,hLr,_,hS⟩
 subst hK
 cases hLr with
 |cons h1 hn=>
 cases hn
 cases h1 with
 |f hf=>
 cases hf
 exact⟨true,rfl,hS.done.forget,rfl⟩
end Go.En
namespace Go.Proofs.YtkbjibhkaddepaaGreatDoor.evaluateFlagsUpto
open Go Go.RowKit Go.Fl Go.ChangeShapes Go.WideShapes Go.ChangeAt
open Go.ChangeMaps (open_string shut_string)
theorem own:ownKnob Tryz.prog.godebug=none:=by kernel_rfl
theorem laidOut:laidOutB Tryz.prog=true:=by kernel_rfl
theorem contract(H:Type)(enc:TypeId×Value->H)(W:World)(base:Nat)(args:Array Value)(ds gs:List (DataW H))(before:List MemPlace)
  (hval: ∀(j:Nat) t v,Tryz.f6.params[j]? =some t->args[j]? =some v->Value.okWide Tryz.prog W .any base t v)
  (hW:DataW.Whole enc Tryz.prog Tryz.f6.params.toList Rows.evaluateFlagsSpec.vars false W args.toList ds gs before)
  (hsz:(DataW.weightsEach Tryz.prog (Tryz.f6.params.toList++(Rows.OpenSpec.upto Rows.evaluateFlagsSpec).bare.plain.varTypes Tryz.prog) (ds++gs)).all (· <=reachBytes)=true)
  (hL:laidMetH Tryz.prog Rows.evaluateFlagsUptoRow.laid W)(hsh:W.ShapedOpen Tryz.prog)(hcnd: ∀k,(Rows.OpenSpec.upto Rows.evaluateFlagsSpec).cond=some k->k H (ds++gs)=true):
  Calls Tryz.prog 6 args W fun e W'=> ∃v,e= .returned v/\Rows.evaluateFlagsSpec.post enc Tryz.prog Tryz.f6 false true false false W args v W':=by
 have hG:Go.Fx.Glb Go.En.D (hv W):=Go.En.v6o hL hsh
 have hW':=hW
 obtain⟨p,q,hA0,hV,rfl,hfz,hnd⟩:=hW
 have hA:DataW.TrodAll enc Tryz.prog W 0 (fun _=>true) true Tryz.f6.params.toList args.toList ds p:=hA0
 rw[Tryz.params6] at hA hval hsz
 obtain⟨v0,vs0,d0,ds0,p0,q0,hargs,rfl,rfl,h0,r0⟩:=trodAll_cons hA
 obtain⟨v1,vs1,d1,ds1,p1,q1,rfl,rfl,rfl,h1,r1⟩:=trodAll_cons r0
 obtain⟨v2,vs2,d2,ds2,p2,q2,rfl,rfl,rfl,h2,r2⟩:=trodAll_cons r1
 obtain⟨v3,vs3,d3,ds3,p3,q3,rfl,rfl,rfl,h3,r3⟩:=trodAll_cons r2
 obtain⟨v4,vs4,d4,ds4,p4,q4,rfl,rfl,rfl,h4,r4⟩:=trodAll_cons r3
 obtain⟨rfl,rfl,rfl⟩:=trodAll_nil r4
 obtain rfl:args= #[v0,v1,v2,v3,v4]:=by cases args;simp_all
 obtain⟨rfl,rfl⟩:=trodVars_none hV
 have hbk:Rows.uptoBulkAll ([d0,d1,d2,d3,d4]++([]:List (DataW H)))<=1048576:=of_decide_eq_true (hcnd _ rfl)
 simp only[List.cons_append,List.nil_append,Rows.uptoBulkAll] at hbk
 have k0:=h0
 have lt0: ∀x∈p0,x.block<W.heap.size:=by obtain⟨m,hm⟩:=k0;exact DataW.trod_lt m _ _ _ hm
 obtain⟨x0,rd0⟩:=u6s Tryz.underlying22 Tryz.underlying5 (by kernel_rfl) (of_decide_eq_true (by kernel_rfl)) (hval 0 22 v0 rfl rfl) h0 (v9u hsz (j:=0) (t:=22) rfl rfl)
 have k1:=h1
 have lt1: ∀x∈p1,x.block<W.heap.size:=by obtain⟨m,hm⟩:=k1;exact DataW.trod_lt m _ _ _ hm
 obtain⟨x1,rd1⟩:=u6s Tryz.underlying22 Tryz.underlying5 (by kernel_rfl) (of_decide_eq_true (by kernel_rfl)) (hval 1 22 v1 rfl rfl) h1 (v9u hsz (j:=1) (t:=22) rfl rfl)
 have k2:=h2
 have lt2: ∀x∈p2,x.block<W.heap.size:=by obtain⟨m,hm⟩:=k2;exact DataW.trod_lt m _ _ _ hm
 obtain⟨c2,rfl,z2⟩:=okWide_struct Tryz.underlying25 (hval 2 25 v2 rfl rfl)
 have hz2:(Tryz.prog.cellsOf 25)=1:=by kernel_rfl
 obtain⟨m2,hm2⟩:=k2
 have hm2:DataW.trod enc Tryz.prog W 0 (fun _=>true) true m2 25 c2.toList=some (d2,p2):=hm2
 obtain⟨x2,rd2,sz2⟩:=Go.En.u0t (by rw[Array.length_toList,z2,hz2]) hm2 (by simp only;omega)
 have k3:=h3
 have lt3: ∀x∈p3,x.block<W.heap.size:=by obtain⟨m,hm⟩:=k3;exact DataW.trod_lt m _ _ _ hm
 obtain⟨a3,n3,c3,rfl⟩:=okWide_slice Tryz.underlying56 (hval 3 56 v3 rfl rfl)
 obtain⟨m3,hm3⟩:=k3
 obtain⟨x3,v3,hv3,rd3,sz3⟩:=Go.En.y3i hm3 (by simp only;omega)
 cases hv3
 obtain⟨x4,rfl,rfl,rfl,wx4⟩:=open_string Tryz.underlying9 (hval 4 9 v4 rfl rfl) h4
 refine (Go.En.j0l x0 x1 x2 x3 x4 (u3v W) hG rd0 rd1 rd2 rd3 (fun _ hk=>Go.En.w1t Go.En.u11 Go.En.u11 sz2.1 sz2.2 hk)).mono fun e W' he=> ?_
 obtain⟨r,rfl,hg,hr⟩:=he
 have hrt:r=true:=hr
 subst hrt
 have bel:=y9q hg.keeps
 exact⟨_,rfl,_,_,_,[],_,[],hW',trodAll_mk1 (shut_bool Tryz.underlying4 _),(trodAll_cons_mk (Below.trod laidOut (by kernel_rfl) (of_decide_eq_true (by kernel_rfl)) k0 bel lt0) (trodAll_cons_mk (Below.trod laidOut (by kernel_rfl) (of_decide_eq_true (by kernel_rfl)) k1 bel lt1) (trodAll_cons_mk (Below.trod laidOut (by kernel_rfl) (of_decide_eq_true (by kernel_rfl)) h2 bel lt2) (trodAll_cons_mk (Below.trod laidOut (by kernel_rfl) (of_decide_eq_true (by kernel_rfl)) h3 bel lt3) (trodAll_cons_mk (shut_string Tryz.underlying9 wx4) trodAll_mk0))))),rfl,bel.frame _,fun h=>by cases h⟩
theorem reads(os:Os){H:Type}(enc:TypeId×Value->H): ∃places,DataW.whole enc Tryz.prog ((World.laidAll Tryz.prog os Rows.evaluateFlagsUptoRow.laid).forCall (fun _ _=>0) ⟨#[],#[.slice none 0 0,.slice none 0 0,.agg #[.slice none 0 0],.slice none 0 0,.string ⟨#[]⟩],[]⟩).memory Tryz.f6.params.toList Rows.evaluateFlagsSpec.vars false (#[.slice none 0 0,.slice none 0 0,.agg #[.slice none 0 0],.slice none 0 0,.string ⟨#[]⟩]:Array Value).toList 8=some ([.nil,.nil,.agg [.nil],.nil,.lit (.string [])],[],places):=
 ⟨[],by kernel_rfl⟩
theorem lifted(os:Os)(started:os.Started)(H:Type)(enc:TypeId×Value->H)(F:Stop.Interp):
  ReturnsInHanded {} Tryz.checked os 6 .any ((Rows.OpenSpec.upto Rows.evaluateFlagsSpec).preRow enc Tryz.prog Tryz.f6 Rows.evaluateFlagsUptoRow.domain false Rows.evaluateFlagsUptoRow.laid) (((Rows.OpenSpec.upto Rows.evaluateFlagsSpec).at F).post enc Tryz.prog Tryz.f6 false true false false):=by
 obtain⟨places,hx⟩:=reads os enc
 refine returnsInHanded_of_row (C:=Tryz.checked) (s:=(Rows.OpenSpec.upto Rows.evaluateFlagsSpec)) own started (by kernel_rfl) Tryz.func6
  (witness_row_atRef (enc:=enc) (C:=Tryz.checked) false (World.laidAll Tryz.prog os Rows.evaluateFlagsUptoRow.laid) #[.slice none 0 0,.slice none 0 0,.agg #[.slice none 0 0],.slice none 0 0,.string ⟨#[]⟩] (World.laidAll_os _ _ _) (by kernel_rfl) (by kernel_rfl) (by kernel_rfl)
   (OpenSpec.preRow_of_cond 8 hx (by kernel_rfl) (fun k hk=>by cases hk;kernel_rfl) (by kernel_rfl) (by rw[MakeChecks.laidMetH_plain _ _ _ (by kernel_rfl)];exact laidMet_laidAll _ (by kernel_rfl) (by kernel_rfl)))) ?_
 intro W base args ds gs before hval hW _ hcnd hsz hL hsh _
 exact contract H enc W base args ds gs before hval hW hsz hL hsh hcnd
end Go.Proofs.YtkbjibhkaddepaaGreatDoor.evaluateFlagsUpto
end
