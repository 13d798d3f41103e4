/- For every input EvaluateNeeds returns true and leaves its arguments as they were. This is part 5 of 11. Conditions: those in the statements. -/
import Derived.Test.YtkbjibhkaddepaaGreatDoorNd4
import Derived.Lib.AppendIntMem
import Derived.KernelRfl
import Derived.Conc.MuLone
import GoSem.Core.Utf8
import Derived.Lib.ValidU
noncomputable section
set_option maxRecDepth 100000
open Go Go.RowKit Go.Fl Go.Fl.Lk Go.Fx
namespace Go.En
theorem w30{σ:Hv}{w:World}{g:Nat}{T:C}{n:Nat}{l:List (car T)}(hV:View σ w)(hs:SRep D (fun _=>none) σ (.pointer (some ⟨g,0,none⟩)) (.fap T n l)){i j:Nat}{x:car T}{s:FV Sg}(hx:l[i]? =some x)(hj:(D.shape T x)[j]? =some s)(hz:j<D.size T):
  ∃v,w.cell? ⟨g,i*D.size T+j,none⟩=some v/\RepF D σ v s:=by
 generalize hq:Value.pointer (some (⟨g,0,none⟩:Addr))=q at hs
 cases hs with
 |fap ad cs T' N l' hN h hl hr=>
  cases hq
  have hrow:=hr i x hx
  have hlen:=okP.ok.len T x
  have hjl:j<((cs.drop (i*D.size T)).take (D.size T)).length:=by rw[hrow.1,hlen];exact hz
  obtain⟨v,hv⟩: ∃v,((cs.drop (i*D.size T)).take (D.size T))[j]? =some v:=⟨_,List.getElem?_eq_getElem hjl⟩
  refine⟨v,?_,hrow.2 j v s hv hj⟩
  rw[List.getElem?_take,if_pos hz,List.getElem?_drop] at hv
  have:=hV.cell (h _ v hv)
  rw[V0,Nat.zero_add] at this
  exact this
theorem y2c: ∀c,c<256->v2m[c]? =some ((Go.Lib.firstT c:Nat):Int):=by decide
theorem y9j: ∀i,i<16->(j7w[i]?).map (fun a=>(a.lo,a.hi))=some (((Go.Lib.accLo i:Nat):Int),((Go.Lib.accHi i:Nat):Int)):=by decide
theorem tabs{σ:Hv}{w:World}(hV:View σ w)(hG:Glb D σ):Go.Lib.Utf8Tabs (Proofs.Tryz.lays196_ren.g 3) (Proofs.Tryz.lays196_ren.g 4) w:=by
 refine⟨fun c hc=> ?_,fun i hi=> ?_⟩
 ·have h:=hG.known (Proofs.Tryz.lays196_ren.g 3)
  obtain⟨v,h1,h2⟩:=w30 (T:= .u8) (n:=256) (l:=v2m) hV h (i:=c) (j:=0) (s:= .int .u8 ((Go.Lib.firstT c:Nat):Int)) (y2c c hc) rfl (by decide)
  cases h2
  simpa [show D.size C.u8=1 from rfl] using h1
 ·have h:=hG.known (Proofs.Tryz.lays196_ren.g 4)
  have ha:=y9j i hi
  obtain⟨a,e1,e2⟩:=Option.map_eq_some_iff.1 ha
  obtain⟨v,h1,h2⟩:=w30 (T:= .acc) (n:=16) (l:=j7w) hV h (i:=i) (j:=0) (s:= .int .u8 a.lo) e1 rfl (by decide)
  obtain⟨v',h1',h2'⟩:=w30 (T:= .acc) (n:=16) (l:=j7w) hV h (i:=i) (j:=1) (s:= .int .u8 a.hi) e1 rfl (by decide)
  cases h2;cases h2'
  simp only[Prod.mk.injEq] at e2
  rw[e2.1] at h1;rw[e2.2] at h1'
  refine⟨by rw[Nat.mul_comm];simpa [show D.size C.acc=2 from rfl] using h1,by rw[Nat.mul_comm];simpa [show D.size C.acc=2 from rfl] using h1'⟩
theorem w9w{w w':World}(h:Below w.heap.size w w'):Keeps [] w w':=⟨h.os,h.tape,h.output,h.size,fun k hk _=>h.block k hk⟩
theorem q75{σ:Hv}{w w1:World}{args:List (Tr Sg)}{vals:List Value}{K:List (Tr Sg)->List (Tr Sg)->Prop}{rets outs:List (Tr Sg)}{rv:List Value}(hS:St ⟨w,σ,feet []⟩ w σ [])(hK:K rets outs)(hb:Below w.heap.size w w1)(hL:LayL D σ rets rv [])(hT:LayT D σ args outs vals [] []):
  Back D σ w args vals [] K (.returned (retV rv)) w1:=by
 have hk:=w9w hb
 refine⟨rets,outs,rv,σ,[],[],rfl,hK,hL,hT,?_⟩
 refine⟨hk,fun b o hbo=> ?_,Sub.refl _,fun _ _ _=>rfl,by simp,by simp,by simp,by simp⟩
 have h1:=hS.view b o hbo
 have hlt:b<w.heap.size:=by
  rcases Nat.lt_or_ge b w.heap.size with h|h
  ·exact h
  ·rw[Array.getElem?_eq_none h] at h1;cases h1
 rw[hk.block b hlt (by simp)];exact h1
theorem j09:z1g Proofs.Tryz.prog D 206 (conV ([.v]:LP) ([.str]:LV) ([.bool]:LV) ([.same]:LV) (fun a K=>Jy a.1 (fun q0=>K (q0,()) ((),())))):=by
 intro args K hm w σ vals ins hG hL hS
 obtain⟨a,ha,hm⟩:=Qg hm
 have hargs:=Vj ha
 subst hargs
 obtain⟨s,_⟩:=a
 cases hL with
 |cons hp hr=>
 cases hr
 cases hp with
 |f hf=>
 cases hf
 have hm:s.size<=9223372036854775807/\K [.f (.bool (Go.Lib.validD s.data.toList))] [.same]:=hm
 refine Calls.mono (Go.Proofs.Any.utf8_ValidString Proofs.Tryz.lays196 s w hm.1 (tabs hS.view hG)) ?_
 rintro e w' ⟨rfl,hb⟩
 exact q75 (rv:=[.bool (Go.Lib.validD s.data.toList)]) hS hm.2 hb (.cons (ms:=[]) (.f (.bool _)) .nil) (.skip (a0:=[]) .nil)
theorem j1a:z1g Proofs.Tryz.prog D 251 (conV ([.v,.v]:LP) ([.str,.str]:LV) ([.bool]:LV) ([.same,.same]:LV) (fun a K=>q2j a.1 a.2.1 (fun q0=>K (q0,()) ((),(),())))):=by
 intro args K hm w σ vals ins hG hL hS
 obtain⟨a,ha,hm⟩:=Qg hm
 have hargs:=Vj ha
 subst hargs
 obtain⟨s,t,_⟩:=a
 cases hL with
 |cons hp hr=>
 cases hr with
 |cons hq hr=>
 cases hr
 cases hp with
 |f hf=>
 cases hf
 cases hq with
 |f hf=>
 cases hf
 have hm:s.size<4294967281/\K [.f (.bool (Go.Lib.contains s.data.toList t.data.toList))] [.same,.same]:=hm
 obtain⟨n,hn⟩:=hG.free 6 .i64 rfl
 refine Calls.mono (Proofs.Tryz.strings_Contains s t n w hm.1 (hS.view.cell hn)) ?_
 rintro e w' ⟨rfl,rfl⟩
 exact q75 (rv:=[.bool (Go.Lib.contains s.data.toList t.data.toList)]) hS hm.2 (Below.refl _ _) (.cons (ms:=[]) (.f (.bool _)) .nil) (.skip (a0:=[]) (.skip (a0:=[]) .nil))
theorem w0g:z1g Proofs.Tryz.prog D 318 (conV ([.v]:LP) ([.str]:LV) ([.int .i64,.ifc]:LV) ([.same]:LV) (fun a K=>q4z a.1 (fun q0 q1=>K (q0,q1,()) ((),())))):=by
 intro args K hm w σ vals ins hG hL hS
 obtain⟨a,ha,hm⟩:=Qg hm
 have hargs:=Vj ha
 subst hargs
 obtain⟨s,_⟩:=a
 cases hL with
 |cons hp hr=>
 cases hr
 cases hp with
 |f hf=>
 cases hf
 have hm:s.size<=281474976710656/\y2b s (fun n b=>K [.f (.int .i64 n),.f (.ifc b)] [.same]):=hm
 obtain⟨hsz,hm⟩:=hm
 have err: ∀g:Nat,D.glob g= .fptr [.ifc false] 0-> ∃ev,w.cell? ⟨g,0,none⟩=some ev/\(ev= .nilIface∨ ∃te pe,ev= .iface te pe):=by
  intro g hg
  have h:=hG.known g
  rw[hg] at h
  generalize hq:Value.pointer (some (⟨g,0,none⟩:Addr))=q at h
  cases h with
  |fptr ad cs l off hv hr=>
  cases hq
  obtain⟨v,hvl⟩: ∃v,cs=[v]:=List.length_eq_one_iff.1 hr.1
  subst hvl
  have hc:=hS.view.cell (hv 0 v rfl)
  have hR:=hr.2 0 v _ rfl rfl
  refine⟨v,?_,?_⟩
  ·rw[V0] at hc;exact hc
  ·cases hR with
   |ifcS t p=>exact .inr ⟨t,p,rfl⟩
 unfold y2b at hm
 split at hm
 ·rename_i v hv
  refine Calls.mono (Proofs.Tryz.strconv_Atoi_ok s (by omega) v hv w) ?_
  rintro e w' ⟨rfl,hw⟩
  have hb:Below w.heap.size w w':=by
   rcases hw with rfl|⟨t,rfl⟩
   ·exact Below.refl _ _
   ·exact Go.Lib.bytesWorld_below _ _ _
  exact q75 (rv:=[.int .i64 v,.nilIface]) hS hm hb (.cons (ms:=[]) (.f (.int _ _)) (.cons (ms:=[]) (.f .ifcN) .nil)) (.skip (a0:=[]) .nil)
 ·rename_i hv
  obtain⟨ev,h1,h2⟩:=err 10 rfl
  refine Calls.mono (Proofs.Tryz.strconv_Atoi_range s hsz hv ev w h1 h2) ?_
  rintro e w' ⟨N,rfl,_,_,hb⟩
  exact q75 (rv:=[.int .i64 _,.iface _ _]) hS hm hb (.cons (ms:=[]) (.f (.int _ _)) (.cons (ms:=[]) (.f (.ifcS _ _)) .nil)) (.skip (a0:=[]) .nil)
 ·rename_i hv
  obtain⟨ev,h1,h2⟩:=err 9 rfl
  refine Calls.mono (Proofs.Tryz.strconv_Atoi_syntax s hsz hv ev w h1 h2) ?_
  rintro e w' ⟨N,rfl,_,_,hb⟩
  exact q75 (rv:=[.int .i64 _,.iface _ _]) hS hm hb (.cons (ms:=[]) (.f (.int _ _)) (.cons (ms:=[]) (.f (.ifcS _ _)) .nil)) (.skip (a0:=[]) .nil)
theorem w0h:z1g Proofs.Tryz.prog D 164 (conV ([.v]:LP) ([.int .i64]:LV) ([.str]:LV) ([.same]:LV) (fun a K=>z0z a.1 (fun q0=>K (q0,()) ((),())))):=by
 intro args K hm w σ vals ins hG hL hS
 obtain⟨a,ha,hm⟩:=Qg hm
 have hargs:=Vj ha
 subst hargs
 obtain⟨i,_⟩:=a
 cases hL with
 |cons hp hr=>
 cases hr
 cases hp with
 |f hf=>
 cases hf
 have hm:InI i/\K [.f (.str ⟨(Go.Lib.itoa i).toArray⟩)] [.same]:=hm
 obtain⟨t,q,hb⟩:=hG.blk 5 _ rfl
 have htab:Go.Lib.TabIs Proofs.Tryz.prog w "internal/strconv.uint64pow10" .u64 Go.Lib.pow10Tab:=by
  unfold Go.Lib.TabIs World.var?
  rw[show (Proofs.Tryz.prog).globalNamed "internal/strconv.uint64pow10" =some 5 by kernel_rfl,Option.bind_some,hS.view _ _ hb]
  kernel_rfl
 refine Calls.mono (Proofs.Tryz.strconv_Itoa i hm.1.1 hm.1.2 w htab) ?_
 rintro e w' ⟨rfl,k,os,rfl⟩
 exact q75 (rv:=[.string ⟨(Go.Lib.itoa i).toArray⟩]) hS hm.2 (Go.Lib.below_grow _ _ (Nat.le_refl _) _ _) (.cons (ms:=[]) (.f (.str _)) .nil) (.skip (a0:=[]) .nil)
theorem j6p(l:List ByteArray):l.flatMap Qf=l.map Value.string:=by
 induction l with
 |nil=>rfl
 |cons a l ih=>rw[List.flatMap_cons,List.map_cons,ih];rfl
theorem y9k(l:List ByteArray):(cpt l).length<=l.length:=by
 unfold cpt Go.Lib.compact
 rw[List.length_map]
 have h: ∀(d:Array (List UInt8)) (m:Nat),(Go.Lib.compactUpTo d m).length<=m:=by
  intro d m
  unfold Go.Lib.compactUpTo
  rw[List.length_map]
  exact Nat.le_trans (List.length_filter_le _ _) (by simp)
 simpa using h _ _
theorem v8a{σ:Hv}{xs:List Value}{l:List ByteArray}(h:Els D σ C.str xs l):xs=l.flatMap Qf:=by
 have h1:xs.length=l.length:=by rw[h.1];exact Nat.mul_one _
 rw[j6p]
 refine List.ext_getElem? fun i=> ?_
 rw[List.getElem?_map]
 rcases Nat.lt_or_ge i l.length with hi|hi
 ·obtain⟨v,hv⟩: ∃v,xs[i]? =some v:=⟨_,List.getElem?_eq_getElem (by omega)⟩
  obtain⟨x,hx⟩: ∃x,l[i]? =some x:=⟨_,List.getElem?_eq_getElem hi⟩
  have hR:=(h.2 i x hx).2 0 v (.str x) (by rw[show D.size C.str=1 from rfl,Nat.mul_one,List.getElem?_take,if_pos (by decide),List.getElem?_drop];exact hv) rfl
  rw[hv,hx]
  cases hR
  rfl
 ·rw[List.getElem?_eq_none (by omega),List.getElem?_eq_none hi];rfl
theorem w31(σ:Hv)(l:List ByteArray):Els D σ C.str (l.flatMap Qf) l:=by
 rw[j6p]
 refine⟨by rw[List.length_map];exact (Nat.mul_one _).symm,fun i x hx=> ?_⟩
 rw[show D.size C.str=1 from rfl,Nat.mul_one]
 have hx:l[i]? =some x:=hx
 have e:((l.map Value.string).drop i).take 1=[.string x]:=by
  rw[←List.map_drop,List.drop_eq_getElem_cons (List.getElem?_eq_some_iff.1 hx).1,(List.getElem?_eq_some_iff.1 hx).2];rfl
 rw[e]
 refine⟨rfl,fun j v s hj hs=> ?_⟩
 cases j with
 |zero=>cases hj;cases hs;exact .str x
 |succ j=>cases hj
theorem q69:z1g Proofs.Tryz.prog D 137 (conV ([.own 9 C.str]:LP) ([.vec 9 C.str]:LV) ([]:LV) ([.vec 9 C.str]:LV) (fun a K=>Jv a.1 (fun q0=>K () (q0,())))):=by
 intro args K hm w σ vals ins hG hL hS
 obtain⟨a,ha,hm⟩:=Qg hm
 have hargs:=Vj ha
 subst hargs
 obtain⟨s,_⟩:=a
 cases hL with
 |cons hp hr=>
 cases hr
 cases hp with
 |vec hE hl h1=>
 have hx:=v8a hE
 subst hx
 have hm:K [] [.vec 9 C.str (srt s)]:=hm
 refine Calls.mono (v1q Proofs.Tryz.slices_Sort_string Proofs.Tryz.slices_Sort_string_none hS.view (hS.get (i:=0) rfl) rfl (fun b hb=>hS.off _ (List.mem_of_getElem? (i:=0) rfl) b hb) (by omega)) ?_
 rintro _ w1 ⟨rfl,hg,ho⟩
 have hS1:=hS.growV (i:=0) (o':=vec _ 9 1 s.length ((srt s).flatMap Qf)) rfl hg rfl ho (ms':=[vec _ 9 1 s.length ((srt s).flatMap Qf)]) rfl
 refine⟨[],_,[],σ,[],[vec _ 9 1 (srt s).length ((srt s).flatMap Qf)],rfl,hm,.nil,.keep (.vec (w31 σ _) (Nat.le_trans (Nat.le_of_eq (J7 _)) hl) h1) .nil,?_⟩
 have e:(srt s).length=s.length:=J7 _
 rw[e];exact hS1
theorem q4d:z1g Proofs.Tryz.prog D 220 (conV ([.own 9 C.str]:LP) ([.vec 9 C.str]:LV) ([.vec 9 C.str]:LV) ([.same]:LV) (fun a K=>Wa a.1 (fun q0=>K (q0,()) ((),())))):=by
 intro args K hm w σ vals ins hG hL hS
 obtain⟨a,ha,hm⟩:=Qg hm
 have hargs:=Vj ha
 subst hargs
 obtain⟨s,_⟩:=a
 cases hL with
 |cons hp hr=>
 cases hr
 cases hp with
 |vec hE hl h1=>
 have hx:=v8a hE
 subst hx
 have hm:K [.vec 9 C.str (cpt s)] [.same]:=hm
 refine Calls.mono (j69 Proofs.Tryz.slices_Compact_string Proofs.Tryz.slices_Compact_string_empty hS.view (hS.get (i:=0) rfl) rfl (fun b hb=>hS.off _ (List.mem_of_getElem? (i:=0) rfl) b hb) (by omega)) ?_
 rintro _ w1 ⟨v1,rfl,hf,hg,ho⟩
 have hlc:(cpt s).length<=140737488355328:=Nat.le_trans (y9k _) hl
 have hS1:=hS.growV (i:=0) (o':=vec v1 9 1 (cpt s).length ((cpt s).flatMap Qf)) rfl hg hf ho (ms':=[vec v1 9 1 (cpt s).length ((cpt s).flatMap Qf)]) rfl
 exact⟨[.vec 9 C.str (cpt s)],[.same],[v1],σ,[vec v1 9 1 (cpt s).length ((cpt s).flatMap Qf)],[],rfl,hm,.cons (.vec (w31 σ _) hlc (q0r ho)) .nil,.skip .nil,hS1⟩
theorem y6l{σ:Hv}{v:Value}{l:List ByteArray}(h:RepF D σ v (.sl C.str l)):RSl 1 (REnc Qf) σ v l:=by
 obtain⟨a,cap,e1,e2,e3,e4⟩:=h.toRSl okP.ok
 refine⟨a,cap,e1,e2,e3,fun i x hx=> ?_⟩
 obtain⟨ad,cs,f1,f2,f3,f4⟩:=e4 i x hx
 refine⟨ad,cs,f1,f2,f3,?_⟩
 obtain⟨u,rfl⟩: ∃u,cs=[u]:=List.length_eq_one_iff.1 f2
 have g1:=f4.2 0 u (.str x) rfl rfl
 cases g1
 rfl
theorem y2d{σ:Hv}{v:Value}{l:List Edg}(h:RepF D σ v (.sl C.edge l)):RSl 2 (REnc y8q) σ v (l.map fun e=>(e.1,e.2)):=by
 obtain⟨a,cap,e1,e2,e3,e4⟩:=h.toRSl okP.ok
 have hl:(l.map fun e=>(e.1,e.2)).length=l.length:=List.length_map ..
 refine⟨a,cap,by rw[hl];exact e1,by rw[hl];exact e2,by rw[hl];exact e3,fun i x hx=> ?_⟩
 rw[List.getElem?_map] at hx
 obtain⟨y,hy,rfl⟩:=Option.map_eq_some_iff.1 hx
 obtain⟨ad,cs,f1,f2,f3,f4⟩:=e4 i y hy
 refine⟨ad,cs,f1,f2,f3,?_⟩
 obtain⟨u,v,rfl⟩: ∃u v,cs=[u,v]:=by
  match cs,f2 with
  |[u,v],_=>exact⟨u,v,rfl⟩
 have g1:=f4.2 0 u (.str y.src) rfl rfl
 have g2:=f4.2 1 v (.str y.dst) rfl rfl
 cases g1;cases g2
 rfl
theorem w32:z1g Proofs.Tryz.prog D 178 (conV ([.sl C.str,.sl C.edge]:LP) ([.sl C.str,.sl C.edge]:LV) ([.vec 9 C.str,.int .i64]:LV) ([.same,.same]:LV) (fun a K=>P_graph_Order a.1 a.2.1 (fun q0 q1=>K (q0,q1,()) ((),(),())))):=by
 intro args K hm w σ vals ins hG hL hS
 obtain⟨a,ha,hm⟩:=Qg hm
 have hargs:=Vj ha
 subst hargs
 obtain⟨s,t,_⟩:=a
 cases hL with
 | @cons _ _ v1 _ _ _ hp hr=>
 cases hr with
 | @cons _ _ v2 _ _ _ hq hr=>
 cases hr
 cases hp with
 |f hf1=>
 cases hq with
 |f hf2=>
 have hm:Go.Fl.P_graph_Order s (t.map fun e=>(e.1,e.2)) (fun l n=>K [.vec 9 C.str l,.f (.int .i64 n)] [.same,.same]):=hm
 refine Calls.mono (Go.Proofs.YtkbjibhkaddepaaGreatDoor.w_graph_Order s (t.map fun e=>(e.1,e.2)) v1 v2 hS.view (y6l hf1) (y2d hf2) hm) ?_
 rintro e w1 ⟨l,n,v,rfl,hS1,hsm,hK⟩
 have hl:l.length<=140737488355328:=by unfold Sml at hsm;omega
 exact⟨[.vec 9 C.str l,.f (.int .i64 n)],[.same,.same],[v,.int .i64 n],σ,[vec v 9 1 l.length (l.flatMap Qf)],[],rfl,hK,.cons (.vec (w31 σ _) hl (q0r (hS1.get (i:=0) rfl))) (.cons (ms:=[]) (.f (.int _ _)) .nil),.skip (a0:=[]) (.skip (a0:=[]) .nil),hS1⟩
theorem j76:z1g Proofs.Tryz.prog D 302 (conV ([.v,.v]:LP) ([.str,.str]:LV) ([.vec 9 C.str]:LV) ([.same,.same]:LV) (fun a K=>q8y a.1 a.2.1 (fun q0=>K (q0,()) ((),(),())))):=by
 intro args K hm w σ vals ins hG hL hS
 obtain⟨a,ha,hm⟩:=Qg hm
 have hargs:=Vj ha
 subst hargs
 obtain⟨s,t,_⟩:=a
 cases hL with
 |cons hp hr=>
 cases hr with
 |cons hq hr=>
 cases hr
 cases hp with
 |f hf=>
 cases hf
 cases hq with
 |f hf=>
 cases hf
 have hm:t.size=1/\s.size<4294967281/\K [.vec 9 C.str (q1b s t)] [.same,.same]:=hm
 obtain⟨h1,hsz,hm⟩:=hm
 obtain⟨n,hn⟩:=hG.free 6 .i64 rfl
 have hlen:(q1b s t).length=Go.Lib.countB s t+1:=Go.Lib.splitB_all t (by omega) 0 _ s rfl
 have hcnt:=Go.Lib.countB_le t (by omega) s.size s (Nat.le_refl _)
 refine Calls.mono (Proofs.Tryz.strings_Split s t n w hsz (hS.view.cell hn) (by omega)) ?_
 rintro e w' ⟨rfl,rfl⟩
 have ho:(vec (.slice (some ⟨w.heap.size,0,none⟩) (q1b s t).length (q1b s t).length) 9 1 (q1b s t).length ((q1b s t).flatMap Qf)).ok (w.alloc (.cells ((q1b s t).map Value.string).toArray 9)):=by
  refine⟨by rw[j6p];simp,.inr ⟨w.heap.size,_,_,rfl,Nat.zero_le _,heap_alloc_new _ _,Nat.le_refl _,by unfold maxLen;omega,by simp,?_⟩⟩
  rw[j6p,Nat.mul_one]
  exact List.take_of_length_le (by rw[List.length_map];exact Nat.le_refl _)
 have hS1:=hS.add (Vi w _) ho (by rintro k ⟨⟩;exact Nat.le_refl _)
 have hl:(q1b s t).length<=140737488355328:=by omega
 have hr:=(⟨[.vec 9 C.str (q1b s t)],[.same,.same],[_],σ,[_],[],rfl,hm,.cons (.vec (w31 σ _) hl (q0r ho)) .nil,.skip (a0:=[]) (.skip (a0:=[]) .nil),hS1⟩:Back D σ w [.f (.str s),.f (.str t)] [.string s,.string t] [] K (.returned (retV [.slice (some ⟨w.heap.size,0,none⟩) (q1b s t).length (q1b s t).length])) (w.alloc (.cells ((q1b s t).map Value.string).toArray 9)))
 rw[hlen] at hr
 exact hr
end Go.En
end
noncomputable section
set_option maxRecDepth 100000
open Go Go.RowKit Go.Fl Go.Fl.Lk Go.Fx
namespace Go.En
def q5t(X:W9):Con Sg:=conS [] [.vec 111 C.decl] fun a K=>X (fun q0=>K (q0,()))
theorem q95:MT 29 (q5t Ge):=mS (l:=[]) trivial []
def v2r(X:j6k):Con Sg:=conV [.ptr 92 [.c,.v]] [.ptr 92 [.sl C.u8,.int .i64]] [.bool] [.ptr 92 [.same,.int .i64]] fun a K=>X a.1.1 a.1.2.1 (fun q0 q1=>K (q0,()) (((),q1,()),()))
theorem y2e:MT 61 (v2r w3n):=mP (rk:=[.v]) (l:=[]) trivial []
def Uh(X:Zi):Con Sg:=conV [.ptr 92 [.c,.v],.v] [.ptr 92 [.sl C.u8,.int .i64],.int .i64] [.int .i64] [.ptr 92 [.same,.int .i64],.same] fun a K=>X a.1.1 a.1.2.1 a.2.1 (fun q0 q1=>K (q0,()) (((),q1,()),(),()))
theorem y2f{j6x:j6k}(h:AL [(61,v2r j6x)]):MT 30 (Uh (w3o j6x)):=mP (rk:=[.v]) h []
theorem G0:MT 30 (Uh Wf):=y2f ⟨y2e,trivial⟩
def z7h(X:q1p):Con Sg:=conV [.ptr 92 [.c,.v]] [.ptr 92 [.sl C.u8,.int .i64]] [.str] [.ptr 92 [.same,.int .i64]] fun a K=>X a.1.1 a.1.2.1 (fun q0 q1=>K (q0,()) (((),q1,()),()))
theorem y2g{Qb:Zi}(h:AL [(30,Uh Qb)]):MT 31 (z7h (w3p Qb)):=mP (rk:=[.v]) h []
theorem j6q:MT 31 (z7h z2i):=y2g ⟨G0,trivial⟩
def j1b(X:q6t):Con Sg:=conV [.ptr 92 [.c,.v],.v] [.ptr 92 [.sl C.u8,.int .i64],.int .i64] [.int .i64] [.ptr 92 [.same,.int .i64],.same] fun a K=>X a.1.1 a.1.2.1 a.2.1 (fun q0 q1=>K (q0,()) (((),q1,()),(),()))
theorem y2h{Qb:Zi}(h:AL [(30,Uh Qb)]):MT 32 (j1b (w3q Qb)):=mP (rk:=[.v]) h []
theorem w33:MT 32 (j1b z6y):=y2h ⟨G0,trivial⟩
def w34(X:z6z):Con Sg:=conS [.int .i64,.vec 9 C.str] [.sl C.str] fun a K=>X a.1 a.2.1 (fun q0=>K (q0,()))
theorem v2s:MT 34 (w34 j6l):=mS (l:=[]) trivial []
def j6r(X:z2j):Con Sg:=conV [.ptr 92 [.c,.v]] [.ptr 92 [.sl C.u8,.int .i64]] [.vec 9 C.str] [.ptr 92 [.same,.int .i64]] fun a K=>X a.1.1 a.1.2.1 (fun q0 q1=>K (q0,()) (((),q1,()),()))
theorem y2i{Qb:Zi}(h:AL [(30,Uh Qb)]):MT 62 (j6r (w3r Qb)):=mP (rk:=[.own 9 C.str]) h [(9,⟨bl 397,[],[(0,(92,2))],[(.slot 4,.own 9 C.str),sI 5,(.cell 0 1,.int .i64)]⟩),(17,⟨bl 8121,[0],[],[sI 6,(.obj 1,.own 9 C.str)]⟩)]
theorem v2t:MT 62 (j6r j0t):=y2i ⟨G0,trivial⟩
def w35(X:z83):Con Sg:=conV [.ptr 92 [.c,.v]] [.ptr 92 [.sl C.u8,.int .i64]] [.str] [.ptr 92 [.same,.int .i64]] fun a K=>X a.1.1 a.1.2.1 (fun q0 q1=>K (q0,()) (((),q1,()),()))
theorem y6m{Qb:Zi}(h:AL [(30,Uh Qb)]):MT 70 (w35 (w9t Qb)):=mP (rk:=[.v]) h []
theorem v8b:MT 70 (w35 j7x):=y6m ⟨G0,trivial⟩
def z5g(X:q1q):Con Sg:=conV [.ptr 92 [.c,.v],.v] [.ptr 92 [.sl C.u8,.int .i64],.int .i64] [.el C.val] [.ptr 92 [.same,.int .i64],.same] fun a K=>X a.1.1 a.1.2.1 a.2.1 (fun q0 q1=>K (q0,()) (((),q1,()),(),()))
theorem v8c{Qb:Zi}{Wq:q1p}(h:AL [(30,Uh Qb),(31,z7h Wq)]):MT 64 (z5g (j0u Qb Wq)):=mP (rk:=[.el C.val]) h []
theorem j77:MT 64 (z5g B0):=v8c ⟨G0,j6q,trivial⟩
def w36(X:j6m):Con Sg:=conV [.ptr 92 [.c,.v]] [.ptr 92 [.sl C.u8,.int .i64]] [.el C.ex] [.ptr 92 [.same,.int .i64]] fun a K=>X a.1.1 a.1.2.1 (fun q0 q1=>K (q0,()) (((),q1,()),()))
theorem y2j{Q1:W9}{Qb:Zi}{z35:z83}{Jk:q1q}(h:AL [(29,q5t Q1),(30,Uh Qb),(70,w35 z35),(64,z5g Jk)]):MT 105 (w36 (w3s Q1 Qb z35 Jk)):=mP (rk:=[.el C.ex]) h [(68,⟨bl 4286840701,[3,2],[(5,(66,5)),(0,(92,2)),(1,(66,5))],[(.cell 5 0,.int .i64),(.cell 5 1,.str),(.cell 5 2,.str),(.cell 5 3,.own 72 C.val),(.cell 5 4,.own 66 C.ex),(.cell 0 1,.int .i64),(.cell 1 0,.int .i64),(.cell 1 1,.str),(.cell 1 2,.str),(.cell 1 3,.own 72 C.val),(.cell 1 4,.own 66 C.ex)]⟩),(60,⟨bl 17163319925,[],[(0,(92,2)),(5,(66,5)),(1,(66,5))],[(.cell 0 1,.int .i64),(.cell 5 0,.int .i64),(.cell 5 1,.str),(.cell 5 2,.str),(.cell 5 3,.own 72 C.val),(.cell 5 4,.own 66 C.ex),(.cell 1 0,.int .i64),(.cell 1 1,.str),(.cell 1 2,.str),(.cell 1 3,.own 72 C.val),(.cell 1 4,.own 66 C.ex)]⟩),(37,⟨bl 1055806024022645,[1],[(5,(66,5)),(0,(92,2))],[sI 7,(.cell 5 3,.own 72 C.val),(.cell 0 1,.int .i64)]⟩)]
theorem y2k:MT 105 (w36 z60):=y2j ⟨q95,G0,v8b,j77,trivial⟩
def w37(X:q6u):Con Sg:=conV [.ptr 92 [.c,.v],.sl C.str,.v] [.ptr 92 [.sl C.u8,.int .i64],.sl C.str,.int .i64] [.el C.ex] [.ptr 92 [.same,.int .i64],.same,.same] fun a K=>X a.1.1 a.1.2.1 a.2.1 a.2.2.1 (fun q0 q1=>K (q0,()) (((),q1,()),(),(),()))
theorem v2u:MT 63 (w37 j0v):=by
 show MT _ (conV ([.ptr 92 [.c,.v],.sl C.str,.v]:LP) ([.ptr 92 [.sl C.u8,.int .i64],.sl C.str,.int .i64]:LV) ([.el C.ex]:LV) ([.ptr 92 [.same,.int .i64],.same,.same]:LV) fun a K=>j0v a.1.1 a.1.2.1 a.2.1 a.2.2.1 (fun q0 q1=>K (q0,()) (((),q1,()),(),(),())))
 exact mQ (l:=[(30,Uh Wf),(105,w36 z60)]) (u:=4) (rk:=[.el C.ex]) ⟨G0,y2k,trivial⟩ (by kernel_rfl) [(8,⟨bl 24647,[0,1],[],[sI 7]⟩),(28,⟨bl 3298996281543,[0,1],[],[sB 49]⟩),(37,⟨bl 1148984153929181127,[1],[(0,(92,2)),(4,(66,5))],[sI 11,(.cell 0 1,.int .i64),(.cell 4 0,.int .i64),(.cell 4 1,.str),(.cell 4 2,.str),(.cell 4 3,.own 72 C.val),(.cell 4 4,.own 66 C.ex)]⟩),(46,⟨bl 1152917567256169316295,[0,12,11,4],[(13,(66,5))],[(.cell 13 0,.int .i64),(.cell 13 1,.str),(.cell 13 2,.str),(.cell 13 3,.sl C.val),(.cell 13 4,.sl C.ex)]⟩)] (fun X a K=>j6n Wf z60 (fun list at_ segments levels K=>X ((list,at_,()),segments,levels,()) fun r o=>K r.1 o.1.2.1) a.1.1 a.1.2.1 a.2.1 a.2.2.1 (fun q0 q1=>K (q0,()) (((),q1,()),(),(),()))) (fun _ _ _=>by kernel_rfl) fun a K h X hX=>h (fun list at_ segments levels K=>X ((list,at_,()),segments,levels,()) fun r o=>K r.1 o.1.2.1) fun list at_ segments levels K hs=>hX ((list,at_,()),segments,levels,()) (fun r o=>K r.1 o.1.2.1) hs
def z5h(X:q5i):Con Sg:=conV [.ptr 92 [.c,.v],.ptr 46 [.v,.v,.v,.sl C.decl,.own 144 C.seg,.own 34 C.flag,.own 102 C.layer,.own 68 C.exper]] [.ptr 92 [.sl C.u8,.int .i64],.ptr 46 [.str,.str,.int .i64,.sl C.decl,.vec 144 C.seg,.vec 34 C.flag,.vec 102 C.layer,.vec 68 C.exper]] [] [.ptr 92 [.same,.int .i64],.ptr 46 [.str,.str,.int .i64,.sl C.decl,.vec 144 C.seg,.vec 34 C.flag,.vec 102 C.layer,.vec 68 C.exper]] fun a K=>X a.1.1 a.1.2.1 a.2.1.1 a.2.1.2.1 a.2.1.2.2.1 a.2.1.2.2.2.1 a.2.1.2.2.2.2.1 a.2.1.2.2.2.2.2.1 a.2.1.2.2.2.2.2.2.1 a.2.1.2.2.2.2.2.2.2.1 (fun q0 q1 q2 q3 q4 q5 q6 q7 q8=>K () (((),q0,()),(q1,q2,q3,q4,q5,q6,q7,q8,()),()))
theorem w68{Qb:Zi}{q3f:z6z}{q46:z2j}{q47:q6u}(h:AL [(30,Uh Qb),(34,w34 q3f),(62,j6r q46),(63,w37 q47)]):MT 33 (z5h (z43 Qb q3f q46 q47)):=mP (rk:=[]) h [(5,⟨bl 1427,[3,4,5],[(0,(92,2)),(1,(46,8))],[sI 5,(.cell 0 1,.int .i64),(.cell 1 4,.own 144 C.seg)]⟩),(14,⟨bl 67010035,[11,10,9,1],[(12,(144,9)),(0,(92,2))],[(.cell 12 1,.str),(.cell 0 1,.int .i64)]⟩),(18,⟨bl 67010035,[11,10,9,1],[(12,(144,9)),(0,(92,2))],[(.cell 12 4,.int .i64),(.cell 12 5,.str),(.cell 12 6,.str),(.cell 12 7,.sl C.val),(.cell 12 8,.sl C.ex),(.cell 0 1,.int .i64)]⟩)]
theorem w69:MT 33 (z5h q9t):=w68 ⟨G0,v2s,v2t,v2u,trivial⟩
end Go.En
end
noncomputable section
set_option maxRecDepth 100000
open Go Go.RowKit Go.Fl Go.Fl.Lk Go.Fx
namespace Go.En
def z5i(X:q1r):Con Sg:=conS [.el C.env] [.vec 9 C.str] fun a K=>X a.1 (fun q0=>K (q0,()))
theorem j78:MT 65 (z5i q1s):=mS (l:=[]) trivial [(7,⟨[0,1,2],[0],[],[(.slot 3,.own 9 C.str),sI 4]⟩)]
def j1c(X:q8d):Con Sg:=conV [.ptr 92 [.c,.v],.v] [.ptr 92 [.sl C.u8,.int .i64],.int .i64] [.vec 162 C.range] [.ptr 92 [.same,.int .i64],.same] fun a K=>X a.1.1 a.1.2.1 a.2.1 (fun q0 q1=>K (q0,()) (((),q1,()),(),()))
theorem v8d{Qb:Zi}{W5:q6t}(h:AL [(30,Uh Qb),(32,j1b W5)]):MT 39 (j1c (j7y Qb W5)):=mP (rk:=[.own 162 C.range]) h [(26,⟨[0,1,4],[],[(0,(92,2))],[(.slot 5,.own 162 C.range),sI 6,sI 7,(.cell 0 1,.int .i64)]⟩),(32,⟨bl 8444249301319923,[0,1],[],[sI 11]⟩),(9,⟨[0,1,4],[],[(0,(92,2))],[(.slot 5,.own 162 C.range),sI 6,sI 7,sI 8,(.cell 0 1,.int .i64)]⟩),(20,⟨bl 2144334835,[0,1],[],[sI 10]⟩)]
theorem w7a:MT 39 (j1c z44):=v8d ⟨G0,w33,trivial⟩
def j79(X:z45):Con Sg:=conV [.ptr 92 [.c,.v],.v] [.ptr 92 [.sl C.u8,.int .i64],.int .i64] [.el C.serve] [.ptr 92 [.same,.int .i64],.same] fun a K=>X a.1.1 a.1.2.1 a.2.1 (fun q0 q1=>K (q0,()) (((),q1,()),(),()))
theorem v8e{Qb:Zi}{Wq:q1p}{q3g:q8d}{Q1:W9}(h:AL [(30,Uh Qb),(31,z7h Wq),(39,j1c q3g),(29,q5t Q1)]):MT 13 (j79 (j7z Qb Wq q3g Q1)):=mP (rk:=[.el C.serve]) h []
theorem v8f:MT 13 (j79 j0w):=v8e ⟨G0,j6q,w7a,q95,trivial⟩
def w7b(X:j0x):Con Sg:=conV [] [] [.ptr 215 [.vec 289 C.node,.map C.node C.i64,.bool]] [] fun a K=>X (fun q0 q1 q2=>K ((q0,q1,q2,()),()) ())
theorem v8g:MT 106 (w7b j0y):=mP (rk:=[.ptr 215 [.own 289 C.node,.map C.node C.i64,.v]]) (l:=[]) trivial []
def q84(X:H0):Con Sg:=conS [.int .i64] [.bool] fun a K=>X a.1 (fun q0=>K (q0,()))
theorem z3c:MT 128 (q84 Zg):=mS (l:=[]) trivial []
def w7c(X:j0z):Con Sg:=conS [.sl C.str,.sl C.str] [.bool] fun a K=>X a.1 a.2.1 (fun q0=>K (q0,()))
theorem v8h:MT 94 (w7c z1i):=mS (l:=[]) trivial [(9,⟨bl 1987,[],[],[sI 5]⟩)]
def z7i(X:q3w):Con Sg:=conS [.el C.val,.el C.val] [.bool] fun a K=>X a.1 a.2.1 (fun q0=>K (q0,()))
theorem v35{j2e:j0z}(h:AL [(94,w7c j2e)]):MT 53 (z7i (z61 j2e)):=mS h []
theorem w2f:MT 53 (z7i q3x):=v35 ⟨v8h,trivial⟩
def q85(X:q1t):Con Sg:=conS [.sl C.val,.sl C.val] [.bool] fun a K=>X a.1 a.2.1 (fun q0=>K (q0,()))
theorem j8a{Bd:q3w}(h:AL [(53,z7i Bd)]):MT 256 (q85 (q1u Bd)):=mS h [(9,⟨bl 1987,[],[],[sI 5]⟩)]
theorem j8b:MT 256 (q85 Z0):=j8a ⟨w2f,trivial⟩
def j1d(X:V2):Con Sg:=conV [.el C.ex,.el C.ex] [.el C.ex,.el C.ex] [.bool] [.same,.same] fun a K=>X a.1 a.2.1 (fun q0=>K (q0,()) ((),(),()))
theorem w38:MT 197 (j1d Jx):=by
 show MT _ (conV ([.el C.ex,.el C.ex]:LP) ([.el C.ex,.el C.ex]:LV) ([.bool]:LV) ([.same,.same]:LV) fun a K=>Jx a.1 a.2.1 (fun q0=>K (q0,()) ((),(),())))
 exact mQ (l:=[(256,q85 Z0)]) (u:=4) (rk:=[.v]) ⟨j8b,trivial⟩ (by kernel_rfl) [(258000009,⟨bl 1987,[],[],[sI 5]⟩)] (fun X a K=>Gk Z0 (fun a b K=>X (a,b,()) fun r _=>K r.1) a.1 a.2.1 (fun q0=>K (q0,()) ((),(),()))) (fun _ _ _=>by kernel_rfl) fun a K h X hX=>h (fun a b K=>X (a,b,()) fun r _=>K r.1) fun a b K hs=>hX (a,b,()) (fun r _=>K r.1) hs
def z3d(X:q8e):Con Sg:=conS [.sl C.ex,.el C.ex] [.int .i64] fun a K=>X a.1 a.2.1 (fun q0=>K (q0,()))
theorem w9x{q7j:V2}(h:AL [(197,j1d q7j)]):MT 157 (z3d (z2k q7j)):=mS h [(5,⟨[0,1,3],[0],[],[sI 5]⟩)]
theorem j8c:MT 157 (z3d Zt):=w9x ⟨w38,trivial⟩
def z8h(X:Va):Con Sg:=conV [.sl C.ex,.el C.ex] [.sl C.ex,.el C.ex] [.sl C.ex] [.same,.same] fun a K=>X a.1 a.2.1 (fun q0=>K (q0,()) ((),(),()))
theorem w0i:MT 154 (z8h Jw):=by
 show MT _ (conV ([.sl C.ex,.el C.ex]:LP) ([.sl C.ex,.el C.ex]:LV) ([.sl C.ex]:LV) ([.same,.same]:LV) fun a K=>Jw a.1 a.2.1 (fun q0=>K (q0,()) ((),(),())))
 exact mQ (l:=[(157,z3d Zt),(128,q84 Zg)]) (u:=4) (rk:=[.sl C.ex]) ⟨j8c,z3c,trivial⟩ (by kernel_rfl) [(6,⟨[1,3,4],[0],[],[(.slot 0,.sl C.ex)]⟩),(9,⟨[1,3,4],[0],[],[(.slot 0,.sl C.ex),sI 5]⟩)] (fun X a K=>Uo Zt Zg (fun l e K=>X (l,e,()) fun r _=>K r.1) a.1 a.2.1 (fun q0=>K (q0,()) ((),(),()))) (fun _ _ _=>by kernel_rfl) fun a K h X hX=>h (fun l e K=>X (l,e,()) fun r _=>K r.1) fun l e K hs=>hX (l,e,()) (fun r _=>K r.1) hs
def q86(X:H1):Con Sg:=conS [.sl C.rule] [.sl C.ex] fun a K=>X a.1 (fun q0=>K (q0,()))
theorem j8d{q49:Va}(h:AL [(154,z8h q49)]):MT 107 (q86 (q1v q49)):=mS h [(7,⟨[0,2],[],[],[(.slot 3,.sl C.ex),sI 4]⟩)]
theorem j8e:MT 107 (q86 Uz):=j8d ⟨w0i,trivial⟩
end Go.En
end
noncomputable section
set_option maxRecDepth 100000
open Go Go.RowKit Go.Fl Go.Fl.Lk Go.Fx
namespace Go.En
def q2y(X:Wg):Con Sg:=conV [.ptr 215 [.own 289 C.node,.map C.node C.i64,.v],.v] [.ptr 215 [.vec 289 C.node,.map C.node C.i64,.bool],.int .i64] [.bool] [.ptr 215 [.vec 289 C.node,.map C.node C.i64,.bool],.same] fun a K=>X a.1.1 a.1.2.1 a.1.2.2.1 a.2.1 (fun q0 q1 q2 q3=>K (q0,()) ((q1,q2,q3,()),(),()))
theorem q7a:MT 198 (q2y W0):=mP (rk:=[.v]) (l:=[]) trivial []
def z4k(X:B9):Con Sg:=conV [.ptr 215 [.own 289 C.node,.map C.node C.i64,.v],.v] [.ptr 215 [.vec 289 C.node,.map C.node C.i64,.bool],.int .i64] [.map C.i64 C.bool] [.ptr 215 [.vec 289 C.node,.map C.node C.i64,.bool],.same] fun a K=>X a.1.1 a.1.2.1 a.1.2.2.1 a.2.1 (fun q0 q1 q2 q3=>K (q0,()) ((q1,q2,q3,()),(),()))
theorem j5a:MT 258 (z4k Vv):=mP (rk:=[.map C.i64 C.bool]) (l:=[]) trivial [(7,⟨bl 1843,[0,1,2],[],[(.slot 6,.own 3 C.i64),(.obj 3,.map C.i64 C.bool)]⟩)]
def q4e(X:U0):Con Sg:=conV [.ptr 215 [.own 289 C.node,.map C.node C.i64,.v],.v] [.ptr 215 [.vec 289 C.node,.map C.node C.i64,.bool],.int .i64] [.vec 3 C.i64] [.ptr 215 [.vec 289 C.node,.map C.node C.i64,.bool],.same] fun a K=>X a.1.1 a.1.2.1 a.1.2.2.1 a.2.1 (fun q0 q1 q2 q3=>K (q0,()) ((q1,q2,q3,()),(),()))
theorem j3b{Qx:Wg}{q0k:B9}(h:AL [(198,q2y Qx),(258,z4k q0k)]):MT 200 (q4e (q3y Qx q0k)):=mP (rk:=[.own 3 C.i64]) h [(13,⟨bl 32563,[5,0,4,2],[],[(.slot 6,.own 3 C.i64),sI 7]⟩)]
theorem j3c:MT 200 (q4e Ve):=j3b ⟨q7a,j5a,trivial⟩
def Wz(X:Zb):Con Sg:=conV [.ptr 215 [.own 289 C.node,.map C.node C.i64,.v],.v] [.ptr 215 [.vec 289 C.node,.map C.node C.i64,.bool],.int .i64] [.bool] [.ptr 215 [.vec 289 C.node,.map C.node C.i64,.bool],.same] fun a K=>X a.1.1 a.1.2.1 a.1.2.2.1 a.2.1 (fun q0 q1 q2 q3=>K (q0,()) ((q1,q2,q3,()),(),()))
theorem z72{Qx:Wg}{Be:U0}(h:AL [(198,q2y Qx),(200,q4e Be)]):MT 159 (Wz (Bq Qx Be)):=mP (rk:=[.v]) h [(11,⟨bl 16291,[5,0,4,2],[],[sI 6]⟩)]
theorem Bv:MT 159 (Wz Zr):=z72 ⟨q7a,j3c,trivial⟩
def q43(X:Up):Con Sg:=conV [.ptr 215 [.own 289 C.node,.map C.node C.i64,.v],.v] [.ptr 215 [.vec 289 C.node,.map C.node C.i64,.bool],.int .i64] [.int .i64] [.ptr 215 [.vec 289 C.node,.map C.node C.i64,.bool],.same] fun a K=>X a.1.1 a.1.2.1 a.1.2.2.1 a.2.1 (fun q0 q1 q2 q3=>K (q0,()) ((q1,q2,q3,()),(),()))
theorem z00:MT 199 (q43 Zj):=mP (rk:=[.v]) (l:=[]) trivial []
def q6b(X:q0a):Con Sg:=conV [.ptr 215 [.own 289 C.node,.map C.node C.i64,.v],.v,.v] [.ptr 215 [.vec 289 C.node,.map C.node C.i64,.bool],.int .i64,.int .i64] [.int .i64,.int .i64] [.ptr 215 [.vec 289 C.node,.map C.node C.i64,.bool],.same,.same] fun a K=>X a.1.1 a.1.2.1 a.1.2.2.1 a.2.1 a.2.2.1 (fun q0 q1 q2 q3 q4=>K (q0,q1,()) ((q2,q3,q4,()),(),(),()))
theorem j5b{Zk:Up}(h:AL [(199,q43 Zk)]):MT 259 (q6b (q54 Zk)):=mP (rk:=[.v,.v]) h []
theorem j5c:MT 259 (q6b Zd):=j5b ⟨z00,trivial⟩
def q2z(X:H2):Con Sg:=conV [.ptr 215 [.own 289 C.node,.map C.node C.i64,.v],.v,.v,.v] [.ptr 215 [.vec 289 C.node,.map C.node C.i64,.bool],.int .i64,.int .i64,.int .i64] [.int .i64] [.ptr 215 [.vec 289 C.node,.map C.node C.i64,.bool],.same,.same,.same] fun a K=>X a.1.1 a.1.2.1 a.1.2.2.1 a.2.1 a.2.2.1 a.2.2.2.1 (fun q0 q1 q2 q3=>K (q0,()) ((q1,q2,q3,()),(),(),(),()))
theorem j8f{Qx:Wg}{Zk:Up}(h:AL [(198,q2y Qx),(199,q43 Zk)]):MT 158 (q2z (q8f Qx Zk)):=mP (rk:=[.v]) h []
theorem z5j:MT 158 (q2z Qv):=j8f ⟨q7a,z00,trivial⟩
def z1x(X:Jq):Con Sg:=conV [.ptr 215 [.own 289 C.node,.map C.node C.i64,.v],.v,.v,.v,.map C.a3 C.i64] [.ptr 215 [.vec 289 C.node,.map C.node C.i64,.bool],.int .i64,.int .i64,.int .i64,.map C.a3 C.i64] [.int .i64] [.ptr 215 [.vec 289 C.node,.map C.node C.i64,.bool],.same,.same,.same,.map C.a3 C.i64] fun a K=>X a.1.1 a.1.2.1 a.1.2.2.1 a.2.1 a.2.2.1 a.2.2.2.1 a.2.2.2.2.1 (fun q0 q1 q2 q3 q4=>K (q0,()) ((q1,q2,q3,()),(),(),(),q4,()))
theorem j3d:MT 201 (z1x Zo):=by
 show MT _ (conV ([.ptr 215 [.own 289 C.node,.map C.node C.i64,.v],.v,.v,.v,.map C.a3 C.i64]:LP) ([.ptr 215 [.vec 289 C.node,.map C.node C.i64,.bool],.int .i64,.int .i64,.int .i64,.map C.a3 C.i64]:LV) ([.int .i64]:LV) ([.ptr 215 [.vec 289 C.node,.map C.node C.i64,.bool],.same,.same,.same,.map C.a3 C.i64]:LV) fun a K=>Zo a.1.1 a.1.2.1 a.1.2.2.1 a.2.1 a.2.2.1 a.2.2.2.1 a.2.2.2.2.1 (fun q0 q1 q2 q3 q4=>K (q0,()) ((q1,q2,q3,()),(),(),(),q4,())))
 exact mQ (l:=[(199,q43 Zj),(259,q6b Zd),(158,q2z Qv)]) (u:=4) (rk:=[.v]) ⟨z00,j5c,z5j,trivial⟩ (by kernel_rfl) [(36,⟨bl 4951760157141239551596952607,[3,4],[(0,(215,3))],[sI 23,(.cell 0 0,.own 289 C.node),(.cell 0 2,.bool),(.obj 2,.map C.node C.i64)]⟩)] (fun X a K=>Z4 Zj Zd Qv (fun ns ids full f g h known K=>X ((ns,ids,full,()),f,g,h,known,()) fun r o=>K r.1 o.1.1 o.1.2.1 o.1.2.2.1 o.2.2.2.2.1) a.1.1 a.1.2.1 a.1.2.2.1 a.2.1 a.2.2.1 a.2.2.2.1 a.2.2.2.2.1 (fun q0 q1 q2 q3 q4=>K (q0,()) ((q1,q2,q3,()),(),(),(),q4,()))) (fun _ _ _=>by kernel_rfl) fun a K h X hX=>h (fun ns ids full f g h known K=>X ((ns,ids,full,()),f,g,h,known,()) fun r o=>K r.1 o.1.1 o.1.2.1 o.1.2.2.1 o.2.2.2.2.1) fun ns ids full f g h known K hs=>hX ((ns,ids,full,()),f,g,h,known,()) (fun r o=>K r.1 o.1.1 o.1.2.1 o.1.2.2.1 o.2.2.2.2.1) hs
def U8(X:Z5):Con Sg:=conV [.ptr 215 [.own 289 C.node,.map C.node C.i64,.v],.v,.v,.v] [.ptr 215 [.vec 289 C.node,.map C.node C.i64,.bool],.int .i64,.int .i64,.int .i64] [.int .i64] [.ptr 215 [.vec 289 C.node,.map C.node C.i64,.bool],.same,.same,.same] fun a K=>X a.1.1 a.1.2.1 a.1.2.2.1 a.2.1 a.2.2.1 a.2.2.2.1 (fun q0 q1 q2 q3=>K (q0,()) ((q1,q2,q3,()),(),(),(),()))
theorem j3e{Qp:Zb}{Qx:Wg}{Bf:Jq}(h:AL [(159,Wz Qp),(198,q2y Qx),(201,z1x Bf)]):MT 160 (U8 (q3z Qp Qx Bf)):=mP (rk:=[.v]) h []
theorem q4f:MT 160 (U8 Jr):=j3e ⟨Bv,q7a,j3d,trivial⟩
def z01(X:q4v):Con Sg:=conV [.ptr 215 [.own 289 C.node,.map C.node C.i64,.v],.v] [.ptr 215 [.vec 289 C.node,.map C.node C.i64,.bool],.int .i64] [.int .i64] [.ptr 215 [.vec 289 C.node,.map C.node C.i64,.bool],.same] fun a K=>X a.1.1 a.1.2.1 a.1.2.2.1 a.2.1 (fun q0 q1 q2 q3=>K (q0,()) ((q1,q2,q3,()),(),()))
theorem w0j{Q0:Z5}(h:AL [(160,U8 Q0)]):MT 155 (z01 (z0p Q0)):=mP (rk:=[.v]) h []
theorem w0k:MT 155 (z01 Jg):=w0j ⟨q4f,trivial⟩
def z02(X:q4w):Con Sg:=conV [.ptr 215 [.own 289 C.node,.map C.node C.i64,.v],.v,.v] [.ptr 215 [.vec 289 C.node,.map C.node C.i64,.bool],.int .i64,.int .i64] [.int .i64] [.ptr 215 [.vec 289 C.node,.map C.node C.i64,.bool],.same,.same] fun a K=>X a.1.1 a.1.2.1 a.1.2.2.1 a.2.1 a.2.2.1 (fun q0 q1 q2 q3=>K (q0,()) ((q1,q2,q3,()),(),(),()))
theorem w0l{Qp:Zb}{Q0:Z5}(h:AL [(159,Wz Qp),(160,U8 Q0)]):MT 156 (z02 (z0q Qp Q0)):=mP (rk:=[.v]) h []
theorem w0m:MT 156 (z02 Jh):=w0l ⟨Bv,q4f,trivial⟩
def q7b(X:Ry):Con Sg:=conV [.ptr 215 [.own 289 C.node,.map C.node C.i64,.v],.v,.v] [.ptr 215 [.vec 289 C.node,.map C.node C.i64,.bool],.int .i64,.int .i64] [.int .i64] [.ptr 215 [.vec 289 C.node,.map C.node C.i64,.bool],.same,.same] fun a K=>X a.1.1 a.1.2.1 a.1.2.2.1 a.2.1 a.2.2.1 (fun q0 q1 q2 q3=>K (q0,()) ((q1,q2,q3,()),(),(),()))
theorem w39{Qp:Zb}{Q0:Z5}(h:AL [(159,Wz Qp),(160,U8 Q0)]):MT 109 (q7b (z2l Qp Q0)):=mP (rk:=[.v]) h []
theorem j1e:MT 109 (q7b Jn):=w39 ⟨Bv,q4f,trivial⟩
end Go.En
end
noncomputable section
set_option maxRecDepth 100000
open Go Go.RowKit Go.Fl Go.Fl.Lk Go.Fx
namespace Go.En
def z5k(X:Wl):Con Sg:=conV [.ptr 215 [.own 289 C.node,.map C.node C.i64,.v],.sl C.ex,.el C.ex] [.ptr 215 [.vec 289 C.node,.map C.node C.i64,.bool],.sl C.ex,.el C.ex] [.int .i64] [.ptr 215 [.vec 289 C.node,.map C.node C.i64,.bool],.same,.same] fun a K=>X a.1.1 a.1.2.1 a.1.2.2.1 a.2.1 a.2.2.1 (fun q0 q1 q2 q3=>K (q0,()) ((q1,q2,q3,()),(),(),()))
theorem j8g:MT 108 (z5k Ji):=by
 show MT _ (conV ([.ptr 215 [.own 289 C.node,.map C.node C.i64,.v],.sl C.ex,.el C.ex]:LP) ([.ptr 215 [.vec 289 C.node,.map C.node C.i64,.bool],.sl C.ex,.el C.ex]:LV) ([.int .i64]:LV) ([.ptr 215 [.vec 289 C.node,.map C.node C.i64,.bool],.same,.same]:LV) fun a K=>Ji a.1.1 a.1.2.1 a.1.2.2.1 a.2.1 a.2.2.1 (fun q0 q1 q2 q3=>K (q0,()) ((q1,q2,q3,()),(),(),())))
 exact mQ (l:=[(155,z01 Jg),(156,z02 Jh),(109,q7b Jn),(157,z3d Zt),(158,q2z Qv)]) (u:=4) (rk:=[.v]) ⟨w0k,w0m,j1e,j8c,z5j,trivial⟩ (by kernel_rfl) [(16,⟨bl 129127,[3,0,1,2],[],[sB 26]⟩),(21,⟨bl 68249843815,[3],[(0,(215,3))],[sI 7,sI 8,(.cell 0 0,.own 289 C.node),(.cell 0 2,.bool),(.obj 2,.map C.node C.i64)]⟩)] (fun X a K=>Vk Jg Jh Jn Zt Qv (fun ns ids full atoms e K=>X ((ns,ids,full,()),atoms,e,()) fun r o=>K r.1 o.1.1 o.1.2.1 o.1.2.2.1) a.1.1 a.1.2.1 a.1.2.2.1 a.2.1 a.2.2.1 (fun q0 q1 q2 q3=>K (q0,()) ((q1,q2,q3,()),(),(),()))) (fun _ _ _=>by kernel_rfl) fun a K h X hX=>h (fun ns ids full atoms e K=>X ((ns,ids,full,()),atoms,e,()) fun r o=>K r.1 o.1.1 o.1.2.1 o.1.2.2.1) fun ns ids full atoms e K hs=>hX ((ns,ids,full,()),atoms,e,()) (fun r o=>K r.1 o.1.1 o.1.2.1 o.1.2.2.1) hs
def R9(X:J8):Con Sg:=conS [.sl C.rule] [.vec 3 C.i64,.int .i64,.bool] fun a K=>X a.1 (fun q0 q1 q2=>K (q0,q1,q2,()))
theorem j3f{j2g:j0x}{q3h:H1}{q3i:Wl}{Bg:Ry}(h:AL [(106,w7b j2g),(107,q86 q3h),(108,z5k q3i),(109,q7b Bg)]):MT 66 (R9 (Rz j2g q3h q3i Bg)):=mS h [(13,⟨bl 28769,[],[(0,(215,3))],[sI 7,(.slot 8,.own 3 C.i64),sI 9,(.cell 0 0,.own 289 C.node),(.cell 0 2,.bool),(.obj 2,.map C.node C.i64)]⟩)]
theorem z1y:MT 66 (R9 Zp):=j3f ⟨v8g,j8e,j8g,j1e,trivial⟩
def j8h(X:z47):Con Sg:=conV [.ptr 92 [.c,.v],.v] [.ptr 92 [.sl C.u8,.int .i64],.str] [.el C.layer] [.ptr 92 [.same,.int .i64],.same] fun a K=>X a.1.1 a.1.2.1 a.2.1 (fun q0 q1=>K (q0,()) (((),q1,()),(),()))
theorem v8i{Wq:q1p}{Qb:Zi}{W5:q6t}(h:AL [(31,z7h Wq),(30,Uh Qb),(32,j1b W5)]):MT 36 (j8h (j70 Wq Qb W5)):=mP (rk:=[.el C.layer]) h [(8,⟨bl 130099,[1],[(2,(102,6)),(0,(92,2))],[(.cell 2 1,.str),(.cell 0 1,.int .i64)]⟩),(12,⟨bl 130099,[1],[(2,(102,6)),(0,(92,2))],[(.cell 2 3,.int .i64),(.cell 0 1,.int .i64)]⟩),(17,⟨bl 130099,[1],[(2,(102,6)),(0,(92,2))],[sI 6,sI 7,(.cell 2 5,.own 152 C.cool),(.cell 0 1,.int .i64)]⟩)]
theorem v8j:MT 36 (j8h j00):=v8i ⟨j6q,G0,w33,trivial⟩
def w2g(X:z62):Con Sg:=conS [.int .i64] [.bool] fun a K=>X a.1 (fun q0=>K (q0,()))
theorem v36:MT 110 (w2g z63):=mS (l:=[]) trivial []
def q7c(X:V3):Con Sg:=conS [.el C.env,.str] [.int .i64] fun a K=>X a.1 a.2.1 (fun q0=>K (q0,()))
theorem z3e:MT 96 (q7c q1w):=mS (l:=[]) trivial [(5,⟨[0,1,2],[0],[],[sI 5]⟩)]
def z5l(X:q1x):Con Sg:=conS [.sl C.cool,.int .i64] [.vec 3 C.i64] fun a K=>X a.1 a.2.1 (fun q0=>K (q0,()))
theorem j8i:MT 163 (z5l q1y):=mS (l:=[]) trivial [(7,⟨bl 563,[],[],[sI 6,(.obj 0,.own 3 C.i64)]⟩),(15,⟨bl 15987,[],[],[sI 7,(.obj 0,.own 3 C.i64)]⟩),(21,⟨bl 4243603187,[],[],[sI 8,(.obj 0,.own 3 C.i64)]⟩)]
def q4g(X:Wv):Con Sg:=conS [.sl C.bool] [.vec 157 C.span] fun a K=>X a.1 (fun q0=>K (q0,()))
theorem q87:MT 113 (q4g Uq):=mS (l:=[]) trivial [(7,⟨[0,2],[],[],[(.slot 3,.own 157 C.span),sI 4]⟩)]
def z9f(X:q8g):Con Sg:=conS [.sl C.i64,.int .i64] [.vec 157 C.span] fun a K=>X a.1 a.2.1 (fun q0=>K (q0,()))
theorem w9y{Q2:Wv}(h:AL [(113,q4g Q2)]):MT 162 (z9f (z84 Q2)):=mS h [(7,⟨bl 947,[],[],[sI 6,(.obj 0,.own 4 C.bool)]⟩)]
theorem w9z:MT 162 (z9f z2m):=w9y ⟨q87,trivial⟩
def z5m(X:B1):Con Sg:=conS [.sl C.span] [.vec 4 C.bool] fun a K=>X a.1 (fun q0=>K (q0,()))
theorem j1f:MT 112 (z5m q1z):=mS (l:=[]) trivial [(7,⟨bl 77,[],[],[sI 4,(.obj 0,.own 4 C.bool)]⟩),(13,⟨bl 518109,[],[],[sI 5,(.obj 0,.own 4 C.bool)]⟩)]
def z9g(X:q8h):Con Sg:=conS [.sl C.span,.sl C.span] [.vec 157 C.span] fun a K=>X a.1 a.2.1 (fun q0=>K (q0,()))
theorem w90{Jb:B1}{Q2:Wv}(h:AL [(112,z5m Jb),(113,q4g Q2)]):MT 161 (z9g (z86 Jb Q2)):=mS h [(7,⟨bl 3955,[1],[],[sI 7,(.obj 0,.own 4 C.bool)]⟩)]
theorem w91:MT 161 (z9g z2n):=w90 ⟨j1f,q87,trivial⟩
def z9h(X:q8i):Con Sg:=conS [.el C.env,.str,.str,.int .i64] [.vec 157 C.span] fun a K=>X a.1 a.2.1 a.2.2.1 a.2.2.2.1 (fun q0=>K (q0,()))
theorem w92{Zw:V3}{q09:q8h}{Rq:q1x}{q4s:q8g}(h:AL [(96,q7c Zw),(161,z9g q09),(163,z5l Rq),(162,z9f q4s)]):MT 111 (z9h (z87 Zw q09 Rq q4s)):=mS h [(10,⟨bl 254751,[0],[],[(.slot 10,.own 157 C.span)]⟩),(13,⟨bl 254751,[0],[],[(.slot 10,.own 157 C.span),sI 11]⟩)]
theorem w93:MT 111 (z9h z2o):=w92 ⟨z3e,w91,j8i,w9z,trivial⟩
def z3f(X:q0t):Con Sg:=conS [.sl C.span,.sl C.span] [.vec 157 C.span] fun a K=>X a.1 a.2.1 (fun q0=>K (q0,()))
theorem w94{Jb:B1}{Q2:Wv}(h:AL [(112,z5m Jb),(113,q4g Q2)]):MT 68 (z3f (z88 Jb Q2)):=mS h [(7,⟨bl 3955,[1],[],[sI 7,(.obj 0,.own 4 C.bool)]⟩)]
theorem j8j:MT 68 (z3f q8j):=w94 ⟨j1f,q87,trivial⟩
end Go.En
end
noncomputable section
set_option maxRecDepth 100000
open Go Go.RowKit Go.Fl Go.Fl.Lk Go.Fx
namespace Go.En
def j3g(X:z1j):Con Sg:=conS [.el C.env,.str,.int .i64] [.vec 157 C.span,.int .i64] fun a K=>X a.1 a.2.1 a.2.2.1 (fun q0 q1=>K (q0,q1,()))
theorem v38{z7q:z62}{Zw:V3}{z38:q8i}{G3:q0t}(h:AL [(110,w2g z7q),(96,q7c Zw),(111,z9h z38),(68,z3f G3)]):MT 67 (j3g (j27 z7q Zw z38 G3)):=mS h []
theorem v39:MT 67 (j3g z64):=v38 ⟨v36,z3e,w93,j8j,trivial⟩
def z9i(X:q8k):Con Sg:=conS [.sl C.span,.int .i64] [.vec 157 C.span] fun a K=>X a.1 a.2.1 (fun q0=>K (q0,()))
theorem w95{Jb:B1}{Q2:Wv}(h:AL [(112,z5m Jb),(113,q4g Q2)]):MT 69 (z9i (z89 Jb Q2)):=mS h [(7,⟨bl 433,[],[],[sI 1,sI 6,(.obj 0,.own 4 C.bool)]⟩)]
theorem w96:MT 69 (z9i z2p):=w95 ⟨j1f,q87,trivial⟩
def q20(X:V4):Con Sg:=conV [.v] [.str] [.bool] [.same] fun a K=>X a.1 (fun q0=>K (q0,()) ((),()))
theorem q96:MT 206 (q20 Jy):=⟨entB (by kernel_rfl),j09⟩
def Ba(X:Js):Con Sg:=conS [.str] [.bool] fun a K=>X a.1 (fun q0=>K (q0,()))
theorem v4a{Zx:V4}(h:AL [(206,q20 Zx)]):MT 169 (Ba (z65 Zx)):=mS h [(9,⟨bl 4081,[],[],[sI 3]⟩)]
theorem q4h:MT 169 (Ba Vw):=v4a ⟨q96,trivial⟩
def w7d(X:j01):Con Sg:=conS [.str] [.bool] fun a K=>X a.1 (fun q0=>K (q0,()))
theorem v8k:MT 207 (w7d z1k):=mS (l:=[]) trivial [(5,⟨[0],[],[],[sI 3]⟩)]
def j1g(X:q6v):Con Sg:=conS [] [.vec 9 C.str] fun a K=>X (fun q0=>K (q0,()))
theorem w4a:MT 208 (j1g R0):=mS (l:=[]) trivial []
def Bb(X:Jo):Con Sg:=conS [.str] [.bool] fun a K=>X a.1 (fun q0=>K (q0,()))
theorem y2l{j2h:j01}{q7k:q6v}(h:AL [(207,w7d j2h),(208,j1g q7k)]):MT 170 (Bb (j6o j2h q7k)):=mS h [(11,⟨bl 16361,[0],[],[sI 4]⟩)]
theorem q21:MT 170 (Bb Ut):=y2l ⟨v8k,w4a,trivial⟩
def z3g(X:q13):Con Sg:=conS [.el C.settings] [.int .i64] fun a K=>X a.1 (fun q0=>K (q0,()))
theorem w4b{Qr:Js}{Qh:Jo}(h:AL [(169,Ba Qr),(170,Bb Qh)]):MT 122 (z3g (q6w Qr Qh)):=mS h []
theorem w4c:MT 122 (z3g V5):=w4b ⟨q4h,q21,trivial⟩
def z3h(X:q14):Con Sg:=conS [.sl C.decl] [.int .i64] fun a K=>X a.1 (fun q0=>K (q0,()))
theorem w4d{Qh:Jo}(h:AL [(170,Bb Qh)]):MT 123 (z3h (q6x Qh)):=mS h [(9,⟨bl 113,[],[],[sI 3]⟩)]
theorem w4e:MT 123 (z3h V6):=w4d ⟨q21,trivial⟩
def q97(X:H3):Con Sg:=conS [.sl C.str] [.int .i64] fun a K=>X a.1 (fun q0=>K (q0,()))
theorem w7e{Qr:Js}(h:AL [(169,Ba Qr)]):MT 209 (q97 (q9u Qr)):=mS h [(9,⟨bl 113,[],[],[sI 3]⟩)]
theorem j4p:MT 209 (q97 H4):=w7e ⟨q4h,trivial⟩
def w7f(X:j02):Con Sg:=conS [.el C.ex] [.bool] fun a K=>X a.1 (fun q0=>K (q0,()))
theorem v8l:MT 210 (w7f z1l):=mS (l:=[]) trivial []
def z9j(X:q8l):Con Sg:=conS [.el C.ex] [.bool] fun a K=>X a.1 (fun q0=>K (q0,()))
theorem w97{Z3:H0}(h:AL [(128,q84 Z3)]):MT 308 (z9j (z2q Z3)):=mS h [(20,⟨bl 16327,[0],[],[sB 3,sB 4]⟩)]
theorem w98:MT 308 (z9j q30):=w97 ⟨z3c,trivial⟩
end Go.En
end
noncomputable section
set_option maxRecDepth 100000
open Go Go.RowKit Go.Fl Go.Fl.Lk Go.Fx
namespace Go.En
def w2h(X:z66):Con Sg:=conS [.el C.val] [.bool] fun a K=>X a.1 (fun q0=>K (q0,()))
theorem v4b:MT 253 (w2h q7y):=mS (l:=[]) trivial []
def z4l(X:q0b):Con Sg:=conS [.str] [.int .i64,.int .i64] fun a K=>X a.1 (fun q0 q1=>K (q0,q1,()))
theorem j5d:MT 255 (z4l Vx):=mS (l:=[]) trivial [(8,⟨bl 269,[],[],[(.slot 4,.str)]⟩),(11,⟨[0,4,8],[],[],[sI 5]⟩),(31,⟨bl 562915601547569,[],[],[sI 6,sI 7]⟩)]
def j3h(X:z1m):Con Sg:=conS [.str] [.el C.a3,.bool] fun a K=>X a.1 (fun q0 q1=>K (q0,q1,()))
theorem v4c{Hi:q0b}(h:AL [(255,z4l Hi)]):MT 195 (j3h (z67 Hi)):=mS h [(9,⟨[0,2,4],[],[(1,(283,3)),(0,(283,3))],[sI 5,sI 6,(.cell 1 0,.int .i64),(.cell 1 1,.int .i64),(.cell 1 2,.int .i64),(.cell 0 0,.int .i64),(.cell 0 1,.int .i64),(.cell 0 2,.int .i64)]⟩),(15,⟨bl 19669,[1,0],[],[sI 5]⟩)]
theorem v4d:MT 195 (j3h q7z):=v4c ⟨j5d,trivial⟩
def j8k(X:z48):Con Sg:=conS [.sl C.str] [.int .i64] fun a K=>X a.1 (fun q0=>K (q0,()))
theorem v8m{Qr:Js}(h:AL [(169,Ba Qr)]):MT 254 (j8k (j03 Qr)):=mS h [(9,⟨bl 225,[],[],[sI 3]⟩),(19,⟨bl 4073,[],[],[sI 4]⟩)]
theorem v8n:MT 254 (j8k z1n):=v8m ⟨q4h,trivial⟩
def z7j(X:q31):Con Sg:=conS [.el C.val] [.int .i64] fun a K=>X a.1 (fun q0=>K (q0,()))
theorem v4e{z7r:z66}{Qr:Js}{z7s:z1m}{j2i:z48}(h:AL [(253,w2h z7r),(169,Ba Qr),(195,j3h z7s),(254,j8k j2i)]):MT 193 (z7j (z68 z7r Qr z7s j2i)):=mS h []
theorem w2i:MT 193 (z7j q32):=v4e ⟨v4b,q4h,v4d,v8n,trivial⟩
def j8l(X:j04):Con Sg:=conS [.el C.ex] [.int .i64] fun a K=>X a.1 (fun q0=>K (q0,()))
theorem v8o{z39:q8l}{Z3:H0}{Qh:Jo}{Ws:q31}(h:AL [(308,z9j z39),(128,q84 Z3),(170,Bb Qh),(193,z7j Ws)]):MT 292 (j8l (j05 z39 Z3 Qh Ws)):=mS h [(17,⟨bl 134217667,[0],[],[sI 3]⟩),(31,⟨bl 9412450882139616968651,[0],[],[sI 4]⟩)]
theorem v8p:MT 292 (j8l H5):=v8o ⟨w98,z3c,q21,w2i,trivial⟩
def w7g(X:q5j):Con Sg:=conV [.el C.ex,.v,.ptr 3 [.v]] [.el C.ex,.int .i64,.ptr 3 [.int .i64]] [.int .i64] [.same,.same,.ptr 3 [.int .i64]] fun a K=>X a.1 a.2.1 a.2.2.1.1 (fun q0 q1=>K (q0,()) ((),(),(q1,()),()))
theorem v8q:MT 264 (w7g B2):=by
 show MT _ (conV ([.el C.ex,.v,.ptr 3 [.v]]:LP) ([.el C.ex,.int .i64,.ptr 3 [.int .i64]]:LV) ([.int .i64]:LV) ([.same,.same,.ptr 3 [.int .i64]]:LV) fun a K=>B2 a.1 a.2.1 a.2.2.1.1 (fun q0 q1=>K (q0,()) ((),(),(q1,()),())))
 exact mQ (l:=[(292,j8l H5)]) (u:=4) (rk:=[.v]) ⟨v8p,trivial⟩ (by kernel_rfl) [(21,⟨bl 33553551,[1],[(0,(3,1))],[sI 8,(.cell 0 0,.int .i64)]⟩)] (fun X a K=>q8m H5 (fun e depth n K=>X (e,depth,(n,()),()) fun r o=>K r.1 o.2.2.1.1) a.1 a.2.1 a.2.2.1.1 (fun q0 q1=>K (q0,()) ((),(),(q1,()),()))) (fun _ _ _=>by kernel_rfl) fun a K h X hX=>h (fun e depth n K=>X (e,depth,(n,()),()) fun r o=>K r.1 o.2.2.1.1) fun e depth n K hs=>hX (e,depth,(n,()),()) (fun r o=>K r.1 o.2.2.1.1) hs
def z5n(X:q15):Con Sg:=conS [.el C.ex] [.int .i64] fun a K=>X a.1 (fun q0=>K (q0,()))
theorem v8r{j2j:q5j}(h:AL [(264,w7g j2j)]):MT 211 (z5n (j06 j2j)):=mS h []
theorem j8m:MT 211 (z5n q5k):=v8r ⟨v8q,trivial⟩
def z5o(X:q5l):Con Sg:=conS [.el C.seg] [.int .i64] fun a K=>X a.1 (fun q0=>K (q0,()))
theorem w7h{Qh:Jo}{Vd:H3}{j2k:j02}{Uj:q15}(h:AL [(170,Bb Qh),(209,q97 Vd),(210,w7f j2k),(211,z5n Uj)]):MT 171 (z5o (q9v Qh Vd j2k Uj)):=mS h []
theorem w7i:MT 171 (z5o q1c):=w7h ⟨q21,j4p,v8l,j8m,trivial⟩
def z3i(X:q16):Con Sg:=conS [.sl C.seg] [.int .i64] fun a K=>X a.1 (fun q0=>K (q0,()))
theorem w4f{z0e:q5l}(h:AL [(171,z5o z0e)]):MT 124 (z3i (q6y z0e)):=mS h [(9,⟨bl 225,[],[],[sI 3]⟩)]
theorem w4g:MT 124 (z3i V7):=w4f ⟨w7i,trivial⟩
def q88(X:H6):Con Sg:=conS [.el C.flag] [.int .i64] fun a K=>X a.1 (fun q0=>K (q0,()))
theorem j8n{Ws:q31}(h:AL [(193,z7j Ws)]):MT 212 (q88 (q17 Ws)):=mS h [(15,⟨bl 8139,[0],[],[sI 4]⟩)]
theorem j8o:MT 212 (q88 U1):=j8n ⟨w2i,trivial⟩
def q22(X:V8):Con Sg:=conS [.sl C.prereq] [.int .i64] fun a K=>X a.1 (fun q0=>K (q0,()))
theorem j1h{Qh:Jo}(h:AL [(170,Bb Qh)]):MT 213 (q22 (Ho Qh)):=mS h [(9,⟨bl 113,[],[],[sI 3]⟩)]
theorem j1i:MT 213 (q22 Wp):=j1h ⟨q21,trivial⟩
end Go.En
end
noncomputable section
set_option maxRecDepth 100000
open Go Go.RowKit Go.Fl Go.Fl.Lk Go.Fx
namespace Go.En
def z5p(X:q5m):Con Sg:=conS [.sl C.target,.int .i64] [.int .i64] fun a K=>X a.1 a.2.1 (fun q0=>K (q0,()))
theorem w7j{Qh:Jo}{Vd:H3}(h:AL [(170,Bb Qh),(209,q97 Vd)]):MT 214 (z5p (q9w Qh Vd)):=mS h [(9,⟨bl 899,[],[],[sI 5]⟩)]
theorem w7k:MT 214 (z5p q1d):=w7j ⟨q21,j4p,trivial⟩
def j3i(X:q70):Con Sg:=conS [.sl C.range,.int .i64] [.int .i64] fun a K=>X a.1 a.2.1 (fun q0=>K (q0,()))
theorem w2j:MT 218 (j3i q33):=mS (l:=[]) trivial [(11,⟨bl 899,[],[],[sI 5,sI 6]⟩)]
def z7k(X:q34):Con Sg:=conS [.el C.serve,.int .i64] [.int .i64] fun a K=>X a.1 a.2.1 (fun q0=>K (q0,()))
theorem v4f{Qh:Jo}{Qr:Js}{Bi:q70}(h:AL [(170,Bb Qh),(169,Ba Qr),(218,j3i Bi)]):MT 216 (z7k (z69 Qh Qr Bi)):=mS h []
theorem w2k:MT 216 (z7k q35):=v4f ⟨q21,q4h,w2j,trivial⟩
def j3j(X:z1o):Con Sg:=conS [.sl C.rule,.int .i64] [.int .i64] fun a K=>X a.1 a.2.1 (fun q0=>K (q0,()))
theorem v4g{Qh:Jo}{Uj:q15}{Bj:q34}(h:AL [(170,Bb Qh),(211,z5n Uj),(216,z7k Bj)]):MT 215 (j3j (z7a Qh Uj Bj)):=mS h [(9,⟨bl 3587,[],[],[sI 5]⟩),(19,⟨bl 33357347,[],[],[sI 6]⟩)]
theorem v4h:MT 215 (j3j q71):=v4g ⟨q21,j8m,w2k,trivial⟩
def j8p(X:z49):Con Sg:=conS [.el C.flag] [.int .i64] fun a K=>X a.1 (fun q0=>K (q0,()))
theorem v8s{Qh:Jo}{q3j:H6}{Ht:V8}{z0f:q5m}{z7t:z1o}{Bj:q34}(h:AL [(170,Bb Qh),(212,q88 q3j),(213,q22 Ht),(214,z5p z0f),(215,j3j z7t),(216,z7k Bj)]):MT 172 (j8p (j07 Qh q3j Ht z0f z7t Bj)):=mS h []
theorem v8t:MT 172 (j8p q5n):=v8s ⟨q21,j8o,j1i,w7k,v4h,w2k,trivial⟩
def j3k(X:z1p):Con Sg:=conS [.sl C.flag] [.int .i64] fun a K=>X a.1 (fun q0=>K (q0,()))
theorem v4i{j2l:z49}(h:AL [(172,j8p j2l)]):MT 125 (j3k (z7b j2l)):=mS h [(9,⟨bl 225,[],[],[sI 3]⟩)]
theorem v4j:MT 125 (j3k q72):=v4i ⟨v8t,trivial⟩
def j3l(X:z1q):Con Sg:=conS [.el C.layer] [.int .i64] fun a K=>X a.1 (fun q0=>K (q0,()))
theorem v4k{Qh:Jo}{Qr:Js}(h:AL [(170,Bb Qh),(169,Ba Qr)]):MT 173 (j3l (z7c Qh Qr)):=mS h [(21,⟨bl 2199023255523,[0],[],[sI 3]⟩)]
theorem v4l:MT 173 (j3l q73):=v4k ⟨q21,q4h,trivial⟩
def z9k(X:q8n):Con Sg:=conS [.sl C.layer] [.int .i64] fun a K=>X a.1 (fun q0=>K (q0,()))
theorem w99{z7u:z1q}(h:AL [(173,j3l z7u)]):MT 126 (z9k (z2r z7u)):=mS h [(9,⟨bl 225,[],[],[sI 3]⟩)]
theorem v0a:MT 126 (z9k H7):=w99 ⟨v4l,trivial⟩
def w2l(X:z7d):Con Sg:=conS [.sl C.span] [.int .i64] fun a K=>X a.1 (fun q0=>K (q0,()))
theorem v4m:MT 217 (w2l q74):=mS (l:=[]) trivial [(9,⟨bl 113,[],[],[sI 3]⟩)]
def q89(X:H8):Con Sg:=conS [.el C.exper] [.int .i64] fun a K=>X a.1 (fun q0=>K (q0,()))
theorem j8q{Qh:Jo}{Qr:Js}{z7v:z7d}{Bi:q70}{Uj:q15}(h:AL [(170,Bb Qh),(169,Ba Qr),(217,w2l z7v),(218,j3i Bi),(211,z5n Uj)]):MT 174 (q89 (q18 Qh Qr z7v Bi Uj)):=mS h []
theorem j8r:MT 174 (q89 Wm):=j8q ⟨q21,q4h,v4m,w2j,j8m,trivial⟩
def q6c(X:G7):Con Sg:=conS [.sl C.exper] [.int .i64] fun a K=>X a.1 (fun q0=>K (q0,()))
theorem j5e{q3k:H8}(h:AL [(174,q89 q3k)]):MT 127 (q6c (q0c q3k)):=mS h [(9,⟨bl 225,[],[],[sI 3]⟩)]
theorem j5f:MT 127 (q6c Vy):=j5e ⟨j8r,trivial⟩
def q6d(X:G8):Con Sg:=conS [.el C.env] [.int .i64] fun a K=>X a.1 (fun q0=>K (q0,()))
theorem j5g{q7l:q13}{q7m:q14}{q7n:q16}{z7w:z1p}{z4a:q8n}{q0l:G7}(h:AL [(122,z3g q7l),(123,z3h q7m),(124,z3i q7n),(125,j3k z7w),(126,z9k z4a),(127,q6c q0l)]):MT 80 (q6d (q0d q7l q7m q7n z7w z4a q0l)):=mS h []
theorem j5h:MT 80 (q6d Vz):=j5g ⟨w4c,w4e,w4g,v4j,v0a,j5f,trivial⟩
end Go.En
end
noncomputable section
set_option maxRecDepth 100000
open Go Go.RowKit Go.Fl Go.Fl.Lk Go.Fx
namespace Go.En
def z7l(X:q1e):Con Sg:=conS [.sl C.seg] [.vec 9 C.str] fun a K=>X a.1 (fun q0=>K (q0,()))
theorem j3m:MT 81 (z7l z1r):=mS (l:=[]) trivial [(7,⟨[0,2],[],[],[(.slot 3,.own 9 C.str),sI 4]⟩)]
def j6s(X:z2s):Con Sg:=conS [.sl C.str,.str] [.bool] fun a K=>X a.1 a.2.1 (fun q0=>K (q0,()))
theorem w4h:MT 47 (j6s R1):=mS (l:=[]) trivial [(5,⟨[0,1],[],[],[sI 5]⟩)]
def j8s(X:z5a):Con Sg:=conS [.sl C.decl,.str,.str] [.int .i64] fun a K=>X a.1 a.2.1 a.2.2.1 (fun q0=>K (q0,()))
theorem w7l:MT 129 (j8s U2):=mS (l:=[]) trivial [(5,⟨[0,1,2],[],[],[sI 7]⟩)]
def w7m(X:j71):Con Sg:=conS [.int .i64,.el C.ex] [.bool] fun a K=>X a.1 a.2.1 (fun q0=>K (q0,()))
theorem v8u:MT 130 (w7m G9):=mS (l:=[]) trivial [(11,⟨bl 8075,[0],[],[sI 5]⟩),(36,⟨bl 8795019288539,[0],[],[sB 46]⟩)]
def j1j(X:Ha):Con Sg:=conV [.sl C.decl,.sl C.str,.el C.ex] [.sl C.decl,.sl C.str,.el C.ex] [.int .i64] [.same,.same,.same] fun a K=>X a.1 a.2.1 a.2.2.1 (fun q0=>K (q0,()) ((),(),(),()))
theorem j8t:MT 82 (j1j V9):=by
 show MT _ (conV ([.sl C.decl,.sl C.str,.el C.ex]:LP) ([.sl C.decl,.sl C.str,.el C.ex]:LV) ([.int .i64]:LV) ([.same,.same,.same]:LV) fun a K=>V9 a.1 a.2.1 a.2.2.1 (fun q0=>K (q0,()) ((),(),(),())))
 exact mQ (l:=[(47,j6s R1),(128,q84 Zg),(129,j8s U2),(130,w7m G9)]) (u:=4) (rk:=[.v]) ⟨w4h,z3c,w7l,v8u,trivial⟩ (by kernel_rfl) [(18,⟨bl 1047591,[0],[],[]⟩),(21,⟨bl 1047591,[0],[],[sI 8]⟩)] (fun X a K=>q8o R1 Zg U2 G9 (fun l segments e K=>X (l,segments,e,()) fun r _=>K r.1) a.1 a.2.1 a.2.2.1 (fun q0=>K (q0,()) ((),(),(),()))) (fun _ _ _=>by kernel_rfl) fun a K h X hX=>h (fun l segments e K=>X (l,segments,e,()) fun r _=>K r.1) fun l segments e K hs=>hX (l,segments,e,()) (fun r _=>K r.1) hs
def j6t(X:z2t):Con Sg:=conS [.sl C.str,.str] [.sl C.str] fun a K=>X a.1 a.2.1 (fun q0=>K (q0,()))
theorem w4i:MT 104 (j6t R2):=mS (l:=[]) trivial [(5,⟨[0,1,4],[],[],[sI 5]⟩)]
def j4q(X:Gf):Con Sg:=conV [.sl C.str,.el C.ex] [.sl C.str,.el C.ex] [.sl C.str] [.same,.same] fun a K=>X a.1 a.2.1 (fun q0=>K (q0,()) ((),(),()))
theorem w7n:MT 176 (j4q Vb):=by
 show MT _ (conV ([.sl C.str,.el C.ex]:LP) ([.sl C.str,.el C.ex]:LV) ([.sl C.str]:LV) ([.same,.same]:LV) fun a K=>Vb a.1 a.2.1 (fun q0=>K (q0,()) ((),(),())))
 exact mQ (l:=[(104,j6t R2)]) (u:=4) (rk:=[.sl C.str]) ⟨w4i,trivial⟩ (by kernel_rfl) [(6,⟨[1,3,4],[0],[],[(.slot 0,.sl C.str)]⟩),(9,⟨[1,3,4],[0],[],[(.slot 0,.sl C.str),sI 5]⟩)] (fun X a K=>H9 R2 (fun l e K=>X (l,e,()) fun r _=>K r.1) a.1 a.2.1 (fun q0=>K (q0,()) ((),(),()))) (fun _ _ _=>by kernel_rfl) fun a K h X hX=>h (fun l e K=>X (l,e,()) fun r _=>K r.1) fun l e K hs=>hX (l,e,()) (fun r _=>K r.1) hs
def z5q(X:q5o):Con Sg:=conS [.el C.ex] [.sl C.str] fun a K=>X a.1 (fun q0=>K (q0,()))
theorem w7o{z0g:Gf}(h:AL [(176,j4q z0g)]):MT 132 (z5q (q9x z0g)):=mS h []
theorem w7p:MT 132 (z5q q1f):=w7o ⟨w7n,trivial⟩
def z9l(X:q8p):Con Sg:=conS [.sl C.seg] [.vec 238 C.edge] fun a K=>X a.1 (fun q0=>K (q0,()))
theorem v0b{z0h:q5o}(h:AL [(132,z5q z0h)]):MT 84 (z9l (z2u z0h)):=mS h [(7,⟨[0,2],[],[],[(.slot 3,.own 238 C.edge),sI 4]⟩),(15,⟨bl 518069,[],[],[(.slot 3,.own 238 C.edge),sI 6]⟩)]
theorem v0c:MT 84 (z9l Vl):=v0b ⟨w7p,trivial⟩
def j3n(X:z1s):Con Sg:=conS [.sl C.edge,.str] [.sl C.str] fun a K=>X a.1 a.2.1 (fun q0=>K (q0,()))
theorem v4n{q3l:z2s}{q3m:z2t}(h:AL [(47,j6s q3l),(104,j6t q3m)]):MT 175 (j3n (z1t q3l q3m)):=mS h [(7,⟨bl 1555,[],[],[(.slot 5,.sl C.str),(.slot 6,.sl C.str)]⟩),(15,⟨bl 522899,[],[],[(.slot 5,.sl C.str),(.slot 6,.sl C.str),sI 8]⟩)]
theorem v4o:MT 175 (j3n q1g):=v4n ⟨w4h,w4i,trivial⟩
def z9m(X:q8q):Con Sg:=conS [.sl C.str,.sl C.edge] [.sl C.str] fun a K=>X a.1 a.2.1 (fun q0=>K (q0,()))
theorem v0d{z7x:z1s}{q3l:z2s}{q3m:z2t}(h:AL [(175,j3n z7x),(47,j6s q3l),(104,j6t q3m)]):MT 131 (z9m (q8r z7x q3l q3m)):=mS h [(7,⟨[0,1,4],[],[],[(.slot 5,.sl C.str),sI 6]⟩)]
theorem v0e:MT 131 (z9m q0u):=v0d ⟨v4o,w4h,w4i,trivial⟩
def z9n(X:q8s):Con Sg:=conS [.sl C.str,.sl C.edge] [.str,.bool] fun a K=>X a.1 a.2.1 (fun q0 q1=>K (q0,q1,()))
theorem v0f{z4b:q8q}(h:AL [(131,z9m z4b)]):MT 83 (z9n (q8t z4b)):=mS h []
theorem v0g:MT 83 (z9n Z1):=v0f ⟨v0e,trivial⟩
end Go.En
end
noncomputable section
set_option maxRecDepth 100000
open Go Go.RowKit Go.Fl Go.Fl.Lk Go.Fx
namespace Go.En
def z5r(X:q1h):Con Sg:=conS [.el C.env,.str] [.int .i64] fun a K=>X a.1 a.2.1 (fun q0=>K (q0,()))
theorem j4r:MT 56 (z5r q9y):=mS (l:=[]) trivial [(5,⟨[0,1,2],[0],[],[sI 5]⟩)]
def j3o(X:z1u):Con Sg:=conS [.sl C.decl,.el C.serve] [.int .i64] fun a K=>X a.1 a.2.1 (fun q0=>K (q0,()))
theorem v4p{q9n:z5a}(h:AL [(129,j8s q9n)]):MT 133 (j3o (z7e q9n)):=mS h []
theorem v4q:MT 133 (j3o q1i):=v4p ⟨w7l,trivial⟩
def q9a(X:Ra):Con Sg:=conS [.el C.env,.el C.flag] [.int .i64] fun a K=>X a.1 a.2.1 (fun q0=>K (q0,()))
theorem j8u{Wt:q1e}{Uk:q1h}{Ul:Ha}{z16:z1u}{Z7:J8}(h:AL [(81,z7l Wt),(56,z5r Uk),(82,j1j Ul),(133,j3o z16),(66,R9 Z7)]):MT 85 (q9a (q19 Wt Uk Ul z16 Z7)):=mS h [(7,⟨bl 229423,[1,0],[],[sI 6,(.obj 2,.own 9 C.str)]⟩),(23,⟨bl 8355951,[1,0],[],[sI 8,(.obj 2,.own 9 C.str)]⟩)]
theorem j8v:MT 85 (q9a U3):=j8u ⟨j3m,j4r,j8t,v4q,z1y,trivial⟩
def z8i(X:q4x):Con Sg:=conS [.el C.env] [.vec 9 C.str] fun a K=>X a.1 (fun q0=>K (q0,()))
theorem w0n:MT 86 (z8i z0r):=mS (l:=[]) trivial [(7,⟨[0,1,2],[0],[],[(.slot 3,.own 9 C.str),sI 4]⟩)]
def z5s(X:q2a):Con Sg:=conS [.el C.env] [.vec 238 C.edge] fun a K=>X a.1 (fun q0=>K (q0,()))
theorem j8w:MT 87 (z5s q2b):=mS (l:=[]) trivial [(7,⟨[0,1,2],[0],[],[(.slot 3,.own 238 C.edge),sI 4]⟩),(13,⟨bl 2007,[],[],[(.slot 3,.own 238 C.edge),sI 5]⟩)]
def z5t(X:q5p):Con Sg:=conS [.sl C.span,.sl C.span] [.vec 157 C.span] fun a K=>X a.1 a.2.1 (fun q0=>K (q0,()))
theorem w7q{Jb:B1}{Q2:Wv}(h:AL [(112,z5m Jb),(113,q4g Q2)]):MT 134 (z5t (q9z Jb Q2)):=mS h [(7,⟨bl 3955,[1],[],[sI 7,(.obj 0,.own 4 C.bool)]⟩)]
theorem w7r:MT 134 (z5t q1j):=w7q ⟨j1f,q87,trivial⟩
def Rm(X:Wn):Con Sg:=conS [.el C.env,.int .i64] [.int .i64] fun a K=>X a.1 a.2.1 (fun q0=>K (q0,()))
theorem z5u{Zw:V3}{Uk:q1h}{Wt:q1e}{Ul:Ha}{z0i:q5p}(h:AL [(96,q7c Zw),(56,z5r Uk),(81,z7l Wt),(82,j1j Ul),(134,z5t z0i)]):MT 88 (Rm (Ua Zw Uk Wt Ul z0i)):=mS h [(13,⟨bl 17179836647,[1,0],[],[sI 8]⟩),(35,⟨bl 151078797935433964553191,[1,0],[],[(.slot 10,.own 157 C.span),sI 11,(.obj 4,.own 9 C.str)]⟩),(51,⟨bl 159723976762087930960904772882407,[1,0],[],[sI 13,(.obj 9,.own 157 C.span),(.obj 6,.own 157 C.span),(.obj 4,.own 9 C.str)]⟩)]
theorem z5v:MT 88 (Rm Jt):=z5u ⟨z3e,j4r,j3m,j8t,w7r,trivial⟩
def q4i(X:U4):Con Sg:=conS [.el C.env] [.str,.int .i64] fun a K=>X a.1 (fun q0 q1=>K (q0,q1,()))
theorem j3p{q0m:G8}{Wt:q1e}{Ul:Ha}{z4c:q8p}{q9o:q8s}{q3n:Ra}{q5a:q4x}{q3o:q2a}{Um:Wn}(h:AL [(80,q6d q0m),(81,z7l Wt),(82,j1j Ul),(84,z9l z4c),(83,z9n q9o),(85,q9a q3n),(86,z8i q5a),(87,z5s q3o),(88,Rm Um)]):MT 49 (q4i (R3 q0m Wt Ul z4c q9o q3n q5a q3o Um)):=mS h [(13,⟨bl 15663155,[0],[],[sI 6,(.obj 1,.own 9 C.str)]⟩),(33,⟨bl 294571444427585160051,[0],[],[sI 10,(.obj 1,.own 9 C.str),(.obj 4,.own 238 C.edge)]⟩),(51,⟨bl 10121397798090180814242575234931,[0],[],[sI 14,(.obj 8,.own 9 C.str),(.obj 9,.own 238 C.edge),(.obj 4,.own 238 C.edge),(.obj 1,.own 9 C.str)]⟩)]
theorem j3q:MT 49 (q4i Vf):=j3p ⟨j5h,j3m,j8t,v0c,v0g,j8v,w0n,j8w,z5v,trivial⟩
def z3j(X:q0v):Con Sg:=conS [.el C.env] [.bool] fun a K=>X a.1 (fun q0=>K (q0,()))
theorem v0h{Bk:U4}(h:AL [(49,q4i Bk)]):MT 20 (z3j (z2v Bk)):=mS h []
theorem j8x:MT 20 (z3j Vm):=v0h ⟨j3q,trivial⟩
def q9b(X:Rb):Con Sg:=conV [.ptr 92 [.c,.v],.v] [.ptr 92 [.sl C.u8,.int .i64],.int .i64] [.el C.env] [.ptr 92 [.same,.int .i64],.same] fun a K=>X a.1.1 a.1.2.1 a.2.1 (fun q0 q1=>K (q0,()) (((),q1,()),(),()))
theorem j8y{Q1:W9}{z0j:q5i}{Qb:Zi}{q3f:z6z}{Jk:q1q}{q46:z2j}{z6n:z45}{Rr:q1r}{q47:q6u}{Z7:J8}{j2m:z47}{Wq:q1p}{q3g:q8d}{z7y:z1j}{W5:q6t}{G3:q0t}{z4d:q8k}{Wy:q0v}(h:AL [(29,q5t Q1),(33,z5h z0j),(30,Uh Qb),(34,w34 q3f),(64,z5g Jk),(62,j6r q46),(13,j79 z6n),(65,z5i Rr),(63,w37 q47),(66,R9 Z7),(36,j8h j2m),(31,z7h Wq),(39,j1c q3g),(67,j3g z7y),(32,j1b W5),(68,z3f G3),(69,z9i z4d),(20,z3j Wy)]):MT 11 (q9b (q8u Q1 z0j Qb q3f Jk q46 z6n Rr q47 Z7 j2m Wq q3g z7y W5 G3 z4d Wy)):=mP (rk:=[.el C.env]) h [(8,⟨bl 3123,[1],[(3,(46,8)),(0,(92,2))],[(.cell 3 0,.str),(.cell 3 1,.str),(.cell 3 2,.int .i64),(.cell 0 1,.int .i64),(.obj 2,.own 111 C.decl)]⟩),(15,⟨bl 98569331,[2,1],[(0,(92,2)),(3,(46,8))],[sI 7,(.cell 0 1,.int .i64),(.cell 3 5,.own 34 C.flag),(.obj 10,.own 144 C.seg),(.obj 12,.own 102 C.layer),(.obj 13,.own 68 C.exper)]⟩),(36000009,⟨bl 1073218007,[22,21],[(0,(92,2)),(23,(34,13))],[sI 9,(.cell 0 1,.int .i64),(.cell 23 2,.own 72 C.val),(.obj 13,.own 68 C.exper),(.obj 12,.own 102 C.layer),(.obj 17,.own 34 C.flag),(.obj 10,.own 144 C.seg)]⟩),(36000019,⟨bl 545366356788183,[22,21],[(23,(34,13)),(0,(92,2))],[sI 10,(.cell 23 5,.own 62 C.prereq),(.cell 0 1,.int .i64),(.obj 10,.own 144 C.seg),(.obj 17,.own 34 C.flag),(.obj 12,.own 102 C.layer),(.obj 13,.own 68 C.exper),(.obj 27,.own 72 C.val)]⟩),(36000029,⟨bl 17996814912849879,[22,21],[(23,(34,13)),(0,(92,2))],[sI 11,(.cell 23 6,.own 116 C.target),(.cell 0 1,.int .i64),(.obj 27,.own 72 C.val),(.obj 13,.own 68 C.exper),(.obj 12,.own 102 C.layer),(.obj 17,.own 34 C.flag),(.obj 10,.own 144 C.seg),(.obj 34,.own 62 C.prereq)]⟩),(36000038,⟨bl 19688565898261847554177638359,[23],[(51,(116,3)),(0,(92,2))],[(.cell 51 0,.str),(.cell 0 1,.int .i64),(.obj 50,.own 9 C.str),(.obj 34,.own 62 C.prereq),(.obj 10,.own 144 C.seg),(.obj 17,.own 34 C.flag),(.obj 12,.own 102 C.layer),(.obj 13,.own 68 C.exper),(.obj 27,.own 72 C.val),(.obj 42,.own 116 C.target)]⟩),(36000060,⟨bl 324518589926201333218846174621655,[22,21],[(0,(92,2)),(23,(34,13))],[(.cell 0 1,.int .i64),(.cell 23 7,.own 138 C.rule),(.obj 50,.own 9 C.str),(.obj 34,.own 62 C.prereq),(.obj 10,.own 144 C.seg),(.obj 17,.own 34 C.flag),(.obj 12,.own 102 C.layer),(.obj 13,.own 68 C.exper),(.obj 27,.own 72 C.val),(.obj 42,.own 116 C.target)]⟩),(36000047,⟨bl 324518589926201333218846174621655,[],[(0,(92,2)),(23,(34,13))],[sI 14,(.cell 0 1,.int .i64),(.cell 23 7,.own 138 C.rule),(.obj 50,.own 9 C.str),(.obj 34,.own 62 C.prereq),(.obj 10,.own 144 C.seg),(.obj 17,.own 34 C.flag),(.obj 12,.own 102 C.layer),(.obj 13,.own 68 C.exper),(.obj 27,.own 72 C.val),(.obj 42,.own 116 C.target)]⟩),(25,⟨bl 387030204812531,[2,1],[(0,(92,2)),(3,(46,8))],[sI 8,(.cell 0 1,.int .i64),(.cell 3 6,.own 102 C.layer),(.obj 13,.own 68 C.exper),(.obj 10,.own 144 C.seg),(.obj 17,.own 34 C.flag)]⟩),(35,⟨bl 811665570522726403571,[2,1],[(0,(92,2)),(3,(46,8))],[sI 9,(.cell 0 1,.int .i64),(.cell 3 7,.own 68 C.exper),(.obj 17,.own 34 C.flag),(.obj 10,.own 144 C.seg),(.obj 24,.own 102 C.layer)]⟩),(38000010,⟨bl 140737488348975,[37,36,35],[(40,(68,12)),(0,(92,2))],[(.cell 40 4,.int .i64),(.cell 0 1,.int .i64),(.obj 39,.own 162 C.range),(.obj 31,.own 68 C.exper),(.obj 24,.own 102 C.layer),(.obj 17,.own 34 C.flag),(.obj 10,.own 144 C.seg)]⟩),(38000014,⟨bl 140737488348975,[37,36,35],[(40,(68,12)),(0,(92,2))],[(.cell 40 7,.int .i64),(.cell 40 8,.str),(.cell 40 9,.str),(.cell 40 10,.sl C.val),(.cell 40 11,.sl C.ex),(.cell 0 1,.int .i64),(.obj 10,.own 144 C.seg),(.obj 17,.own 34 C.flag),(.obj 24,.own 102 C.layer),(.obj 31,.own 68 C.exper),(.obj 39,.own 162 C.range)]⟩)]
theorem j8z:MT 11 (q9b q2c):=j8y ⟨q95,w69,G0,v2s,j77,v2t,v8f,j78,v2u,z1y,v8j,j6q,w7a,v39,w33,j8j,w96,j8x,trivial⟩
def z3k(X:q2d):Con Sg:=conS [.int .i64] [.bool] fun a K=>X a.1 (fun q0=>K (q0,()))
theorem j1k:MT 245 (z3k Gl):=mS (l:=[]) trivial []
def Wx(X:Q6):Con Sg:=conS [.sl C.str,.sl C.str] [.bool] fun a K=>X a.1 a.2.1 (fun q0=>K (q0,()))
theorem Hg:MT 279 (Wx Zn):=mS (l:=[]) trivial [(9,⟨bl 8131,[],[],[sI 13]⟩)]
end Go.En
end
noncomputable section
set_option maxRecDepth 100000
open Go Go.RowKit Go.Fl Go.Fl.Lk Go.Fx
namespace Go.En
def z5w(X:q90):Con Sg:=conS [.el C.val,.el C.val] [.bool] fun a K=>X a.1 a.2.1 (fun q0=>K (q0,()))
theorem w7s{Qo:Q6}(h:AL [(279,Wx Qo)]):MT 310 (z5w (z5b Qo)):=mS h []
theorem w7t:MT 310 (z5w q1k):=w7s ⟨Hg,trivial⟩
def j80(X:q36):Con Sg:=conV [.el C.ex,.el C.ex] [.el C.ex,.el C.ex] [.bool] [.same,.same] fun a K=>X a.1 a.2.1 (fun q0=>K (q0,()) ((),(),()))
theorem v0i:MT 294 (j80 q0w):=by
 show MT _ (conV ([.el C.ex,.el C.ex]:LP) ([.el C.ex,.el C.ex]:LV) ([.bool]:LV) ([.same,.same]:LV) fun a K=>q0w a.1 a.2.1 (fun q0=>K (q0,()) ((),(),())))
 exact mQ (l:=[(310,z5w q1k)]) (u:=4) (rk:=[.v]) ⟨w7t,trivial⟩ (by kernel_rfl) [(310000009,⟨bl 130055,[],[],[sI 17]⟩),(312000009,⟨bl 130055,[],[],[sI 17]⟩)] (fun X a K=>z9a q1k (fun a b K=>X (a,b,()) fun r _=>K r.1) a.1 a.2.1 (fun q0=>K (q0,()) ((),(),()))) (fun _ _ _=>by kernel_rfl) fun a K h X hX=>h (fun a b K=>X (a,b,()) fun r _=>K r.1) fun a b K hs=>hX (a,b,()) (fun r _=>K r.1) hs
def z8j(X:Ur):Con Sg:=conV [.own 66 C.ex,.el C.ex] [.vec 66 C.ex,.el C.ex] [.vec 66 C.ex] [.same,.same] fun a K=>X a.1 a.2.1 (fun q0=>K (q0,()) ((),(),()))
theorem w0o:MT 266 (z8j q4y):=by
 show MT _ (conV ([.own 66 C.ex,.el C.ex]:LP) ([.vec 66 C.ex,.el C.ex]:LV) ([.vec 66 C.ex]:LV) ([.same,.same]:LV) fun a K=>q4y a.1 a.2.1 (fun q0=>K (q0,()) ((),(),())))
 exact mQ (l:=[(245,z3k Gl),(294,j80 q0w)]) (u:=4) (rk:=[.own 66 C.ex]) ⟨j1k,v0i,trivial⟩ (by kernel_rfl) [(6,⟨[1,3,4],[1],[],[(.slot 0,.own 66 C.ex)]⟩),(9,⟨bl 234881050,[1],[],[(.slot 0,.own 66 C.ex),sI 28]⟩),(245000005,⟨bl 195,[0],[],[sI 8]⟩)] (fun X a K=>z0s Gl q0w (fun l e K=>X (l,e,()) fun r _=>K r.1) a.1 a.2.1 (fun q0=>K (q0,()) ((),(),()))) (fun _ _ _=>by kernel_rfl) fun a K h X hX=>h (fun l e K=>X (l,e,()) fun r _=>K r.1) fun l e K hs=>hX (l,e,()) (fun r _=>K r.1) hs
def q23(X:Ub):Con Sg:=conS [.el C.val] [.el C.val] fun a K=>X a.1 (fun q0=>K (q0,()))
theorem q7d:MT 93 (q23 Jz):=mS (l:=[]) trivial []
def j4s(X:Rd):Con Sg:=conV [.el C.ex] [.el C.ex] [.el C.ex] [.same] fun a K=>X a.1 (fun q0=>K (q0,()) ((),()))
theorem w7u:MT 267 (j4s q91):=by
 show MT _ (conV ([.el C.ex]:LP) ([.el C.ex]:LV) ([.el C.ex]:LV) ([.same]:LV) fun a K=>q91 a.1 (fun q0=>K (q0,()) ((),())))
 exact mQ (l:=[(93,q23 Jz)]) (u:=4) (rk:=[.el C.ex]) ⟨q7d,trivial⟩ (by kernel_rfl) [(296000007,⟨bl 7955,[],[],[(.slot 5,.own 72 C.val),sI 13]⟩),(266000007,⟨bl 7955,[],[],[(.slot 5,.own 66 C.ex),sI 13]⟩)] (fun X a K=>z5c Jz (fun e K=>X (e,()) fun r _=>K r.1) a.1 (fun q0=>K (q0,()) ((),()))) (fun _ _ _=>by kernel_rfl) fun a K h X hX=>h (fun e K=>X (e,()) fun r _=>K r.1) fun e K hs=>hX (e,()) (fun r _=>K r.1) hs
def z03(X:B3):Con Sg:=conS [.el C.ex] [.vec 66 C.ex] fun a K=>X a.1 (fun q0=>K (q0,()))
theorem w0p{q5b:Ur}{z0k:Rd}(h:AL [(266,z8j q5b),(267,j4s z0k)]):MT 219 (z03 (z0t q5b z0k)):=mS h [(266000007,⟨bl 7955,[1],[],[(.slot 5,.own 66 C.ex),sI 13]⟩)]
theorem w0q:MT 219 (z03 z0u):=w0p ⟨w0o,w7u,trivial⟩
def W4(X:Zv):Con Sg:=conV [.own 9 C.str] [.vec 9 C.str] [] [.vec 9 C.str] fun a K=>X a.1 (fun q0=>K () (q0,()))
theorem Hs:MT 137 (W4 Jv):=⟨entB (by kernel_rfl),q69⟩
def U9(X:J9):Con Sg:=conV [.own 9 C.str] [.vec 9 C.str] [.vec 9 C.str] [.same] fun a K=>X a.1 (fun q0=>K (q0,()) ((),()))
theorem q4j:MT 220 (U9 Wa):=⟨entB (by kernel_rfl),q4d⟩
def q6e(X:Hb):Con Sg:=conS [.el C.ex] [.sl C.str] fun a K=>X a.1 (fun q0=>K (q0,()))
theorem j5i{q5c:B3}{Qq:Zv}{Z9:J9}(h:AL [(219,z03 q5c),(137,W4 Qq),(220,U9 Z9)]):MT 177 (q6e (q55 q5c Qq Z9)):=mS h [(7,⟨bl 455,[1,0],[],[(.slot 3,.own 9 C.str),sI 9]⟩)]
theorem j5j:MT 177 (q6e q0e):=j5i ⟨w0q,Hs,q4j,trivial⟩
def j1l(X:z2w):Con Sg:=conV [.sl C.str,.sl C.edge] [.sl C.str,.sl C.edge] [.vec 9 C.str,.int .i64] [.same,.same] fun a K=>X a.1 a.2.1 (fun q0 q1=>K (q0,q1,()) ((),(),()))
theorem w4j:MT 178 (j1l P_graph_Order):=⟨entB (by kernel_rfl),w32⟩
def q9c(X:Re):Con Sg:=conS [.sl C.seg] [.vec 9 C.str,.int .i64] fun a K=>X a.1 (fun q0 q1=>K (q0,q1,()))
theorem j81{q0n:Hb}{q7o:z2w}(h:AL [(177,q6e q0n),(178,j1l q7o)]):MT 135 (q9c (q8v q0n q7o)):=mS h [(9,⟨bl 3085,[],[],[(.slot 4,.own 9 C.str),(.slot 5,.own 238 C.edge),sI 12]⟩),(17,⟨bl 33488029,[6,5,3],[],[(.slot 5,.own 238 C.edge),sI 25]⟩)]
theorem j82:MT 135 (q9c q2e):=j81 ⟨j5j,w4j,trivial⟩
def q9d(X:U5):Con Sg:=conS [.el C.subj,.str] [.int .i64] fun a K=>X a.1 a.2.1 (fun q0=>K (q0,()))
theorem z5x:MT 77 (q9d Rf):=mS (l:=[]) trivial [(119000005,⟨bl 195,[1],[],[sI 8]⟩)]
end Go.En
end
noncomputable section
set_option maxRecDepth 100000
open Go Go.RowKit Go.Fl Go.Fl.Lk Go.Fx
namespace Go.En
def q4k(X:U6):Con Sg:=conS [.el C.attr] [.el C.attr] fun a K=>X a.1 (fun q0=>K (q0,()))
theorem j3r{Z8:Ub}(h:AL [(93,q23 Z8)]):MT 121 (q4k (q37 Z8)):=mS h []
theorem j3s:MT 121 (q4k R4):=j3r ⟨q7d,trivial⟩
def q9e(X:Rg):Con Sg:=conS [.el C.ctx] [.el C.ctx] fun a K=>X a.1 (fun q0=>K (q0,()))
theorem j83{Bm:U6}(h:AL [(121,q4k Bm)]):MT 78 (q9e (q8w Bm)):=mS h [(121000007,⟨bl 7955,[],[],[(.slot 5,.own 160 C.attr),sI 13]⟩)]
theorem j84:MT 78 (q9e q2f):=j83 ⟨j3s,trivial⟩
def Us(X:Zq):Con Sg:=conS [.el C.subj,.str] [.el C.ctx,.bool] fun a K=>X a.1 a.2.1 (fun q0 q1=>K (q0,q1,()))
theorem w0r{J4:U5}{q3p:Rg}(h:AL [(77,q9d J4),(78,q9e q3p)]):MT 44 (Us (z0v J4 q3p)):=mS h []
theorem B4:MT 44 (Us Vc):=w0r ⟨z5x,j84,trivial⟩
def q0i(X:Ww):Con Sg:=conS [.el C.subj,.str,.str] [.el C.val,.bool] fun a K=>X a.1 a.2.1 a.2.2.1 (fun q0 q1=>K (q0,q1,()))
theorem j5k{J4:U5}{Z8:Ub}(h:AL [(77,q9d J4),(93,q23 Z8)]):MT 71 (q0i (q56 J4 Z8)):=mS h [(17,⟨bl 1912468303,[2,0],[(1,(72,4))],[sI 31,(.cell 1 0,.int .i64),(.cell 1 1,.int .i64),(.cell 1 2,.str),(.cell 1 3,.sl C.str)]⟩)]
theorem z4m:MT 71 (q0i Hc):=j5k ⟨z5x,q7d,trivial⟩
def z3l(X:q2g):Con Sg:=conS [.el C.val,.el C.val] [.bool] fun a K=>X a.1 a.2.1 (fun q0=>K (q0,()))
theorem w4k{Qo:Q6}(h:AL [(279,Wx Qo)]):MT 248 (z3l (z2x Qo)):=mS h []
theorem w4l:MT 248 (z3l q2h):=w4k ⟨Hg,trivial⟩
def G1(X:Z6):Con Sg:=conS [.str,.str] [.bool] fun a K=>X a.1 a.2.1 (fun q0=>K (q0,()))
theorem q24:MT 280 (G1 J0):=mS (l:=[]) trivial []
def q01(X:Vn):Con Sg:=conS [.str,.str] [.bool] fun a K=>X a.1 a.2.1 (fun q0=>K (q0,()))
theorem z9o{Q3:Z6}(h:AL [(280,G1 Q3)]):MT 249 (q01 (q0x Q3)):=mS h []
theorem z9p:MT 249 (q01 Gm):=z9o ⟨q24,trivial⟩
def q25(X:W2):Con Sg:=conS [.str,.str] [.bool] fun a K=>X a.1 a.2.1 (fun q0=>K (q0,()))
theorem z3m:MT 281 (q25 Gn):=mS (l:=[]) trivial []
def q02(X:Vo):Con Sg:=conS [.str,.str] [.bool] fun a K=>X a.1 a.2.1 (fun q0=>K (q0,()))
theorem z9q{W6:W2}(h:AL [(281,q25 W6)]):MT 250 (q02 (q0y W6)):=mS h []
theorem z9r:MT 250 (q02 Gq):=z9q ⟨z3m,trivial⟩
def q98(X:q2i):Con Sg:=conV [.v,.v] [.str,.str] [.bool] [.same,.same] fun a K=>X a.1 a.2.1 (fun q0=>K (q0,()) ((),(),()))
theorem j1m:MT 251 (q98 q2j):=⟨entB (by kernel_rfl),j1a⟩
def j1n(X:q6z):Con Sg:=conS [.el C.val] [.bool] fun a K=>X a.1 (fun q0=>K (q0,()))
theorem w4m:MT 299 (j1n q60):=mS (l:=[]) trivial [(8,⟨bl 31,[0],[],[sB 5]⟩),(14,⟨bl 63,[0],[],[sB 17]⟩)]
def z5y(X:q5q):Con Sg:=conS [.str] [.bool] fun a K=>X a.1 (fun q0=>K (q0,()))
theorem w7v{Zx:V4}(h:AL [(206,q20 Zx)]):MT 300 (z5y (z5d Zx)):=mS h [(9,⟨bl 32737,[],[],[(.obj 0,.siter)]⟩)]
theorem w7w:MT 300 (z5y q92):=w7v ⟨q96,trivial⟩
end Go.En
end
noncomputable section
set_option maxRecDepth 100000
open Go Go.RowKit Go.Fl Go.Fl.Lk Go.Fx
namespace Go.En
def z5z(X:q8x):Con Sg:=conV [.v,.v] [.str,.str] [.vec 9 C.str] [.same,.same] fun a K=>X a.1 a.2.1 (fun q0=>K (q0,()) ((),(),()))
theorem j85:MT 302 (z5z q8y):=⟨entB (by kernel_rfl),j76⟩
def G2(X:J1):Con Sg:=conS [.str,.str] [.str,.bool] fun a K=>X a.1 a.2.1 (fun q0 q1=>K (q0,q1,()))
theorem z3n{Q3:Z6}(h:AL [(280,G1 Q3)]):MT 325 (G2 (Gs Q3)):=mS h []
theorem z3o:MT 325 (G2 Gt):=z3n ⟨q24,trivial⟩
def q03(X:Vp):Con Sg:=conS [.str,.str] [.str,.bool] fun a K=>X a.1 a.2.1 (fun q0 q1=>K (q0,q1,()))
theorem z9s{W7:J1}(h:AL [(325,G2 W7)]):MT 317 (q03 (q0z W7)):=mS h []
theorem z9t:MT 317 (q03 Gu):=z9s ⟨z3o,trivial⟩
def z8k(X:z0w):Con Sg:=conV [.v] [.str] [.int .i64,.ifc] [.same] fun a K=>X a.1 (fun q0 q1=>K (q0,q1,()) ((),()))
theorem w0s:MT 318 (z8k q4z):=⟨entB (by kernel_rfl),w0g⟩
def q26(X:Uc):Con Sg:=conS [.str] [.int .i64,.int .i64] fun a K=>X a.1 (fun q0 q1=>K (q0,q1,()))
theorem j1o{G4:Vp}{B6:z0w}(h:AL [(317,q03 G4),(318,z8k B6)]):MT 303 (q26 (q2k G4 B6)):=mS h [(11,⟨bl 4294966321,[],[],[(.obj 0,.siter)]⟩)]
theorem j1p:MT 303 (q26 Hp):=j1o ⟨z9t,w0s,trivial⟩
def q7e(X:Gv):Con Sg:=conS [.str] [.el C.a3,.bool] fun a K=>X a.1 (fun q0 q1=>K (q0,q1,()))
theorem w4n{q3q:q8x}{Hu:Uc}(h:AL [(302,z5z q3q),(303,q26 Hu)]):MT 286 (q7e (z2y q3q Hu)):=mS h [(13,⟨bl 228405,[2],[(1,(283,3)),(0,(283,3))],[sI 18,(.cell 1 0,.int .i64),(.cell 1 1,.int .i64),(.cell 1 2,.int .i64),(.cell 0 0,.int .i64),(.cell 0 1,.int .i64),(.cell 0 2,.int .i64)]⟩)]
theorem j1q:MT 286 (q7e q2l):=w4n ⟨j85,j1p,trivial⟩
def z3p(X:q2m):Con Sg:=conS [.el C.val] [.int .i64] fun a K=>X a.1 (fun q0=>K (q0,()))
theorem w4o{q7p:q6z}{q5z:q5q}{Wj:Gv}(h:AL [(299,j1n q7p),(300,z5y q5z),(286,q7e Wj)]):MT 283 (z3p (z2z q7p q5z Wj)):=mS h [(47,⟨bl 73643289922748022531,[0],[],[sI 66]⟩),(59,⟨bl 132521265739157328625411,[0],[],[sI 77]⟩)]
theorem w4p:MT 283 (z3p q61):=w4o ⟨w4m,w7w,j1q,trivial⟩
def q9f(X:Rh):Con Sg:=conS [.el C.val,.el C.val] [.int .i64,.int .i64] fun a K=>X a.1 a.2.1 (fun q0 q1=>K (q0,q1,()))
theorem j86{q3r:q2m}{Wj:Gv}(h:AL [(283,z3p q3r),(286,q7e Wj)]):MT 252 (q9f (q8z q3r Wj)):=mS h [(288000005,⟨bl 1539,[],[],[sI 11]⟩)]
theorem j87:MT 252 (q9f Ri):=j86 ⟨w4p,j1q,trivial⟩
def z3q(X:q62):Con Sg:=conS [.el C.subj,.el C.ex] [.bool] fun a K=>X a.1 a.2.1 (fun q0=>K (q0,()))
theorem w4q{Jp:Ww}{Bl:q2d}{Bn:q2g}{G5:Vn}{G6:Vo}{Hw:q2i}{Rt:Rh}(h:AL [(71,q0i Jp),(245,z3k Bl),(248,z3l Bn),(249,q01 G5),(250,q02 G6),(251,q98 Hw),(252,q9f Rt)]):MT 192 (z3q (z22 Jp Bl Bn G5 G6 Hw Rt)):=mS h [(279000005,⟨bl 195,[2],[],[sI 8]⟩),(80000005,⟨bl 195,[],[],[sI 8]⟩)]
theorem w4r:MT 192 (z3q R5):=w4q ⟨z4m,j1k,w4l,z9p,z9r,j1m,j87,trivial⟩
def q7f(X:Wh):Con Sg:=conV [.el C.subj,.sl C.str,.el C.ex] [.el C.subj,.sl C.str,.el C.ex] [.bool] [.same,.same,.same] fun a K=>X a.1 a.2.1 a.2.2.1 (fun q0=>K (q0,()) ((),(),(),()))
theorem z3r:MT 141 (q7f Ud):=by
 show MT _ (conV ([.el C.subj,.sl C.str,.el C.ex]:LP) ([.el C.subj,.sl C.str,.el C.ex]:LV) ([.bool]:LV) ([.same,.same,.same]:LV) fun a K=>Ud a.1 a.2.1 a.2.2.1 (fun q0=>K (q0,()) ((),(),(),())))
 exact mQ (l:=[(192,z3q R5)]) (u:=4) (rk:=[.v]) ⟨w4r,trivial⟩ (by kernel_rfl) [(245000005,⟨bl 195,[1,0],[],[sI 8]⟩),(80000005,⟨bl 195,[],[],[sI 8]⟩)] (fun X a K=>z23 R5 (fun s in_ e K=>X (s,in_,e,()) fun r _=>K r.1) a.1 a.2.1 a.2.2.1 (fun q0=>K (q0,()) ((),(),(),()))) (fun _ _ _=>by kernel_rfl) fun a K h X hX=>h (fun s in_ e K=>X (s,in_,e,()) fun r _=>K r.1) fun s in_ e K hs=>hX (s,in_,e,()) (fun r _=>K r.1) hs
def q27(X:Ue):Con Sg:=conS [.el C.seg,.el C.subj,.sl C.str] [.bool] fun a K=>X a.1 a.2.1 a.2.2.1 (fun q0=>K (q0,()))
theorem j1r{Qm:Zq}{Zy:Wh}(h:AL [(44,Us Qm),(141,q7f Zy)]):MT 136 (q27 (q2n Qm Zy)):=mS h [(80000005,⟨bl 195,[],[],[sI 8]⟩)]
theorem j1s:MT 136 (q27 Hq):=j1r ⟨B4,z3r,trivial⟩
def Bc(X:Wb):Con Sg:=conS [.sl C.seg,.el C.subj] [.vec 9 C.str] fun a K=>X a.1 a.2.1 (fun q0=>K (q0,()))
theorem j3t{q3s:Re}{Hx:Ue}{Qq:Zv}(h:AL [(135,q9c q3s),(136,q27 Hx),(137,W4 Qq)]):MT 89 (Bc (q38 q3s Hx Qq)):=mS h [(13,⟨bl 8380667,[1,0],[],[sI 23,(.obj 2,.map C.str C.seg)]⟩),(25,⟨bl 12918448379,[2,1,0],[],[(.slot 10,.own 9 C.str),sI 34]⟩)]
theorem z1z:MT 89 (Bc Vg):=j3t ⟨j82,j1s,Hs,trivial⟩
end Go.En
end
noncomputable section
set_option maxRecDepth 100000
open Go Go.RowKit Go.Fl Go.Fl.Lk Go.Fx
namespace Go.En
def q6f(X:Hd):Con Sg:=conV [.el C.env,.el C.subj,.sl C.forced] [.el C.env,.el C.subj,.sl C.forced] [.ptr 184 [.str,.str,.int .i64,.sl C.decl,.sl C.seg,.sl C.flag,.sl C.layer,.sl C.exper,.sl C.ctx,.sl C.forced,.sl C.str,.map C.str C.decis,.map C.str C.bool]] [.same,.same,.same] fun a K=>X a.1 a.2.1 a.2.2.1 (fun q0 q1 q2 q3 q4 q5 q6 q7 q8 q9 q10 q11 q12=>K ((q0,q1,q2,q3,q4,q5,q6,q7,q8,q9,q10,q11,q12,()),()) ((),(),(),()))
theorem j5l{Q4:Wb}(h:AL [(89,Bc Q4)]):MT 50 (q6f (q57 Q4)):=mP (rk:=[.ptr 184 [.c,.c,.c,.c,.c,.c,.c,.c,.c,.c,.sl C.str,.map C.str C.decis,.map C.str C.bool]]) h []
theorem j5m:MT 50 (q6f q0f):=j5l ⟨z1z,trivial⟩
def q28(X:Uf):Con Sg:=conV [.ptr 184 [.c,.c,.c,.c,.c,.c,.c,.c,.c,.c,.c,.map C.str C.decis,.map C.str C.bool],.v] [.ptr 184 [.str,.str,.int .i64,.sl C.decl,.sl C.seg,.sl C.flag,.sl C.layer,.sl C.exper,.sl C.ctx,.sl C.forced,.sl C.str,.map C.str C.decis,.map C.str C.bool],.str] [.el C.flag,.bool] [.ptr 184 [.same,.same,.same,.same,.same,.same,.same,.same,.same,.same,.same,.map C.str C.decis,.map C.str C.bool],.same] fun a K=>X a.1.1 a.1.2.1 a.1.2.2.1 a.1.2.2.2.1 a.1.2.2.2.2.1 a.1.2.2.2.2.2.1 a.1.2.2.2.2.2.2.1 a.1.2.2.2.2.2.2.2.1 a.1.2.2.2.2.2.2.2.2.1 a.1.2.2.2.2.2.2.2.2.2.1 a.1.2.2.2.2.2.2.2.2.2.2.1 a.1.2.2.2.2.2.2.2.2.2.2.2.1 a.1.2.2.2.2.2.2.2.2.2.2.2.2.1 a.2.1 (fun q0 q1 q2 q3=>K (q0,q1,()) (((),(),(),(),(),(),(),(),(),(),(),q2,q3,()),(),()))
theorem q99:MT 51 (q28 J2):=mP (rk:=[.el C.flag,.v]) (l:=[]) trivial [(91000005,⟨bl 195,[3],[],[sI 8]⟩)]
def q4l(X:R6):Con Sg:=conS [.el C.flag,.el C.subj] [.int .i64] fun a K=>X a.1 a.2.1 (fun q0=>K (q0,()))
theorem j3u{Qm:Zq}(h:AL [(44,Us Qm)]):MT 16 (q4l (q39 Qm)):=mS h [(80000005,⟨bl 195,[],[],[sI 8]⟩),(5,⟨bl 3599,[1,0],[],[sI 12]⟩)]
theorem j3v:MT 16 (q4l Vh):=j3u ⟨B4,trivial⟩
def z8l(X:q40):Con Sg:=conS [.sl C.bytes] [.vec 5 C.u8] fun a K=>X a.1 (fun q0=>K (q0,()))
theorem w0t:MT 166 (z8l q41):=mS (l:=[]) trivial [(7,⟨bl 389,[],[],[(.slot 3,.own 5 C.u8),sI 9]⟩),(13,⟨bl 8101,[],[],[(.slot 3,.own 5 C.u8),sI 6]⟩)]
def q9g(X:Gw):Con Sg:=conS [.int .u64,.int .i64] [.int .u64] fun a K=>X a.1 a.2.1 (fun q0=>K (q0,()))
theorem z9u:MT 261 (q9g Gx):=mS (l:=[]) trivial []
def Uw(X:Jc):Con Sg:=conV [.ptr 294 [.v,.v,.v,.v],.v] [.ptr 294 [.int .u64,.int .u64,.int .u64,.int .u64],.int .i64] [] [.ptr 294 [.int .u64,.int .u64,.int .u64,.int .u64],.same] fun a K=>X a.1.1 a.1.2.1 a.1.2.2.1 a.1.2.2.2.1 a.2.1 (fun q0 q1 q2 q3=>K () ((q0,q1,q2,q3,()),(),()))
theorem z73{Zm:Gw}(h:AL [(261,q9g Zm)]):MT 204 (Uw (Br Zm)):=mP (rk:=[]) h [(3,⟨[0,1,4],[],[(0,(294,4))],[sI 5,(.cell 0 0,.int IntKind.u64),(.cell 0 1,.int IntKind.u64),(.cell 0 2,.int IntKind.u64),(.cell 0 3,.int IntKind.u64)]⟩)]
theorem q6n:MT 204 (Uw Zs):=z73 ⟨z9u,trivial⟩
def q29(X:Ug):Con Sg:=conV [.ptr 294 [.v,.v,.v,.v],.v] [.ptr 294 [.int .u64,.int .u64,.int .u64,.int .u64],.int .u64] [] [.ptr 294 [.int .u64,.int .u64,.int .u64,.int .u64],.same] fun a K=>X a.1.1 a.1.2.1 a.1.2.2.1 a.1.2.2.2.1 a.2.1 (fun q0 q1 q2 q3=>K () ((q0,q1,q2,q3,()),(),()))
theorem j1t{Zc:Jc}(h:AL [(204,Uw Zc)]):MT 203 (q29 (q2o Zc)):=mP (rk:=[]) h []
theorem j1u:MT 203 (q29 Hr):=j1t ⟨q6n,trivial⟩
def z50(X:q5r):Con Sg:=conS [.int .u64,.int .u64,.sl C.u8] [.int .u64] fun a K=>X a.1 a.2.1 a.2.2.1 (fun q0=>K (q0,()))
theorem w7x{Un:Ug}{Zc:Jc}(h:AL [(203,q29 Un),(204,Uw Zc)]):MT 165 (z50 (z5e Un Zc)):=mS h [(9,⟨bl 67101127,[],[(0,(294,4))],[sI 9,(.cell 0 0,.int IntKind.u64),(.cell 0 1,.int IntKind.u64),(.cell 0 2,.int IntKind.u64),(.cell 0 3,.int IntKind.u64)]⟩),(17,⟨bl 2147476423,[0],[],[(.slot 10,.int IntKind.u64),sI 33]⟩),(29,⟨bl 15762600843272903,[0],[],[(.slot 8,.int IntKind.u64),sI 54]⟩)]
theorem w7y:MT 165 (z50 q93):=w7x ⟨j1u,q6n,trivial⟩
def z3s(X:q2p):Con Sg:=conS [.int .u64,.sl C.bytes] [.int .u64] fun a K=>X a.1 a.2.1 (fun q0=>K (q0,()))
theorem w4s{q5d:q40}{z0l:q5r}(h:AL [(166,z8l q5d),(165,z50 z0l)]):MT 115 (z3s (z25 q5d z0l)):=mS h []
theorem w4t:MT 115 (z3s q63):=w4s ⟨w0t,w7y,trivial⟩
def q4m(X:Vq):Con Sg:=conS [.str,.str] [.int .i64] fun a K=>X a.1 a.2.1 (fun q0=>K (q0,()))
theorem v0j{q7q:q2p}(h:AL [(115,z3s q7q)]):MT 73 (q4m (z9b q7q)):=mS h []
theorem z3t:MT 73 (q4m Gy):=v0j ⟨w4t,trivial⟩
def z52(X:q2q):Con Sg:=conS [.sl C.forced,.str] [.el C.forced,.bool] fun a K=>X a.1 a.2.1 (fun q0 q1=>K (q0,q1,()))
theorem j88:MT 183 (z52 q2r):=mS (l:=[]) trivial [(5,⟨bl 787,[],[(0,(172,3))],[sI 10,(.cell 0 0,.str),(.cell 0 1,.str),(.cell 0 2,.int .i64)]⟩)]
def j1v(X:q64):Con Sg:=conS [.el C.env,.el C.forced] [.bool] fun a K=>X a.1 a.2.1 (fun q0=>K (q0,()))
theorem w4u:MT 184 (j1v q65):=mSg 8 (l:=[]) trivial [(277000005,⟨bl 195,[1],[],[sI 8]⟩),(278000005,⟨bl 195,[],[],[sI 8]⟩)]
end Go.En
end
noncomputable section
set_option maxRecDepth 100000
open Go Go.RowKit Go.Fl Go.Fl.Lk Go.Fx
namespace Go.En
def z3u(X:q2s):Con Sg:=conS [.el C.env,.el C.subj] [.bool] fun a K=>X a.1 a.2.1 (fun q0=>K (q0,()))
theorem w4v{Qm:Zq}{Zh:Vq}(h:AL [(44,Us Qm),(73,q4m Zh)]):MT 185 (z3u (z27 Qm Zh)):=mS h []
theorem w4w:MT 185 (z3u q66):=w4v ⟨B4,z3t,trivial⟩
def q4n(X:U7):Con Sg:=conS [.el C.env,.el C.subj,.str] [.bool] fun a K=>X a.1 a.2.1 a.2.2.1 (fun q0=>K (q0,()))
theorem j3w{Q4:Wb}{Zy:Wh}(h:AL [(89,Bc Q4),(141,q7f Zy)]):MT 188 (q4n (q4a Q4 Zy)):=mS h [(5,⟨bl 3615,[1,0],[],[sI 12]⟩)]
theorem j3x:MT 188 (q4n R7):=j3w ⟨z1z,z3r,trivial⟩
def z3v(X:R8):Con Sg:=conS [.sl C.range,.int .i64] [.int .i64] fun a K=>X a.1 a.2.1 (fun q0=>K (q0,()))
theorem j1w:MT 41 (z3v q2t):=mS (l:=[]) trivial [(5,⟨bl 387,[],[],[sI 9]⟩)]
def z04(X:q42):Con Sg:=conS [.el C.env,.el C.subj,.sl C.forced,.str] [.el C.asg,.int .i64] fun a K=>X a.1 a.2.1 a.2.2.1 a.2.2.2.1 (fun q0 q1=>K (q0,q1,()))
theorem w0u{Qm:Zq}{q3t:q2q}{Zh:Vq}{W8:R8}{Bo:U7}{q7r:q2s}{q7s:q64}(h:AL [(44,Us Qm),(183,z52 q3t),(73,q4m Zh),(41,z3v W8),(188,q4n Bo),(185,z3u q7r),(184,j1v q7s)]):MT 139 (z04 (z0x Qm q3t Zh W8 Bo q7r q7s)):=mS h [(4,⟨bl 959,[3,2,1,0],[],[sI 10]⟩),(18,⟨bl 2198939402175,[9,5,3,2,1,0],[(7,(134,5))],[(.cell 7 2,.int .i64)]⟩),(22,⟨bl 17735122472271807,[12,7,9,5,3,2,1,0],[],[sB 64]⟩),(30,⟨bl 18464479196181823423,[12,7,9,5,3,2,1,0],[],[sB 87]⟩),(41,⟨bl 73193204841212587949592543167,[12,9,5,3,2,1,0],[(7,(134,5))],[sI 96,(.cell 7 1,.str),(.cell 7 3,.int .i64)]⟩),(46,⟨bl 1261615642555177651852752060351,[19,7],[],[sB 19]⟩),(48,⟨bl 1261615642555177651852752584639,[19,7],[],[sB 122]⟩),(244000005,⟨bl 195,[],[],[sI 8]⟩),(182000005,⟨bl 195,[],[],[sI 8]⟩)]
theorem w0v:MT 139 (z04 Hk):=w0u ⟨B4,j88,z3t,j1w,j3x,w4w,w4u,trivial⟩
def Bw(X:Uu):Con Sg:=conV [.ptr 184 [.c,.c,.c,.c,.c,.c,.c,.c,.c,.c,.c,.map C.str C.decis,.map C.str C.bool],.el C.exper] [.ptr 184 [.str,.str,.int .i64,.sl C.decl,.sl C.seg,.sl C.flag,.sl C.layer,.sl C.exper,.sl C.ctx,.sl C.forced,.sl C.str,.map C.str C.decis,.map C.str C.bool],.el C.exper] [.int .i64] [.ptr 184 [.same,.same,.same,.same,.same,.same,.same,.same,.same,.same,.same,.map C.str C.decis,.map C.str C.bool],.same] fun a K=>X a.1.1 a.1.2.1 a.1.2.2.1 a.1.2.2.2.1 a.1.2.2.2.2.1 a.1.2.2.2.2.2.1 a.1.2.2.2.2.2.2.1 a.1.2.2.2.2.2.2.2.1 a.1.2.2.2.2.2.2.2.2.1 a.1.2.2.2.2.2.2.2.2.2.1 a.1.2.2.2.2.2.2.2.2.2.2.1 a.1.2.2.2.2.2.2.2.2.2.2.2.1 a.1.2.2.2.2.2.2.2.2.2.2.2.2.1 a.2.1 (fun q0 q1 q2=>K (q0,()) (((),(),(),(),(),(),(),(),(),(),(),q1,q2,()),(),()))
theorem z74{Qm:Zq}{Zh:Vq}(h:AL [(44,Us Qm),(73,q4m Zh)]):MT 140 (Bw (Bt Qm Zh)):=mP (rk:=[.v]) h [(5,⟨bl 32267,[3,0,1,2],[],[sI 15]⟩)]
theorem z77:MT 140 (Bw J5):=z74 ⟨B4,z3t,trivial⟩
def z8m(X:z0y):Con Sg:=conV [.v] [.int .i64] [.str] [.same] fun a K=>X a.1 (fun q0=>K (q0,()) ((),()))
theorem w0w:MT 164 (z8m z0z):=⟨entB (by kernel_rfl),w0h⟩
def z3w(X:q2u):Con Sg:=conS [.int .i64] [.str] fun a K=>X a.1 (fun q0=>K (q0,()))
theorem w4x{q5e:z0y}(h:AL [(164,z8m q5e)]):MT 114 (z3w (j08 q5e)):=mS h []
theorem w4y:MT 114 (z3w q67):=w4x ⟨w0w,trivial⟩
def z54(X:q5s):Con Sg:=conS [.el C.val] [.str,.bool] fun a K=>X a.1 (fun q0 q1=>K (q0,q1,()))
theorem w7z{q7t:q2u}(h:AL [(114,z3w q7t)]):MT 72 (z54 (z5f q7t)):=mS h [(8,⟨bl 63,[0],[],[sB 6]⟩)]
theorem w70:MT 72 (z54 q94):=w7z ⟨w4y,trivial⟩
def q6g(X:He):Con Sg:=conS [.el C.subj,.str,.str,.str] [.int .i64,.bool] fun a K=>X a.1 a.2.1 a.2.2.1 a.2.2.2.1 (fun q0 q1=>K (q0,q1,()))
theorem j5n{Jp:Ww}{z0m:q5s}{Zh:Vq}(h:AL [(71,q0i Jp),(72,z54 z0m),(73,q4m Zh)]):MT 40 (q6g (q58 Jp z0m Zh)):=mS h []
theorem j5o:MT 40 (q6g q0g):=j5n ⟨z4m,w70,z3t,trivial⟩
def q6h(X:Hf):Con Sg:=conS [.el C.subj,.el C.serve] [.int .i64,.int .i64,.bool] fun a K=>X a.1 a.2.1 (fun q0 q1 q2=>K (q0,q1,q2,()))
theorem j5p{q0o:He}{W8:R8}(h:AL [(40,q6g q0o),(41,z3v W8)]):MT 14 (q6h (q59 q0o W8)):=mS h []
theorem j5q:MT 14 (q6h q0h):=j5p ⟨j5o,j1w,trivial⟩
def q04(X:Gz):Con Sg:=conV [.ptr 184 [.c,.c,.c,.c,.c,.c,.c,.c,.c,.c,.c,.map C.str C.decis,.map C.str C.bool],.el C.flag,.el C.serve,.el C.reason] [.ptr 184 [.str,.str,.int .i64,.sl C.decl,.sl C.seg,.sl C.flag,.sl C.layer,.sl C.exper,.sl C.ctx,.sl C.forced,.sl C.str,.map C.str C.decis,.map C.str C.bool],.el C.flag,.el C.serve,.el C.reason] [.int .i64,.el C.reason] [.ptr 184 [.same,.same,.same,.same,.same,.same,.same,.same,.same,.same,.same,.map C.str C.decis,.map C.str C.bool],.same,.same,.same] fun a K=>X a.1.1 a.1.2.1 a.1.2.2.1 a.1.2.2.2.1 a.1.2.2.2.2.1 a.1.2.2.2.2.2.1 a.1.2.2.2.2.2.2.1 a.1.2.2.2.2.2.2.2.1 a.1.2.2.2.2.2.2.2.2.1 a.1.2.2.2.2.2.2.2.2.2.1 a.1.2.2.2.2.2.2.2.2.2.2.1 a.1.2.2.2.2.2.2.2.2.2.2.2.1 a.1.2.2.2.2.2.2.2.2.2.2.2.2.1 a.2.1 a.2.2.1 a.2.2.2.1 (fun q0 q1 q2 q3=>K (q0,q1,()) (((),(),(),(),(),(),(),(),(),(),(),q2,q3,()),(),(),(),()))
theorem z9v{q0p:Hf}(h:AL [(14,q6h q0p)]):MT 142 (q04 (q00 q0p)):=mP (rk:=[.v,.el C.reason]) h []
theorem z9w:MT 142 (q04 Wc):=z9v ⟨j5q,trivial⟩
def q6o(X:Jd):Con Sg:=conV [.ptr 184 [.c,.c,.c,.c,.c,.c,.c,.c,.c,.c,.c,.map C.str C.decis,.map C.str C.bool],.el C.flag] [.ptr 184 [.str,.str,.int .i64,.sl C.decl,.sl C.seg,.sl C.flag,.sl C.layer,.sl C.exper,.sl C.ctx,.sl C.forced,.sl C.str,.map C.str C.decis,.map C.str C.bool],.el C.flag] [.el C.decis] [.ptr 184 [.same,.same,.same,.same,.same,.same,.same,.same,.same,.same,.same,.map C.str C.decis,.map C.str C.bool],.same] fun a K=>X a.1.1 a.1.2.1 a.1.2.2.1 a.1.2.2.2.1 a.1.2.2.2.2.1 a.1.2.2.2.2.2.1 a.1.2.2.2.2.2.2.1 a.1.2.2.2.2.2.2.2.1 a.1.2.2.2.2.2.2.2.2.1 a.1.2.2.2.2.2.2.2.2.2.1 a.1.2.2.2.2.2.2.2.2.2.2.1 a.1.2.2.2.2.2.2.2.2.2.2.2.1 a.1.2.2.2.2.2.2.2.2.2.2.2.2.1 a.2.1 (fun q0 q1 q2=>K (q0,()) (((),(),(),(),(),(),(),(),(),(),(),q1,q2,()),(),()))
theorem z78:MT 52 (q6o Uv):=by
 show MT _ (conV ([.ptr 184 [.c,.c,.c,.c,.c,.c,.c,.c,.c,.c,.c,.map C.str C.decis,.map C.str C.bool],.el C.flag]:LP) ([.ptr 184 [.str,.str,.int .i64,.sl C.decl,.sl C.seg,.sl C.flag,.sl C.layer,.sl C.exper,.sl C.ctx,.sl C.forced,.sl C.str,.map C.str C.decis,.map C.str C.bool],.el C.flag]:LV) ([.el C.decis]:LV) ([.ptr 184 [.same,.same,.same,.same,.same,.same,.same,.same,.same,.same,.same,.map C.str C.decis,.map C.str C.bool],.same]:LV) fun a K=>Uv a.1.1 a.1.2.1 a.1.2.2.1 a.1.2.2.2.1 a.1.2.2.2.2.1 a.1.2.2.2.2.2.1 a.1.2.2.2.2.2.2.1 a.1.2.2.2.2.2.2.2.1 a.1.2.2.2.2.2.2.2.2.1 a.1.2.2.2.2.2.2.2.2.2.1 a.1.2.2.2.2.2.2.2.2.2.2.1 a.1.2.2.2.2.2.2.2.2.2.2.2.1 a.1.2.2.2.2.2.2.2.2.2.2.2.2.1 a.2.1 (fun q0 q1 q2=>K (q0,()) (((),(),(),(),(),(),(),(),(),(),(),q1,q2,()),(),())))
 exact mQ (l:=[(93,q23 Jz),(51,q28 J2),(16,q4l Vh),(139,z04 Hk),(140,Bw J5),(141,q7f Ud),(142,q04 Wc)]) (u:=4) (rk:=[.el C.decis]) ⟨q7d,q99,j3v,w0v,z77,z3r,z9w,trivial⟩ (by kernel_rfl) [(93000009,⟨bl 14909483,[9],[(10,(74,4)),(0,(184,13))],[sI 24,(.cell 10 0,.int .i64),(.cell 10 1,.int .i64),(.cell 10 2,.str),(.cell 10 3,.int .i64),(.obj 2,.map C.str C.bool),(.obj 1,.map C.str C.decis)]⟩),(93000027,⟨bl 2269884306126242091,[9],[(10,(74,4)),(0,(184,13))],[sI 61,(.cell 10 0,.int .i64),(.cell 10 1,.int .i64),(.cell 10 2,.str),(.cell 10 3,.int .i64),(.obj 1,.map C.str C.decis),(.obj 2,.map C.str C.bool)]⟩),(93000043,⟨bl 18173039004871905887270070919594283,[9],[(10,(74,4)),(0,(184,13))],[sI 114,(.cell 10 0,.int .i64),(.cell 10 1,.int .i64),(.cell 10 2,.str),(.cell 10 3,.int .i64),(.obj 2,.map C.str C.bool),(.obj 1,.map C.str C.decis)]⟩),(20,⟨bl 131067,[4,3],[(5,(76,11)),(0,(184,13))],[(.cell 5 0,.str),(.cell 5 1,.int .i64),(.cell 5 2,.int .i64),(.cell 5 3,.int .i64),(.cell 5 4,.str),(.cell 5 5,.sl C.str),(.cell 5 6,.int .i64),(.cell 5 7,.int .i64),(.cell 5 8,.str),(.cell 5 9,.int .i64),(.cell 5 10,.int .i64),(.obj 1,.map C.str C.decis),(.obj 2,.map C.str C.bool)]⟩),(16,⟨bl 68719476731,[10,1,2,0,9],[(5,(76,11))],[(.cell 5 2,.int .i64),(.cell 5 3,.int .i64),(.cell 5 4,.str),(.cell 5 5,.sl C.str)]⟩)] (fun X a K=>Bu Jz J2 Vh Hk J5 Ud Wc (fun salt hkind hold attrs segs flags layers expers ctxs fs inn done opn f K=>X ((salt,hkind,hold,attrs,segs,flags,layers,expers,ctxs,fs,inn,done,opn,()),f,()) fun r o=>K r.1 o.1.2.2.2.2.2.2.2.2.2.2.2.1 o.1.2.2.2.2.2.2.2.2.2.2.2.2.1) a.1.1 a.1.2.1 a.1.2.2.1 a.1.2.2.2.1 a.1.2.2.2.2.1 a.1.2.2.2.2.2.1 a.1.2.2.2.2.2.2.1 a.1.2.2.2.2.2.2.2.1 a.1.2.2.2.2.2.2.2.2.1 a.1.2.2.2.2.2.2.2.2.2.1 a.1.2.2.2.2.2.2.2.2.2.2.1 a.1.2.2.2.2.2.2.2.2.2.2.2.1 a.1.2.2.2.2.2.2.2.2.2.2.2.2.1 a.2.1 (fun q0 q1 q2=>K (q0,()) (((),(),(),(),(),(),(),(),(),(),(),q1,q2,()),(),()))) (fun _ _ _=>by kernel_rfl) fun _ K h X hX=>h (fun salt hkind hold attrs segs flags layers expers ctxs fs inn done opn f K=>X ((salt,hkind,hold,attrs,segs,flags,layers,expers,ctxs,fs,inn,done,opn,()),f,()) fun r o=>K r.1 o.1.2.2.2.2.2.2.2.2.2.2.2.1 o.1.2.2.2.2.2.2.2.2.2.2.2.2.1) fun salt hkind hold attrs segs flags layers expers ctxs fs inn done opn f K hs=>hX ((salt,hkind,hold,attrs,segs,flags,layers,expers,ctxs,fs,inn,done,opn,()),f,()) (fun r o=>K r.1 o.1.2.2.2.2.2.2.2.2.2.2.2.1 o.1.2.2.2.2.2.2.2.2.2.2.2.2.1) hs
end Go.En
end
noncomputable section
set_option maxRecDepth 100000
open Go Go.RowKit Go.Fl Go.Fl.Lk Go.Fx
namespace Go.En
def q3a(X:Vr):Con Sg:=conS [.el C.env,.el C.subj,.sl C.forced,.str] [.el C.decis,.int .i64] fun a K=>X a.1 a.2.1 a.2.2.1 a.2.2.2.1 (fun q0 q1=>K (q0,q1,()))
theorem j89{q0q:Hd}{Wu:Uf}{Ux:Jd}(h:AL [(50,q6f q0q),(51,q28 Wu),(52,q6o Ux)]):MT 21 (q3a (q80 q0q Wu Ux)):=mS h []
theorem z55:MT 21 (q3a Rj):=j89 ⟨j5m,q99,z78,trivial⟩
def z3x(X:q2v):Con Sg:=conS [] [.bool] fun a K=>X (fun q0=>K (q0,()))
theorem w4z{Jl:Vr}(h:AL [(21,q3a Jl)]):MT 9 (z3x (z29 Jl)):=mS h []
theorem w40:MT 9 (z3x q68):=w4z ⟨z55,trivial⟩
def v8v(X:w3t):Con Sg:=conV [.sl C.u8,.v] [.sl C.u8,.int .i64] [.ptr 92 [.sl C.u8,.int .i64]] [.same,.same] fun a K=>X a.1 a.2.1 (fun q0 q1=>K ((q0,q1,()),()) ((),(),()))
theorem y6n:MT 10 (v8v w3u):=mP (rk:=[.ptr 92 [.c,.v]]) (l:=[]) trivial [(6,⟨[1,4],[],[],[(.slot 0,.sl C.u8)]⟩)]
def z9x(X:q81):Con Sg:=conV [.ptr 92 [.c,.v],.v] [.ptr 92 [.sl C.u8,.int .i64],.str] [.el C.ctx] [.ptr 92 [.same,.int .i64],.same] fun a K=>X a.1.1 a.1.2.1 a.2.1 (fun q0 q1=>K (q0,()) (((),q1,()),(),()))
theorem v0k{z35:z83}{Q1:W9}{Qb:Zi}{Jk:q1q}(h:AL [(70,w35 z35),(29,q5t Q1),(30,Uh Qb),(64,z5g Jk)]):MT 38 (z9x (z9c z35 Q1 Qb Jk)):=mP (rk:=[.el C.ctx]) h [(9,⟨bl 8051,[4,1],[(2,(107,3)),(0,(92,2))],[sI 7,(.cell 2 2,.own 160 C.attr),(.cell 0 1,.int .i64)]⟩)]
theorem v0l:MT 38 (z9x q82):=v0k ⟨v8b,q95,G0,j77,trivial⟩
def z9y(X:q83):Con Sg:=conV [.ptr 92 [.c,.v]] [.ptr 92 [.sl C.u8,.int .i64]] [.el C.subj] [.ptr 92 [.same,.int .i64]] fun a K=>X a.1.1 a.1.2.1 (fun q0 q1=>K (q0,()) (((),q1,()),()))
theorem v0m{Qb:Zi}{q1a:q81}(h:AL [(30,Uh Qb),(38,z9x q1a)]):MT 12 (z9y (z9d Qb q1a)):=mP (rk:=[.el C.subj]) h [(10,⟨bl 125,[1],[(0,(92,2)),(2,(25,1))],[(.cell 0 1,.int .i64),(.cell 2 0,.own 107 C.ctx)]⟩)]
theorem v0n:MT 12 (z9y z3a):=v0m ⟨G0,v0l,trivial⟩
end Go.En
end
noncomputable section
set_option maxRecDepth 100000
open Go Go.RowKit Go.Fl Go.Fl.Lk Go.Fx
namespace Go.En
def j3y(X:z1v):Con Sg:=conV [.ptr 92 [.c,.v],.el C.env] [.ptr 92 [.sl C.u8,.int .i64],.el C.env] [.vec 172 C.forced] [.ptr 92 [.same,.int .i64],.same] fun a K=>X a.1.1 a.1.2.1 a.2.1 (fun q0 q1=>K (q0,()) (((),q1,()),(),()))
theorem v4r{Qb:Zi}(h:AL [(30,Uh Qb)]):MT 48 (j3y (j29 Qb)):=mP (rk:=[.own 172 C.forced]) h [(7,⟨bl 27,[1],[(0,(92,2))],[(.slot 5,.own 172 C.forced),sI 6,(.cell 0 1,.int .i64)]⟩),(16,⟨bl 998651,[2],[(5,(172,3)),(0,(92,2))],[(.cell 5 0,.str),(.cell 0 1,.int .i64)]⟩),(32,⟨bl 998651,[2],[(5,(172,3)),(0,(92,2))],[(.cell 5 0,.str),(.cell 5 1,.str),(.cell 5 2,.int .i64),(.cell 0 1,.int .i64)]⟩),(26,⟨bl 274862128603,[],[(5,(172,3)),(0,(92,2))],[(.cell 5 0,.str),(.cell 0 1,.int .i64)]⟩)]
theorem v4s:MT 48 (j3y z7f):=v4r ⟨G0,trivial⟩
def z3y(X:q2w):Con Sg:=conS [.sl C.u8,.sl C.u8] [.el C.env,.el C.subj,.sl C.forced] fun a K=>X a.1 a.2.1 (fun q0 q1 q2=>K (q0,q1,q2,()))
theorem w41{w0a:w3t}{q3u:Rb}{z4f:q83}{z7z:z1v}(h:AL [(10,v8v w0a),(11,q9b q3u),(12,z9y z4f),(48,j3y z7z)]):MT 18 (z3y (z3b w0a q3u z4f z7z)):=mS h []
theorem w42:MT 18 (z3y q2x):=w41 ⟨y6n,j8z,v0n,v4s,trivial⟩
end Go.En
end
noncomputable section
set_option maxRecDepth 100000
open Go Go.RowKit Go.Fl Go.Fl.Lk Go.Fx
namespace Go.En
def j3z(X:z1w):Con Sg:=conS [.el C.decis,.el C.decis] [.bool] fun a K=>X a.1 a.2.1 (fun q0=>K (q0,()))
theorem v4t{Bd:q3w}(h:AL [(53,z7i Bd)]):MT 22 (j3z (j3a Bd)):=mS h []
theorem v4u:MT 22 (j3z z7g):=v4t ⟨w2f,trivial⟩
def v8w(X:w3y):Con Sg:=conS [.int .i64,.int .i64] [.int .i64] fun a K=>X a.1 a.2.1 (fun q0=>K (q0,()))
theorem y6o:MT 19 (v8w w3z):=mS (l:=[]) trivial []
def Ui(X:Rk):Con Sg:=conS [.sl C.u8,.sl C.u8,.int .i64] [.bool] fun a K=>X a.1 a.2.1 a.2.2.1 (fun q0=>K (q0,()))
theorem z56{q7u:q2v}{q7v:q2w}{w51:w3y}{Wy:q0v}{Jl:Vr}{z70:z1w}(h:AL [(9,z3x q7u),(18,z3y q7v),(19,v8w w51),(20,z3j Wy),(21,q3a Jl),(22,j3z z70)]):MT 4 (Ui (Rl q7u q7v w51 Wy Jl z70)):=mS h [(19,⟨bl 281474972520391,[4,1,0],[],[sI 12,(.obj 6,.map C.str C.bool)]⟩),(25,⟨bl 9007199250554823,[],[],[sI 13,(.obj 6,.map C.str C.bool)]⟩),(31,⟨bl 1125899906838446023,[],[],[sI 14,(.obj 6,.map C.str C.bool)]⟩),(43,⟨bl 138649284399971597987952500679,[6,4,1,0],[(10,(46,8))],[sI 16,(.cell 10 5,.own 34 C.flag)]⟩),(53,⟨bl 5050795360284360528787677487047,[15,6,4,1,0],[(10,(46,8))],[sI 17,(.cell 10 7,.own 68 C.exper)]⟩)]
theorem z57:MT 4 (Ui Z2):=z56 ⟨w40,w42,y6o,j8x,z55,v4u,trivial⟩
end Go.En
end
noncomputable section
set_option maxRecDepth 100000
namespace Go.Fx
open Go.Fl
theorem Dj.cnd{ι:Type}[Nonempty ι]{c A B:Prop}{FA FB:ι->Prop}(a:A-> ∃i,FA i)(b:B-> ∃i,FB i)(h:Cnd c A B): ∃i,Cnd c (FA i) (FB i):=by
 by_cases hc:c
 ·obtain⟨i,hi⟩:=a (h.1 hc);exact⟨i,Cnd.yes hc hi⟩
 ·obtain⟨i,hi⟩:=b (h.2 hc);exact⟨i,Cnd.no hc hi⟩
theorem Dj.and{ι:Type}{p A:Prop}{F:ι->Prop}(a:A-> ∃i,F i)(h:p/\A): ∃i,p/\F i:=by
 obtain⟨i,hi⟩:=a h.2;exact⟨i,h.1,hi⟩
theorem Dj.two{ι:Type}{A:Prop}{F:ι->Prop}(a:A-> ∃i,F i)(h:A/\A): ∃i,F i/\F i:=by
 obtain⟨i,hi⟩:=a h.1;exact⟨i,hi,hi⟩
theorem Dj.one{ι:Type}{c L B:Prop}{F G:ι->Prop}(v:c-> ∀i,F i)(a:L-> ∃i,F i)(b:B-> ∃i,G i)(h:L/\(c->B)): ∃i,F i/\(c->G i):=by
 by_cases hc:c
 ·obtain⟨i,hi⟩:=b (h.2 hc);exact⟨i,v hc i,fun _=>hi⟩
 ·obtain⟨i,hi⟩:=a h.1;exact⟨i,hi,fun k=>absurd k hc⟩
theorem Dj.imp{ι:Type}[Nonempty ι]{p A:Prop}{F:ι->Prop}(a:A-> ∃i,F i)(h:p->A): ∃i,p->F i:=by
 by_cases hp:p
 ·obtain⟨i,hi⟩:=a (h hp);exact⟨i,fun _=>hi⟩
 ·exact⟨Classical.choice ‹_›,fun k=>absurd k hp⟩
theorem Dj.opt{ι:Type}[Nonempty ι]{α:Type}{o:Option α}{A:α->Prop}{F:ι->α->Prop}(a: ∀y,A y-> ∃i,F i y)(h: ∀y,o=some y->A y): ∃i,∀y,o=some y->F i y:=by
 cases o with
 |none=>exact⟨Classical.choice ‹_›,fun y k=>by cases k⟩
 |some z=>obtain⟨i,hi⟩:=a z (h z rfl);exact⟨i,fun y k=>by cases k;exact hi⟩
theorem LpH.dj{ι T:Type}{b:T->(T->Prop)->Prop}{c:ι->T->(T->Prop)->Prop}{t:T}
  (h: ∀t Y (Z:ι->T->Prop),(∀u,Y u-> ∃i,Z i u)->b t Y-> ∃i,c i t (Z i))(k:LpH b t): ∃i,LpH (c i) t:=
 k (fun t=> ∃i,LpH (c i) t) fun t Y hY hb=>by
  obtain⟨i,hi⟩:=h t Y (fun i=>LpH (c i)) hY hb
  exact⟨i,fun X hX=>hX t _ (fun u hu=>hu X hX) hi⟩
theorem Jn0.dj{ι:Type}{k:Prop}{A:Prop->Prop}{k':ι->Prop}{A':ι->Prop->Prop}(h:k-> ∃i,k' i)(a: ∀Y (Z:ι->Prop),(Y-> ∃i,Z i)->A Y-> ∃i,A' i (Z i))(j:Jn0 k A): ∃i,Jn0 (k' i) (A' i):=by
 obtain⟨Y,h1,h2⟩:=j
 obtain⟨i,hi⟩:=a Y k' (fun y=>h (h1 y)) h2
 exact⟨i,k' i,id,hi⟩
theorem Jn1.dj{ι T0:Type}{k:T0->Prop}{A:(T0->Prop)->Prop}{k':ι->T0->Prop}{A':ι->(T0->Prop)->Prop}(h: ∀s0,k s0-> ∃i,k' i s0)(a: ∀Y (Z:ι->T0->Prop),(∀s0,Y s0-> ∃i,Z i s0)->A Y-> ∃i,A' i (Z i))(j:Jn1 k A): ∃i,Jn1 (k' i) (A' i):=by
 obtain⟨Y,h1,h2⟩:=j
 obtain⟨i,hi⟩:=a Y k' (fun s0 y=>h s0 (h1 s0 y)) h2
 exact⟨i,k' i,fun _ y=>y,hi⟩
theorem Lp1.dj{ι T0:Type}{b:T0->(T0->Prop)->Prop}{c:ι->T0->(T0->Prop)->Prop}{s0:T0}
  (h: ∀s0 Y (Z:ι->T0->Prop),(∀s0,Y s0-> ∃i,Z i s0)->b s0 Y-> ∃i,c i s0 (Z i))(k:Lp1 b s0): ∃i,Lp1 (c i) s0:=
 k (fun s0=> ∃i,Lp1 (c i) s0) fun s0 Y hY hb=>by
  obtain⟨i,hi⟩:=h s0 Y (fun i=>Lp1 (c i)) hY hb
  exact⟨i,fun X hX=>hX s0 _ (fun _ hu=>hu X hX) hi⟩
theorem Jn2.dj{ι T0 T1:Type}{k:T0->T1->Prop}{A:(T0->T1->Prop)->Prop}{k':ι->T0->T1->Prop}{A':ι->(T0->T1->Prop)->Prop}(h: ∀s0 s1,k s0 s1-> ∃i,k' i s0 s1)(a: ∀Y (Z:ι->T0->T1->Prop),(∀s0 s1,Y s0 s1-> ∃i,Z i s0 s1)->A Y-> ∃i,A' i (Z i))(j:Jn2 k A): ∃i,Jn2 (k' i) (A' i):=by
 obtain⟨Y,h1,h2⟩:=j
 obtain⟨i,hi⟩:=a Y k' (fun s0 s1 y=>h s0 s1 (h1 s0 s1 y)) h2
 exact⟨i,k' i,fun _ _ y=>y,hi⟩
theorem Lp2.dj{ι T0 T1:Type}{b:T0->T1->(T0->T1->Prop)->Prop}{c:ι->T0->T1->(T0->T1->Prop)->Prop}{s0:T0}{s1:T1}
  (h: ∀s0 s1 Y (Z:ι->T0->T1->Prop),(∀s0 s1,Y s0 s1-> ∃i,Z i s0 s1)->b s0 s1 Y-> ∃i,c i s0 s1 (Z i))(k:Lp2 b s0 s1): ∃i,Lp2 (c i) s0 s1:=
 k (fun s0 s1=> ∃i,Lp2 (c i) s0 s1) fun s0 s1 Y hY hb=>by
  obtain⟨i,hi⟩:=h s0 s1 Y (fun i=>Lp2 (c i)) hY hb
  exact⟨i,fun X hX=>hX s0 s1 _ (fun _ _ hu=>hu X hX) hi⟩
theorem Lp3.dj{ι T0 T1 T2:Type}{b:T0->T1->T2->(T0->T1->T2->Prop)->Prop}{c:ι->T0->T1->T2->(T0->T1->T2->Prop)->Prop}{s0:T0}{s1:T1}{s2:T2}
  (h: ∀s0 s1 s2 Y (Z:ι->T0->T1->T2->Prop),(∀s0 s1 s2,Y s0 s1 s2-> ∃i,Z i s0 s1 s2)->b s0 s1 s2 Y-> ∃i,c i s0 s1 s2 (Z i))(k:Lp3 b s0 s1 s2): ∃i,Lp3 (c i) s0 s1 s2:=
 k (fun s0 s1 s2=> ∃i,Lp3 (c i) s0 s1 s2) fun s0 s1 s2 Y hY hb=>by
  obtain⟨i,hi⟩:=h s0 s1 s2 Y (fun i=>Lp3 (c i)) hY hb
  exact⟨i,fun X hX=>hX s0 s1 s2 _ (fun _ _ _ hu=>hu X hX) hi⟩
theorem Jn4.dj{ι T0 T1 T2 T3:Type}{k:T0->T1->T2->T3->Prop}{A:(T0->T1->T2->T3->Prop)->Prop}{k':ι->T0->T1->T2->T3->Prop}{A':ι->(T0->T1->T2->T3->Prop)->Prop}(h: ∀s0 s1 s2 s3,k s0 s1 s2 s3-> ∃i,k' i s0 s1 s2 s3)(a: ∀Y (Z:ι->T0->T1->T2->T3->Prop),(∀s0 s1 s2 s3,Y s0 s1 s2 s3-> ∃i,Z i s0 s1 s2 s3)->A Y-> ∃i,A' i (Z i))(j:Jn4 k A): ∃i,Jn4 (k' i) (A' i):=by
 obtain⟨Y,h1,h2⟩:=j
 obtain⟨i,hi⟩:=a Y k' (fun s0 s1 s2 s3 y=>h s0 s1 s2 s3 (h1 s0 s1 s2 s3 y)) h2
 exact⟨i,k' i,fun _ _ _ _ y=>y,hi⟩
theorem Lp5.dj{ι T0 T1 T2 T3 T4:Type}{b:T0->T1->T2->T3->T4->(T0->T1->T2->T3->T4->Prop)->Prop}{c:ι->T0->T1->T2->T3->T4->(T0->T1->T2->T3->T4->Prop)->Prop}{s0:T0}{s1:T1}{s2:T2}{s3:T3}{s4:T4}
  (h: ∀s0 s1 s2 s3 s4 Y (Z:ι->T0->T1->T2->T3->T4->Prop),(∀s0 s1 s2 s3 s4,Y s0 s1 s2 s3 s4-> ∃i,Z i s0 s1 s2 s3 s4)->b s0 s1 s2 s3 s4 Y-> ∃i,c i s0 s1 s2 s3 s4 (Z i))(k:Lp5 b s0 s1 s2 s3 s4): ∃i,Lp5 (c i) s0 s1 s2 s3 s4:=
 k (fun s0 s1 s2 s3 s4=> ∃i,Lp5 (c i) s0 s1 s2 s3 s4) fun s0 s1 s2 s3 s4 Y hY hb=>by
  obtain⟨i,hi⟩:=h s0 s1 s2 s3 s4 Y (fun i=>Lp5 (c i)) hY hb
  exact⟨i,fun X hX=>hX s0 s1 s2 s3 s4 _ (fun _ _ _ _ _ hu=>hu X hX) hi⟩
theorem dC{ι:Type}[Nonempty ι]{c A B:Prop}{F G:ι->Prop}(a:A-> ∃i,F i)(b:B-> ∃i,G i):Cnd c A B-> ∃i,Cnd c (F i) (G i):=Dj.cnd a b
theorem dA{ι:Type}{p A:Prop}{F:ι->Prop}(a:A-> ∃i,F i):p/\A-> ∃i,p/\F i:=Dj.and a
theorem dW{ι:Type}{A:Prop}{F:ι->Prop}(a:A-> ∃i,F i):A/\A-> ∃i,F i/\F i:=Dj.two a
theorem dI{ι:Type}[Nonempty ι]{p A:Prop}{F:ι->Prop}(a:A-> ∃i,F i):(p->A)-> ∃i,p->F i:=Dj.imp a
theorem dO{ι:Type}[Nonempty ι]{α:Type}{o:Option α}{A:α->Prop}{F:ι->α->Prop}(a: ∀y,A y-> ∃i,F i y):(∀y,o=some y->A y)-> ∃i,∀y,o=some y->F i y:=Dj.opt a
theorem dT{ι:Type}[Nonempty ι]{α:Type}{p:Prop}{o:Option α}{A:α->Prop}{F:ι->α->Prop}(a: ∀y,A y-> ∃i,F i y):(p/\ ∀y,o=some y->A y)-> ∃i,p/\ ∀y,o=some y->F i y:=dA (dO a)
theorem d1{ι:Type}{c L B:Prop}{F G:ι->Prop}(v:c-> ∀i,F i)(a:L-> ∃i,F i)(b:B-> ∃i,G i):L/\(c->B)-> ∃i,F i/\(c->G i):=Dj.one v a b
abbrev Gj1{T0:Type}(P:(T0->Prop)->Prop):Prop:= ∀{ι:Type} [Nonempty ι] {K:T0->Prop} {K2:ι->T0->Prop},(∀s0,K s0-> ∃i,K2 i s0)->P K-> ∃i,P (K2 i)
abbrev Gj2{T0 T1:Type}(P:(T0->T1->Prop)->Prop):Prop:= ∀{ι:Type} [Nonempty ι] {K:T0->T1->Prop} {K2:ι->T0->T1->Prop},(∀s0 s1,K s0 s1-> ∃i,K2 i s0 s1)->P K-> ∃i,P (K2 i)
abbrev Gj3{T0 T1 T2:Type}(P:(T0->T1->T2->Prop)->Prop):Prop:= ∀{ι:Type} [Nonempty ι] {K:T0->T1->T2->Prop} {K2:ι->T0->T1->T2->Prop},(∀s0 s1 s2,K s0 s1 s2-> ∃i,K2 i s0 s1 s2)->P K-> ∃i,P (K2 i)
abbrev Gj4{T0 T1 T2 T3:Type}(P:(T0->T1->T2->T3->Prop)->Prop):Prop:= ∀{ι:Type} [Nonempty ι] {K:T0->T1->T2->T3->Prop} {K2:ι->T0->T1->T2->T3->Prop},(∀s0 s1 s2 s3,K s0 s1 s2 s3-> ∃i,K2 i s0 s1 s2 s3)->P K-> ∃i,P (K2 i)
abbrev Gj5{T0 T1 T2 T3 T4:Type}(P:(T0->T1->T2->T3->T4->Prop)->Prop):Prop:= ∀{ι:Type} [Nonempty ι] {K:T0->T1->T2->T3->T4->Prop} {K2:ι->T0->T1->T2->T3->T4->Prop},(∀s0 s1 s2 s3 s4,K s0 s1 s2 s3 s4-> ∃i,K2 i s0 s1 s2 s3 s4)->P K-> ∃i,P (K2 i)
end Go.Fx
end
noncomputable section
set_option maxRecDepth 100000
namespace Go.En
open Go Go.Fl Go.Fl.Lk Go.Fx
theorem z9z{s:ByteArray}:Gj1 (Jy s):=by
 unfold Jy
 exact fun hk=>dA (hk _)
theorem q05{s:ByteArray}:Gj1 (Vw s):=by
 unfold Vw z65
 exact fun hk=>dC (hk _) (z9z fun _=>dC (Lp1.dj fun _ _ _ h1=>dC (dA (dO fun _=>dC (hk _) (dA (dO fun _=>dC (hk _) (dA (h1 _)))))) (hk _)) (hk _))
theorem v4v{s:ByteArray}:Gj1 (z1k s):=by
 unfold z1k
 exact fun hk=>Lp1.dj fun _ _ _ h1=>dC (dA (dO fun _=>dC (dC (dA (h1 _)) (dC (hk _) (dC (dC (dA (h1 _)) (dC (dA (h1 _)) (dC (dA (h1 _)) (hk _)))) (dC (dA (h1 _)) (dC (dA (h1 _)) (hk _)))))) (dC (hk _) (dC (dC (dA (h1 _)) (dC (dA (h1 _)) (dC (dA (h1 _)) (hk _)))) (dC (dA (h1 _)) (dC (dA (h1 _)) (hk _))))))) (hk _)
theorem w0x:Gj1 (R0):=by
 unfold R0
 exact fun hk=>hk _
theorem Jj{s:ByteArray}:Gj1 (Ut s):=by
 unfold Ut j6o
 exact fun hk=>v4v fun _=>dC (dC (hk _) (w0x fun _=>Lp1.dj fun _ _ _ h1=>dI (dC (dT (fun _=>dC (hk _) (dA (h1 _)))) (hk _)))) (hk _)
theorem w0y{s:Sett}:Gj1 (V5 s):=by
 unfold V5 q6w
 exact fun hk=>q05 fun _=>dC (dC (hk _) (dC (hk _) (Jj fun _=>dC (hk _) (dC (dC (hk _) (hk _)) (hk _))))) (hk _)
theorem w0z{l:List (Decl)}:Gj1 (V6 l):=by
 unfold V6 q6x
 exact fun hk=>dI (dC (hk _) (Lp1.dj fun _ _ _ h1=>dI (dC (dT (fun _=>Jj fun _=>dC (dT (fun _=>Jj fun _=>dC (dT (fun _=>dC (hk _) (dT (fun _=>dC (hk _) (dT (fun _=>dC (hk _) (dC (dT (fun _=>dA (dA (dO fun _=>dC (hk _) (dT (fun _=>dA (dA (dO fun _=>dC (dT (fun _=>dA (dA (dO fun _=>dC (dA (h1 _)) (hk _))))) (dA (h1 _)))))))))) (dA (h1 _))))))))) (hk _))) (hk _))) (hk _))))
theorem z3z{l:List (ByteArray)}:Gj1 (H4 l):=by
 unfold H4 q9u
 exact fun hk=>dI (dC (hk _) (Lp1.dj fun _ _ _ h1=>dI (dC (dT (fun _=>dC (hk _) (dT (fun _=>q05 fun _=>dC (dC (dT (fun _=>dA (dA (dO fun _=>dC (dA (h1 _)) (hk _))))) (dA (h1 _))) (hk _))))) (hk _))))
theorem v4w{e:Ex}:Gj1 (z1l e):=by
 unfold z1l
 exact fun hk=>dC (dC (dC (dI (dC (dI (hk _)) (hk _))) (hk _)) (hk _)) (hk _)
theorem Gg{op:Int}:Gj1 (Zg op):=by
 unfold Zg
 exact fun hk=>dC (hk _) (hk _)
theorem w71{e:Ex}:Gj1 (q30 e):=by
 unfold q30 z2q
 exact fun hk=>dI (dI (Jn2.dj (fun _ _=>Gg fun _=>dC (dC (dC (dC (hk _) (dC (hk _) (hk _))) (dC (dC (hk _) (dC (hk _) (hk _))) (hk _))) (hk _)) (hk _)) fun _ _ h1=>dC (dI (h1 _ _)) (dC (dI (h1 _ _)) (dC (dI (h1 _ _)) (dC (dI (h1 _ _)) (Gg fun _=>dC (dC (h1 _ _) (dI (h1 _ _))) (h1 _ _)))))))
theorem v0o{v:Val}:Gj1 (q7y v):=by
 unfold q7y
 exact fun hk=>dC (dC (dC (hk _) (dI (hk _))) (dC (dC (hk _) (dI (hk _))) (dC (dC (hk _) (dI (hk _))) (hk _)))) (dC (dC (dC (hk _) (dI (hk _))) (dC (dC (hk _) (dI (hk _))) (hk _))) (dC (dC (dC (hk _) (dI (hk _))) (dC (dC (hk _) (dI (hk _))) (hk _))) (dC (dC (dC (hk _) (dI (hk _))) (dC (dC (hk _) (dI (hk _))) (hk _))) (hk _))))
theorem z10{s:ByteArray}:Gj2 (Vx s):=by
 unfold Vx
 exact fun hk=>Jn1.dj (fun _=>Lp1.dj fun _ _ _ h1=>dC (dA (dO fun _=>dC (hk _ _) (dA (dO fun _=>dC (hk _ _) (dA (h1 _)))))) (dC (hk _ _) (dA (dO fun _=>dC (dC (dC (hk _ _) (Lp2.dj fun _ _ _ _ h2=>dC (dA (dA (dO fun _=>dA (dA (dA (h2 _ _)))))) (dC (hk _ _) (dC (dA (hk _ _)) (hk _ _))))) (hk _ _)) (dC (hk _ _) (Lp2.dj fun _ _ _ _ h3=>dC (dA (dA (dO fun _=>dA (dA (dA (h3 _ _)))))) (dC (hk _ _) (dC (dA (hk _ _)) (hk _ _))))))))) fun _ _ h4=>dC (dA (dO fun _=>dC (dA (h4 _)) (h4 _))) (h4 _)
theorem v0p{s:ByteArray}:Gj2 (q7z s):=by
 unfold q7z z67
 exact fun hk=>LpH.dj fun _ _ _ h1=>dC (Lp1.dj fun _ _ _ h2=>dC (dA (dO fun _=>dC (dA (z10 fun _ _=>dC (dC (hk _ _) (dC (hk _ _) (dC (dA (d1 (by intro hc _;(repeat' (first|exact trivial|refine⟨?_,?_⟩|(intro e;exact absurd (hc.symm.trans e) (by decide))))) (d1 (by intro hc _;(repeat' (first|exact trivial|refine⟨?_,?_⟩|(intro e;exact absurd (hc.symm.trans e) (by decide))))) (dA (dI (dA (dA (h1 _))))) (dA (dA (h1 _)))) (dA (dA (h1 _))))) (hk _ _)))) (hk _ _))) (dA (h2 _)))) (dA (z10 fun _ _=>dC (dC (hk _ _) (dC (hk _ _) (dC (dA (d1 (by intro hc _;(repeat' (first|exact trivial|refine⟨?_,?_⟩|(intro e;exact absurd (hc.symm.trans e) (by decide))))) (d1 (by intro hc _;(repeat' (first|exact trivial|refine⟨?_,?_⟩|(intro e;exact absurd (hc.symm.trans e) (by decide))))) (dA (dI (dA (dA (h1 _))))) (dA (dA (h1 _)))) (dA (dA (h1 _))))) (hk _ _)))) (hk _ _)))) (hk _ _)
theorem v4x{l:List (ByteArray)}:Gj1 (z1n l):=by
 unfold z1n j03
 exact fun hk=>dI (dC (hk _) (Lp1.dj fun _ _ _ h1=>dI (dC (dT (fun _=>q05 fun _=>dC (dA (h1 _)) (hk _))) (Lp1.dj fun _ _ _ h2=>dI (dC (dT (fun _=>dA (dA (dO fun _=>dC (dA (h2 _)) (hk _))))) (hk _))))))
theorem q06{v:Val}:Gj1 (q32 v):=by
 unfold q32 z68
 exact fun hk=>dC (hk _) (dC (hk _) (v0o fun _=>dC (dC (dC (hk _) (dC (hk _) (hk _))) (dC (dC (hk _) (dC (hk _) (hk _))) (dC (q05 fun _=>dC (hk _) (hk _)) (dC (v0p fun _ _=>dC (hk _) (hk _)) (dC (v4x fun _=>hk _) (hk _)))))) (hk _)))
theorem v4y{e:Ex}:Gj1 (H5 e):=by
 unfold H5 j05
 exact fun hk=>dC (hk _) (dC (hk _) (w71 fun _=>dC (dI (dC (hk _) (dI (dC (hk _) (Lp1.dj fun _ _ _ h1=>dI (dC (dT (fun _=>dC (dC (dA (h1 _)) (hk _)) (dA (h1 _)))) (Gg fun _=>dC (Jj fun _=>dC (Gg fun _=>dC (Jj fun _=>dC (Lp1.dj fun _ _ _ h2=>dI (dC (dT (fun _=>q06 fun _=>dC (dA (h2 _)) (hk _))) (dC (dA (dO fun _=>dC (hk _) (hk _))) (dC (dA (dO fun _=>dC (hk _) (hk _))) (dC (dA (dO fun _=>dC (hk _) (hk _))) (hk _)))))) (hk _)) (dC (Jj fun _=>dC (Lp1.dj fun _ _ _ h3=>dI (dC (dT (fun _=>q06 fun _=>dC (dA (h3 _)) (hk _))) (dC (dA (dO fun _=>dC (hk _) (hk _))) (dC (dA (dO fun _=>dC (hk _) (hk _))) (dC (dA (dO fun _=>dC (hk _) (hk _))) (hk _)))))) (hk _)) (Lp1.dj fun _ _ _ h4=>dI (dC (dT (fun _=>q06 fun _=>dC (dA (h4 _)) (hk _))) (dC (dA (dO fun _=>dC (hk _) (hk _))) (dC (dA (dO fun _=>dC (hk _) (hk _))) (dC (dA (dO fun _=>dC (hk _) (hk _))) (hk _)))))))) (hk _)) (Gg fun _=>dC (Jj fun _=>dC (Lp1.dj fun _ _ _ h5=>dI (dC (dT (fun _=>q06 fun _=>dC (dA (h5 _)) (hk _))) (dC (dA (dO fun _=>dC (hk _) (hk _))) (dC (dA (dO fun _=>dC (hk _) (hk _))) (dC (dA (dO fun _=>dC (hk _) (hk _))) (hk _)))))) (hk _)) (dC (Jj fun _=>dC (Lp1.dj fun _ _ _ h6=>dI (dC (dT (fun _=>q06 fun _=>dC (dA (h6 _)) (hk _))) (dC (dA (dO fun _=>dC (hk _) (hk _))) (dC (dA (dO fun _=>dC (hk _) (hk _))) (dC (dA (dO fun _=>dC (hk _) (hk _))) (hk _)))))) (hk _)) (Lp1.dj fun _ _ _ h7=>dI (dC (dT (fun _=>q06 fun _=>dC (dA (h7 _)) (hk _))) (dC (dA (dO fun _=>dC (hk _) (hk _))) (dC (dA (dO fun _=>dC (hk _) (hk _))) (dC (dA (dO fun _=>dC (hk _) (hk _))) (hk _))))))))))))))) (hk _)))
theorem j30{ι:Type}[Nonempty ι]{Xa Xb:q5j}{e:Ex}{depth:Int}{n:Int}{K:Int->Int->Prop}{K2:ι->Int->Int->Prop}(hX: ∀{e:Ex} {depth:Int} {n:Int} {K:Int->Int->Prop} {K2:ι->Int->Int->Prop},(∀r0 r1,K r0 r1-> ∃i,K2 i r0 r1)->Xa e depth n K-> ∃i,Xb e depth n (K2 i))(hk: ∀r0 r1,K r0 r1-> ∃i,K2 i r0 r1):q8m H5 Xa e depth n K-> ∃i,q8m H5 Xb e depth n (K2 i):=by
 unfold q8m
 exact dC (hk _ _) (dA (dC (hk _ _) (v4y fun _=>dC (Lp2.dj fun _ _ _ _ h1=>dI (dC (dT (fun _=>dA (hX fun _ _=>dC (dA (h1 _ _)) (hk _ _)))) (hk _ _))) (hk _ _))))
theorem v4z{e:Ex}{depth:Int}{n:Int}{K:Int->Int->Prop}(p:q8m H5 B2 e depth n K):B2 e depth n K:=by
 intro X hX
 have hm: ∀{e:Ex} {depth:Int} {n:Int} {K:Int->Int->Prop},B2 e depth n K-> ∀{K2:Int->Int->Prop},(∀r0 r1,K r0 r1->K2 r0 r1)->X e depth n K2:=by
  intro e depth n K q K2 hk
  refine q (fun e depth n K=> ∀K2:Int->Int->Prop,(∀r0 r1,K r0 r1->K2 r0 r1)->X e depth n K2) (fun e depth n K s K2 hk=> ?_) K2 hk
  obtain⟨_,t⟩:=j30 (ι:=Unit) (Xb:=X) (fun f q=>⟨(),q _ fun r0 r1 k=>(f r0 r1 k).elim fun _ z=>z⟩) (K2:=fun _=>K2) (fun r0 r1 k=>⟨(),hk r0 r1 k⟩) s
  exact hX e depth n K2 t
 obtain⟨_,t⟩:=j30 (ι:=Unit) (Xb:=X) (fun f q=>⟨(),hm q fun r0 r1 k=>(f r0 r1 k).elim fun _ z=>z⟩) (K2:=fun _=>K) (fun _ _ k=>⟨(),k⟩) p
 exact hX e depth n K t
theorem v40{e:Ex}{depth:Int}{n:Int}:Gj2 (B2 e depth n):=by
 intro ι _ K K2 hk p
 refine p (fun e depth n K=> ∀K2:ι->Int->Int->Prop,(∀r0 r1,K r0 r1-> ∃i,K2 i r0 r1)-> ∃i,B2 e depth n (K2 i)) (fun e depth n K s K2 hk=> ?_) K2 hk
 obtain⟨i,t⟩:=j30 (Xb:=B2) (fun f q=>q _ f) hk s
 exact⟨i,v4z t⟩
theorem j31{e:Ex}:Gj1 (q5k e):=by
 unfold q5k j06
 exact fun hk=>v40 fun _ _=>hk _
theorem w43{g:Seg}:Gj1 (q1c g):=by
 unfold q1c q9v
 exact fun hk=>Jj fun _=>dC (Jj fun _=>dC (z3z fun _=>dC (z3z fun _=>dC (v4w fun _=>dC (hk _) (j31 fun _=>hk _)) (hk _)) (hk _)) (hk _)) (hk _)
theorem w00{l:List (Seg)}:Gj1 (V7 l):=by
 unfold V7 q6y
 exact fun hk=>dI (dC (hk _) (Lp1.dj fun _ _ _ h1=>dI (dC (dT (fun _=>w43 fun _=>dC (dC (dT (fun _=>dA (dA (dO fun _=>dC (dA (h1 _)) (hk _))))) (dA (h1 _))) (hk _))) (hk _))))
theorem v0q{l:Lay_}:Gj1 (q73 l):=by
 unfold q73 z7c
 exact fun hk=>Jj fun _=>dC (Jj fun _=>dC (q05 fun _=>dC (dC (hk _) (dC (hk _) (dC (hk _) (dC (hk _) (dI (dC (hk _) (Lp1.dj fun _ _ _ h1=>dI (dC (dT (fun _=>dC (hk _) (dC (hk _) (dC (hk _) (dC (hk _) (dC (hk _) (dC (dA (dA (dO fun _=>dC (hk _) (dA (h1 _))))) (dA (h1 _))))))))) (hk _))))))))) (hk _)) (hk _)) (hk _)
theorem w72{l:List (Lay_)}:Gj1 (H7 l):=by
 unfold H7 z2r
 exact fun hk=>dI (dC (hk _) (Lp1.dj fun _ _ _ h1=>dI (dC (dT (fun _=>v0q fun _=>dC (dC (dT (fun _=>dA (dA (dO fun _=>dC (dA (h1 _)) (hk _))))) (dA (h1 _))) (hk _))) (hk _))))
theorem j5r{f:Flg}:Gj1 (U1 f):=by
 unfold U1 q17
 exact fun hk=>dI (dC (hk _) (dC (hk _) (Lp1.dj fun _ _ _ h1=>dC (dT (fun _=>q06 fun _=>dC (dT (fun _=>dC (dA (h1 _)) (hk _))) (hk _))) (dC (hk _) (dC (hk _) (hk _))))))
theorem z90{l:List (Prq)}:Gj1 (Wp l):=by
 unfold Wp Ho
 exact fun hk=>dI (dC (hk _) (Lp1.dj fun _ _ _ h1=>dI (dC (dT (fun _=>Jj fun _=>dC (dC (dT (fun _=>dA (dA (dO fun _=>dC (dT (fun _=>dC (hk _) (dT (fun _=>dC (hk _) (dA (h1 _)))))) (hk _))))) (dT (fun _=>dC (hk _) (dT (fun _=>dC (hk _) (dA (h1 _))))))) (hk _))) (hk _))))
theorem w44{l:List (Tgt)}{n:Int}:Gj1 (q1d l n):=by
 unfold q1d q9w
 exact fun hk=>dI (dC (hk _) (Lp1.dj fun _ _ _ h1=>dI (dC (dT (fun _=>Jj fun _=>dC (dT (fun _=>dC (hk _) (dT (fun _=>dC (hk _) (dT (fun _=>dI (dC (hk _) (dT (fun _=>z3z fun _=>dC (dA (h1 _)) (hk _)))))))))) (hk _))) (hk _))))
theorem j9a{l:List (Rng)}{variations:Int}:Gj1 (q33 l variations):=by
 unfold q33
 exact fun hk=>dI (dC (hk _) (Lp2.dj fun _ _ _ _ h1=>dI (dC (dT (fun _=>dC (hk _) (dT (fun _=>dC (hk _) (dT (fun _=>dC (dT (fun _=>dC (hk _) (dC (dT (fun _=>dA (dA (dO fun _=>dC (hk _) (dT (fun _=>dA (h1 _ _))))))) (dT (fun _=>dA (h1 _ _)))))) (hk _))))))) (dC (hk _) (hk _)))))
theorem j9b{v:Srv}{variations:Int}:Gj1 (q35 v variations):=by
 unfold q35 z69
 exact fun hk=>dC (Jj fun _=>dC (Jj fun _=>dC (q05 fun _=>dC (j9a fun _=>hk _) (hk _)) (hk _)) (hk _)) (dC (hk _) (dC (hk _) (dC (dC (dC (dI (dC (hk _) (hk _))) (hk _)) (hk _)) (hk _))))
theorem v0r{l:List (Rul)}{n:Int}:Gj1 (q71 l n):=by
 unfold q71 z7a
 exact fun hk=>dI (dC (hk _) (Lp1.dj fun _ _ _ h1=>dI (dC (dT (fun _=>Jj fun _=>dC (Lp1.dj fun _ _ _ h2=>dC (dT (fun _=>dT (fun _=>dC (hk _) (dA (h2 _))))) (dT (fun _=>j31 fun _=>dC (dT (fun _=>j9b fun _=>dC (dA (h1 _)) (hk _))) (hk _)))) (hk _))) (hk _))))
theorem v41{f:Flg}:Gj1 (q5n f):=by
 unfold q5n j07
 exact fun hk=>dI (Jj fun _=>dC (dC (hk _) (dC (hk _) (j5r fun _=>dC (z90 fun _=>dC (w44 fun _=>dC (v0r fun _=>dC (j9b fun _=>hk _) (hk _)) (hk _)) (hk _)) (hk _)))) (hk _))
theorem v0s{l:List (Spn)}:Gj1 (q74 l):=by
 unfold q74
 exact fun hk=>dI (dC (hk _) (Lp1.dj fun _ _ _ h1=>dI (dC (dT (fun _=>dC (hk _) (dT (fun _=>dT (fun _=>dC (hk _) (dT (fun _=>dC (hk _) (dC (dT (fun _=>dA (dA (dO fun _=>dC (hk _) (dA (h1 _)))))) (dA (h1 _)))))))))) (hk _))))
theorem j5s{x:Exper}:Gj1 (Wm x):=by
 unfold Wm q18
 exact fun hk=>Jj fun _=>dC (Jj fun _=>dC (Jj fun _=>dC (q05 fun _=>dC (dC (hk _) (dC (hk _) (v0s fun _=>dC (j9a fun _=>dC (j31 fun _=>hk _) (hk _)) (hk _)))) (hk _)) (hk _)) (hk _)) (hk _)
theorem j9c{l:List (ByteArray)}{s:ByteArray}:Gj1 (R1 l s):=by
 unfold R1
 exact fun hk=>Lp1.dj fun _ _ _ h1=>dI (dC (dT (fun _=>dC (hk _) (dA (h1 _)))) (hk _))
theorem j32{l:List (Decl)}{kind:ByteArray}{name:ByteArray}:Gj1 (U2 l kind name):=by
 unfold U2
 exact fun hk=>Lp1.dj fun _ _ _ h1=>dI (dC (dT (fun _=>dC (dT (fun _=>dC (dT (fun _=>hk _)) (dA (h1 _)))) (dA (h1 _)))) (dC (hk _) (hk _)))
theorem w2m{t:Int}{e:Ex}:Gj1 (G9 t e):=by
 unfold G9
 exact fun hk=>dC (hk _) (dC (Lp1.dj fun _ _ _ h1=>dI (dC (dT (fun _=>dC (dA (h1 _)) (hk _))) (hk _))) (dI (dC (hk _) (dA (dO fun _=>dC (hk _) (Jn1.dj (fun _=>dC (dC (hk _) (hk _)) (dC (dC (hk _) (dC (hk _) (hk _))) (dC (hk _) (dC (hk _) (dC (hk _) (hk _)))))) fun _ _ h2=>dC (h2 _) (h2 _)))))))
theorem j33{ι:Type}[Nonempty ι]{Xa Xb:Ha}{l:List (Decl)}{segments:List (ByteArray)}{e:Ex}{K:Int->Prop}{K2:ι->Int->Prop}(hX: ∀{l:List (Decl)} {segments:List (ByteArray)} {e:Ex} {K:Int->Prop} {K2:ι->Int->Prop},(∀r0,K r0-> ∃i,K2 i r0)->Xa l segments e K-> ∃i,Xb l segments e (K2 i))(hk: ∀r0,K r0-> ∃i,K2 i r0):q8o R1 Zg U2 G9 Xa l segments e K-> ∃i,q8o R1 Zg U2 G9 Xb l segments e (K2 i):=by
 unfold q8o
 exact dC (j9c fun _=>dC (Jn0.dj (Lp1.dj fun _ _ _ h1=>dI (dC (dT (fun _=>hX fun _=>dC (dA (h1 _)) (hk _))) (hk _))) fun _ _ h2=>Gg fun _=>dC (j32 fun _=>dC (hk _) (w2m fun _=>dC h2 (hk _))) h2) (hk _)) (Jn0.dj (Lp1.dj fun _ _ _ h3=>dI (dC (dT (fun _=>hX fun _=>dC (dA (h3 _)) (hk _))) (hk _))) fun _ _ h4=>Gg fun _=>dC (j32 fun _=>dC (hk _) (w2m fun _=>dC h4 (hk _))) h4)
theorem v42{l:List (Decl)}{segments:List (ByteArray)}{e:Ex}{K:Int->Prop}(p:q8o R1 Zg U2 G9 V9 l segments e K):V9 l segments e K:=by
 intro X hX
 have hm: ∀{l:List (Decl)} {segments:List (ByteArray)} {e:Ex} {K:Int->Prop},V9 l segments e K-> ∀{K2:Int->Prop},(∀r0,K r0->K2 r0)->X l segments e K2:=by
  intro l segments e K q K2 hk
  refine q (fun l segments e K=> ∀K2:Int->Prop,(∀r0,K r0->K2 r0)->X l segments e K2) (fun l segments e K s K2 hk=> ?_) K2 hk
  obtain⟨_,t⟩:=j33 (ι:=Unit) (Xb:=X) (fun f q=>⟨(),q _ fun r0 k=>(f r0 k).elim fun _ z=>z⟩) (K2:=fun _=>K2) (fun r0 k=>⟨(),hk r0 k⟩) s
  exact hX l segments e K2 t
 obtain⟨_,t⟩:=j33 (ι:=Unit) (Xb:=X) (fun f q=>⟨(),hm q fun r0 k=>(f r0 k).elim fun _ z=>z⟩) (K2:=fun _=>K) (fun _ k=>⟨(),k⟩) p
 exact hX l segments e K t
theorem v43{l:List (Decl)}{segments:List (ByteArray)}{e:Ex}:Gj1 (V9 l segments e):=by
 intro ι _ K K2 hk p
 refine p (fun l segments e K=> ∀K2:ι->Int->Prop,(∀r0,K r0-> ∃i,K2 i r0)-> ∃i,V9 l segments e (K2 i)) (fun l segments e K s K2 hk=> ?_) K2 hk
 obtain⟨i,t⟩:=j33 (Xb:=V9) (fun f q=>q _ f) hk s
 exact⟨i,v42 t⟩
theorem v0t{l:List (Decl)}{v:Srv}:Gj1 (q1i l v):=by
 unfold q1i z7e
 exact fun hk=>dC (j32 fun _=>dC (hk _) (dC (hk _) (hk _))) (hk _)
theorem j9d{l:List (ByteArray)}{s:ByteArray}:Gj1 (R2 l s):=by
 unfold R2
 exact fun hk=>Lp1.dj fun _ _ _ h1=>dI (dC (dT (fun _=>dC (dA (h1 _)) (dI (dC (dT (fun _=>dC (hk _) (dA (dA (dA (dA (dA (hk _)))))))) (dA (dA (dA (dA (dA (hk _)))))))))) (dI (dC (dT (fun _=>dC (hk _) (dA (dA (dA (dA (dA (hk _)))))))) (dA (dA (dA (dA (dA (hk _)))))))))
theorem z30{ι:Type}[Nonempty ι]{Xa Xb:Gf}{l:List (ByteArray)}{e:Ex}{K:List (ByteArray)->Prop}{K2:ι->List (ByteArray)->Prop}(hX: ∀{l:List (ByteArray)} {e:Ex} {K:List (ByteArray)->Prop} {K2:ι->List (ByteArray)->Prop},(∀r0,K r0-> ∃i,K2 i r0)->Xa l e K-> ∃i,Xb l e (K2 i))(hk: ∀r0,K r0-> ∃i,K2 i r0):H9 R2 Xa l e K-> ∃i,H9 R2 Xb l e (K2 i):=by
 unfold H9
 exact Jn1.dj (fun _=>Lp2.dj fun _ _ _ _ h1=>dI (dC (dT (fun _=>hX fun _=>dA (h1 _ _))) (hk _))) fun _ _ h2=>dC (j9d fun _=>h2 _) (h2 _)
theorem w45{l:List (ByteArray)}{e:Ex}{K:List (ByteArray)->Prop}(p:H9 R2 Vb l e K):Vb l e K:=by
 intro X hX
 have hm: ∀{l:List (ByteArray)} {e:Ex} {K:List (ByteArray)->Prop},Vb l e K-> ∀{K2:List (ByteArray)->Prop},(∀r0,K r0->K2 r0)->X l e K2:=by
  intro l e K q K2 hk
  refine q (fun l e K=> ∀K2:List (ByteArray)->Prop,(∀r0,K r0->K2 r0)->X l e K2) (fun l e K s K2 hk=> ?_) K2 hk
  obtain⟨_,t⟩:=z30 (ι:=Unit) (Xb:=X) (fun f q=>⟨(),q _ fun r0 k=>(f r0 k).elim fun _ z=>z⟩) (K2:=fun _=>K2) (fun r0 k=>⟨(),hk r0 k⟩) s
  exact hX l e K2 t
 obtain⟨_,t⟩:=z30 (ι:=Unit) (Xb:=X) (fun f q=>⟨(),hm q fun r0 k=>(f r0 k).elim fun _ z=>z⟩) (K2:=fun _=>K) (fun _ k=>⟨(),k⟩) p
 exact hX l e K t
theorem w46{l:List (ByteArray)}{e:Ex}:Gj1 (Vb l e):=by
 intro ι _ K K2 hk p
 refine p (fun l e K=> ∀K2:ι->List (ByteArray)->Prop,(∀r0,K r0-> ∃i,K2 i r0)-> ∃i,Vb l e (K2 i)) (fun l e K s K2 hk=> ?_) K2 hk
 obtain⟨i,t⟩:=z30 (Xb:=Vb) (fun f q=>q _ f) hk s
 exact⟨i,w45 t⟩
theorem w47{e:Ex}:Gj1 (q1f e):=by
 unfold q1f q9x
 exact fun hk=>w46 fun _=>hk _
theorem z58{l:List (Seg)}:Gj1 (Vl l):=by
 unfold Vl z2u
 exact fun hk=>Lp2.dj fun _ _ _ _ h1=>dI (dC (dT (fun _=>w47 fun _=>Lp2.dj fun _ _ _ _ h2=>dI (dC (dT (fun _=>dT (fun _=>dA (dA (h2 _ _))))) (dA (h1 _ _))))) (hk _))
theorem v0u{edges:List (Edg)}{node:ByteArray}:Gj1 (q1g edges node):=by
 unfold q1g z1t
 exact fun hk=>Lp2.dj fun _ _ _ _ h1=>dI (dC (dA (dO fun _=>dA (Lp3.dj fun _ _ _ _ _ h2=>dI (dC (dT (fun _=>dC (dT (fun _=>j9c fun _=>dC (dA (h2 _ _ _)) (dT (fun _=>j9d fun _=>dT (fun _=>dW (dA (dA (dA (h2 _ _ _))))))))) (dA (h2 _ _ _)))) (h1 _ _))))) (hk _))
theorem w73{nodes:List (ByteArray)}{edges:List (Edg)}:Gj1 (q0u nodes edges):=by
 unfold q0u q8r
 exact fun hk=>Lp2.dj fun _ _ _ _ h1=>dI (dC (dT (fun _=>dT (fun _=>v0u fun _=>j9c fun _=>dC (dT (fun _=>j9d fun _=>dA (h1 _ _))) (dA (h1 _ _))))) (hk _))
theorem z59{nodes:List (ByteArray)}{edges:List (Edg)}:Gj2 (Z1 nodes edges):=by
 unfold Z1 q8t
 exact fun hk=>w73 fun _=>dI (dC (hk _ _) (dA (dO fun _=>hk _ _)))
theorem v44:Gj3 (j0y):=by
 unfold j0y
 exact fun hk=>hk _ _ _
theorem v45{a:List (ByteArray)}{b:List (ByteArray)}:Gj1 (z1i a b):=by
 unfold z1i
 exact fun hk=>dI (dI (dC (Lp1.dj fun _ _ _ h1=>dI (dC (dT (fun _=>dT (fun _=>dC (dA (h1 _)) (hk _)))) (hk _))) (hk _)))
theorem v0v{a:Val}{b:Val}:Gj1 (q3x a b):=by
 unfold q3x z61
 exact fun hk=>dC (dC (dC (v45 fun _=>hk _) (hk _)) (hk _)) (hk _)
theorem j5t{a:List (Val)}{b:List (Val)}:Gj1 (Z0 a b):=by
 unfold Z0 q1u
 exact fun hk=>dI (dI (dC (Lp1.dj fun _ _ _ h1=>dI (dC (dT (fun _=>dT (fun _=>v0v fun _=>dC (dA (h1 _)) (hk _)))) (hk _))) (hk _)))
theorem z05{ι:Type}[Nonempty ι]{Xa Xb:V2}{a:Ex}{b:Ex}{K:Bool->Prop}{K2:ι->Bool->Prop}(hX: ∀{a:Ex} {b:Ex} {K:Bool->Prop} {K2:ι->Bool->Prop},(∀r0,K r0-> ∃i,K2 i r0)->Xa a b K-> ∃i,Xb a b (K2 i))(hk: ∀r0,K r0-> ∃i,K2 i r0):Gk Z0 Xa a b K-> ∃i,Gk Z0 Xb a b (K2 i):=by
 unfold Gk
 exact dC (dC (dC (j5t fun _=>dC (dI (dI (dC (Lp1.dj fun _ _ _ h1=>dI (dC (dT (fun _=>dT (fun _=>hX fun _=>dC (dA (h1 _)) (hk _)))) (hk _))) (hk _)))) (hk _)) (hk _)) (hk _)) (hk _)
theorem w01{a:Ex}{b:Ex}{K:Bool->Prop}(p:Gk Z0 Jx a b K):Jx a b K:=by
 intro X hX
 have hm: ∀{a:Ex} {b:Ex} {K:Bool->Prop},Jx a b K-> ∀{K2:Bool->Prop},(∀r0,K r0->K2 r0)->X a b K2:=by
  intro a b K q K2 hk
  refine q (fun a b K=> ∀K2:Bool->Prop,(∀r0,K r0->K2 r0)->X a b K2) (fun a b K s K2 hk=> ?_) K2 hk
  obtain⟨_,t⟩:=z05 (ι:=Unit) (Xb:=X) (fun f q=>⟨(),q _ fun r0 k=>(f r0 k).elim fun _ z=>z⟩) (K2:=fun _=>K2) (fun r0 k=>⟨(),hk r0 k⟩) s
  exact hX a b K2 t
 obtain⟨_,t⟩:=z05 (ι:=Unit) (Xb:=X) (fun f q=>⟨(),hm q fun r0 k=>(f r0 k).elim fun _ z=>z⟩) (K2:=fun _=>K) (fun _ k=>⟨(),k⟩) p
 exact hX a b K t
theorem w02{a:Ex}{b:Ex}:Gj1 (Jx a b):=by
 intro ι _ K K2 hk p
 refine p (fun a b K=> ∀K2:ι->Bool->Prop,(∀r0,K r0-> ∃i,K2 i r0)-> ∃i,Jx a b (K2 i)) (fun a b K s K2 hk=> ?_) K2 hk
 obtain⟨i,t⟩:=z05 (Xb:=Jx) (fun f q=>q _ f) hk s
 exact⟨i,w01 t⟩
theorem z6a{l:List (Ex)}{e:Ex}:Gj1 (Zt l e):=by
 unfold Zt z2k
 exact fun hk=>Lp1.dj fun _ _ _ h1=>dI (dC (dT (fun _=>w02 fun _=>dC (hk _) (dA (h1 _)))) (hk _))
theorem q9h{ι:Type}[Nonempty ι]{Xa Xb:Va}{l:List (Ex)}{e:Ex}{K:List (Ex)->Prop}{K2:ι->List (Ex)->Prop}(hX: ∀{l:List (Ex)} {e:Ex} {K:List (Ex)->Prop} {K2:ι->List (Ex)->Prop},(∀r0,K r0-> ∃i,K2 i r0)->Xa l e K-> ∃i,Xb l e (K2 i))(hk: ∀r0,K r0-> ∃i,K2 i r0):Uo Zt Zg Xa l e K-> ∃i,Uo Zt Zg Xb l e (K2 i):=by
 unfold Uo
 exact Jn1.dj (fun _=>Lp2.dj fun _ _ _ _ h1=>dI (dC (dT (fun _=>hX fun _=>dA (h1 _ _))) (hk _))) fun _ _ h2=>dC (z6a fun _=>dC (dW (dA (dA (h2 _)))) (h2 _)) (Gg fun _=>dC (z6a fun _=>dC (dW (dA (dA (h2 _)))) (h2 _)) (h2 _))
theorem j9e{l:List (Ex)}{e:Ex}{K:List (Ex)->Prop}(p:Uo Zt Zg Jw l e K):Jw l e K:=by
 intro X hX
 have hm: ∀{l:List (Ex)} {e:Ex} {K:List (Ex)->Prop},Jw l e K-> ∀{K2:List (Ex)->Prop},(∀r0,K r0->K2 r0)->X l e K2:=by
  intro l e K q K2 hk
  refine q (fun l e K=> ∀K2:List (Ex)->Prop,(∀r0,K r0->K2 r0)->X l e K2) (fun l e K s K2 hk=> ?_) K2 hk
  obtain⟨_,t⟩:=q9h (ι:=Unit) (Xb:=X) (fun f q=>⟨(),q _ fun r0 k=>(f r0 k).elim fun _ z=>z⟩) (K2:=fun _=>K2) (fun r0 k=>⟨(),hk r0 k⟩) s
  exact hX l e K2 t
 obtain⟨_,t⟩:=q9h (ι:=Unit) (Xb:=X) (fun f q=>⟨(),hm q fun r0 k=>(f r0 k).elim fun _ z=>z⟩) (K2:=fun _=>K) (fun _ k=>⟨(),k⟩) p
 exact hX l e K t
theorem j9f{l:List (Ex)}{e:Ex}:Gj1 (Jw l e):=by
 intro ι _ K K2 hk p
 refine p (fun l e K=> ∀K2:ι->List (Ex)->Prop,(∀r0,K r0-> ∃i,K2 i r0)-> ∃i,Jw l e (K2 i)) (fun l e K s K2 hk=> ?_) K2 hk
 obtain⟨i,t⟩:=q9h (Xb:=Jw) (fun f q=>q _ f) hk s
 exact⟨i,j9e t⟩
theorem j5u{l:List (Rul)}:Gj1 (Uz l):=by
 unfold Uz q1v
 exact fun hk=>Lp2.dj fun _ _ _ _ h1=>dI (dC (dT (fun _=>j9f fun _=>dA (h1 _ _))) (hk _))
theorem Hl{ns:List (Nd)}{ids:(Nd->Option (Int))}{full:Bool}{id:Int}:Gj4 (W0 ns ids full id):=by
 unfold W0
 exact fun hk=>dC (dI (hk _ _ _ _)) (hk _ _ _ _)
theorem j34{ns:List (Nd)}{ids:(Nd->Option (Int))}{full:Bool}{id:Int}:Gj4 (Vv ns ids full id):=by
 unfold Vv
 exact fun hk=>Lp2.dj fun _ _ _ _ h1=>dI (dC (dI (dA (dA (dO fun _=>dI (dA (dA (dC (h1 _ _) (dC (dT (fun _=>dT (fun _=>dA (h1 _ _)))) (h1 _ _))))))))) (hk _ _ _ _))
theorem j1x{ns:List (Nd)}{ids:(Nd->Option (Int))}{full:Bool}{id:Int}:Gj4 (Ve ns ids full id):=by
 unfold Ve q3y
 exact fun hk=>Hl fun _ _ _ _=>dC (j34 fun _ _ _ _=>Lp2.dj fun _ _ _ _ h1=>dC (dA (dC (dA (dA (h1 _ _))) (dA (h1 _ _)))) (hk _ _ _ _)) (hk _ _ _ _)
theorem Rn{ns:List (Nd)}{ids:(Nd->Option (Int))}{full:Bool}{id:Int}:Gj4 (Zr ns ids full id):=by
 unfold Zr Bq
 exact fun hk=>Hl fun _ _ _ _=>dC (j1x fun _ _ _ _=>Lp1.dj fun _ _ _ h1=>dI (dC (dT (fun _=>dC (hk _ _ _ _) (dA (h1 _)))) (hk _ _ _ _))) (hk _ _ _ _)
theorem Ga{ns:List (Nd)}{ids:(Nd->Option (Int))}{full:Bool}{id:Int}:Gj4 (Zj ns ids full id):=by
 unfold Zj
 exact fun hk=>dC (hk _ _ _ _) (dT (fun _=>hk _ _ _ _))
theorem q4o{ns:List (Nd)}{ids:(Nd->Option (Int))}{full:Bool}{id:Int}{test:Int}:Gj5 (Zd ns ids full id test):=by
 unfold Zd q54
 exact fun hk=>Ga fun _ _ _ _=>dC (dT (fun _=>dT (fun _=>hk _ _ _ _ _))) (hk _ _ _ _ _)
theorem z4n{ns:List (Nd)}{ids:(Nd->Option (Int))}{full:Bool}{test:Int}{yes:Int}{no:Int}:Gj4 (Qv ns ids full test yes no):=by
 unfold Qv q8f
 exact fun hk=>dC (hk _ _ _ _) (dC (hk _ _ _ _) (Hl fun _ _ _ _=>dC (Hl fun _ _ _ _=>dC (Ga fun _ _ _ _=>dC (hk _ _ _ _) (Ga fun _ _ _ _=>dC (hk _ _ _ _) (dC (hk _ _ _ _) (dC (hk _ _ _ _) (dI (dC (hk _ _ _ _) (dI (dA (dI (dA (hk _ _ _ _))))))))))) (hk _ _ _ _)) (hk _ _ _ _)))
theorem q3b{ι:Type}[Nonempty ι]{Xa Xb:Jq}{ns:List (Nd)}{ids:(Nd->Option (Int))}{full:Bool}{f:Int}{g:Int}{h:Int}{known:(A3->Option (Int))}{K:Int->List (Nd)->(Nd->Option (Int))->Bool->(A3->Option (Int))->Prop}{K2:ι->Int->List (Nd)->(Nd->Option (Int))->Bool->(A3->Option (Int))->Prop}(hX: ∀{ns:List (Nd)} {ids:(Nd->Option (Int))} {full:Bool} {f:Int} {g:Int} {h:Int} {known:(A3->Option (Int))} {K:Int->List (Nd)->(Nd->Option (Int))->Bool->(A3->Option (Int))->Prop} {K2:ι->Int->List (Nd)->(Nd->Option (Int))->Bool->(A3->Option (Int))->Prop},(∀r0 r1 r2 r3 r4,K r0 r1 r2 r3 r4-> ∃i,K2 i r0 r1 r2 r3 r4)->Xa ns ids full f g h known K-> ∃i,Xb ns ids full f g h known (K2 i))(hk: ∀r0 r1 r2 r3 r4,K r0 r1 r2 r3 r4-> ∃i,K2 i r0 r1 r2 r3 r4):Z4 Zj Zd Qv Xa ns ids full f g h known K-> ∃i,Z4 Zj Zd Qv Xb ns ids full f g h known (K2 i):=by
 unfold Z4
 exact dC (hk _ _ _ _ _) (dC (hk _ _ _ _ _) (dC (hk _ _ _ _ _) (dC (hk _ _ _ _ _) (Ga fun _ _ _ _=>Ga fun _ _ _ _=>Ga fun _ _ _ _=>q4o fun _ _ _ _ _=>q4o fun _ _ _ _ _=>q4o fun _ _ _ _ _=>hX fun _ _ _ _ _=>hX fun _ _ _ _ _=>Jn4.dj (fun _ _ _ _=>hk _ _ _ _ _) fun _ _ h1=>dC (h1 _ _ _ _) (dC (h1 _ _ _ _) (z4n fun _ _ _ _=>h1 _ _ _ _))))))
theorem j1y{ns:List (Nd)}{ids:(Nd->Option (Int))}{full:Bool}{f:Int}{g:Int}{h:Int}{known:(A3->Option (Int))}{K:Int->List (Nd)->(Nd->Option (Int))->Bool->(A3->Option (Int))->Prop}(p:Z4 Zj Zd Qv Zo ns ids full f g h known K):Zo ns ids full f g h known K:=by
 intro X hX
 have hm: ∀{ns:List (Nd)} {ids:(Nd->Option (Int))} {full:Bool} {f:Int} {g:Int} {h:Int} {known:(A3->Option (Int))} {K:Int->List (Nd)->(Nd->Option (Int))->Bool->(A3->Option (Int))->Prop},Zo ns ids full f g h known K-> ∀{K2:Int->List (Nd)->(Nd->Option (Int))->Bool->(A3->Option (Int))->Prop},(∀r0 r1 r2 r3 r4,K r0 r1 r2 r3 r4->K2 r0 r1 r2 r3 r4)->X ns ids full f g h known K2:=by
  intro ns ids full f g h known K q K2 hk
  refine q (fun ns ids full f g h known K=> ∀K2:Int->List (Nd)->(Nd->Option (Int))->Bool->(A3->Option (Int))->Prop,(∀r0 r1 r2 r3 r4,K r0 r1 r2 r3 r4->K2 r0 r1 r2 r3 r4)->X ns ids full f g h known K2) (fun ns ids full f g h known K s K2 hk=> ?_) K2 hk
  obtain⟨_,t⟩:=q3b (ι:=Unit) (Xb:=X) (fun f q=>⟨(),q _ fun r0 r1 r2 r3 r4 k=>(f r0 r1 r2 r3 r4 k).elim fun _ z=>z⟩) (K2:=fun _=>K2) (fun r0 r1 r2 r3 r4 k=>⟨(),hk r0 r1 r2 r3 r4 k⟩) s
  exact hX ns ids full f g h known K2 t
 obtain⟨_,t⟩:=q3b (ι:=Unit) (Xb:=X) (fun f q=>⟨(),hm q fun r0 r1 r2 r3 r4 k=>(f r0 r1 r2 r3 r4 k).elim fun _ z=>z⟩) (K2:=fun _=>K) (fun _ _ _ _ _ k=>⟨(),k⟩) p
 exact hX ns ids full f g h known K t
theorem j1z{ns:List (Nd)}{ids:(Nd->Option (Int))}{full:Bool}{f:Int}{g:Int}{h:Int}{known:(A3->Option (Int))}:Gj5 (Zo ns ids full f g h known):=by
 intro ι _ K K2 hk p
 refine p (fun ns ids full f g h known K=> ∀K2:ι->Int->List (Nd)->(Nd->Option (Int))->Bool->(A3->Option (Int))->Prop,(∀r0 r1 r2 r3 r4,K r0 r1 r2 r3 r4-> ∃i,K2 i r0 r1 r2 r3 r4)-> ∃i,Zo ns ids full f g h known (K2 i)) (fun ns ids full f g h known K s K2 hk=> ?_) K2 hk
 obtain⟨i,t⟩:=q3b (Xb:=Zo) (fun f q=>q _ f) hk s
 exact⟨i,j1y t⟩
theorem q3c{ns:List (Nd)}{ids:(Nd->Option (Int))}{full:Bool}{f:Int}{g:Int}{h:Int}:Gj4 (Jr ns ids full f g h):=by
 unfold Jr q3z
 exact fun hk=>Rn fun _ _ _ _=>dC (Hl fun _ _ _ _=>dC (Hl fun _ _ _ _=>dC (j1z fun _ _ _ _ _=>hk _ _ _ _) (hk _ _ _ _)) (hk _ _ _ _)) (hk _ _ _ _)
theorem j9g{ns:List (Nd)}{ids:(Nd->Option (Int))}{full:Bool}{f:Int}:Gj4 (Jg ns ids full f):=by
 unfold Jg z0p
 exact fun hk=>q3c fun _ _ _ _=>hk _ _ _ _
theorem j9h{ns:List (Nd)}{ids:(Nd->Option (Int))}{full:Bool}{f:Int}{g:Int}:Gj4 (Jh ns ids full f g):=by
 unfold Jh z0q
 exact fun hk=>Rn fun _ _ _ _=>dC (q3c fun _ _ _ _=>hk _ _ _ _) (hk _ _ _ _)
theorem z8n{ns:List (Nd)}{ids:(Nd->Option (Int))}{full:Bool}{f:Int}{g:Int}:Gj4 (Jn ns ids full f g):=by
 unfold Jn z2l
 exact fun hk=>Rn fun _ _ _ _=>dC (q3c fun _ _ _ _=>hk _ _ _ _) (hk _ _ _ _)
theorem q6i{ι:Type}[Nonempty ι]{Xa Xb:Wl}{ns:List (Nd)}{ids:(Nd->Option (Int))}{full:Bool}{atoms:List (Ex)}{e:Ex}{K:Int->List (Nd)->(Nd->Option (Int))->Bool->Prop}{K2:ι->Int->List (Nd)->(Nd->Option (Int))->Bool->Prop}(hX: ∀{ns:List (Nd)} {ids:(Nd->Option (Int))} {full:Bool} {atoms:List (Ex)} {e:Ex} {K:Int->List (Nd)->(Nd->Option (Int))->Bool->Prop} {K2:ι->Int->List (Nd)->(Nd->Option (Int))->Bool->Prop},(∀r0 r1 r2 r3,K r0 r1 r2 r3-> ∃i,K2 i r0 r1 r2 r3)->Xa ns ids full atoms e K-> ∃i,Xb ns ids full atoms e (K2 i))(hk: ∀r0 r1 r2 r3,K r0 r1 r2 r3-> ∃i,K2 i r0 r1 r2 r3):Vk Jg Jh Jn Zt Qv Xa ns ids full atoms e K-> ∃i,Vk Jg Jh Jn Zt Qv Xb ns ids full atoms e (K2 i):=by
 unfold Vk
 exact dC (hk _ _ _ _) (dC (dA (dO fun _=>hX fun _ _ _ _=>j9g fun _ _ _ _=>hk _ _ _ _)) (Jn1.dj (fun _=>dC (dA (dO fun _=>hX fun _ _ _ _=>Lp5.dj fun _ _ _ _ _ _ _ h1=>dI (dC (dT (fun _=>hX fun _ _ _ _=>dC (j9h fun _ _ _ _=>dA (h1 _ _ _ _ _)) (z8n fun _ _ _ _=>dA (h1 _ _ _ _ _)))) (hk _ _ _ _)))) (z6a fun _=>dC (hk _ _ _ _) (z4n fun _ _ _ _=>hk _ _ _ _))) fun _ _ h2=>dC (h2 _) (h2 _)))
theorem j5v{ns:List (Nd)}{ids:(Nd->Option (Int))}{full:Bool}{atoms:List (Ex)}{e:Ex}{K:Int->List (Nd)->(Nd->Option (Int))->Bool->Prop}(p:Vk Jg Jh Jn Zt Qv Ji ns ids full atoms e K):Ji ns ids full atoms e K:=by
 intro X hX
 have hm: ∀{ns:List (Nd)} {ids:(Nd->Option (Int))} {full:Bool} {atoms:List (Ex)} {e:Ex} {K:Int->List (Nd)->(Nd->Option (Int))->Bool->Prop},Ji ns ids full atoms e K-> ∀{K2:Int->List (Nd)->(Nd->Option (Int))->Bool->Prop},(∀r0 r1 r2 r3,K r0 r1 r2 r3->K2 r0 r1 r2 r3)->X ns ids full atoms e K2:=by
  intro ns ids full atoms e K q K2 hk
  refine q (fun ns ids full atoms e K=> ∀K2:Int->List (Nd)->(Nd->Option (Int))->Bool->Prop,(∀r0 r1 r2 r3,K r0 r1 r2 r3->K2 r0 r1 r2 r3)->X ns ids full atoms e K2) (fun ns ids full atoms e K s K2 hk=> ?_) K2 hk
  obtain⟨_,t⟩:=q6i (ι:=Unit) (Xb:=X) (fun f q=>⟨(),q _ fun r0 r1 r2 r3 k=>(f r0 r1 r2 r3 k).elim fun _ z=>z⟩) (K2:=fun _=>K2) (fun r0 r1 r2 r3 k=>⟨(),hk r0 r1 r2 r3 k⟩) s
  exact hX ns ids full atoms e K2 t
 obtain⟨_,t⟩:=q6i (ι:=Unit) (Xb:=X) (fun f q=>⟨(),hm q fun r0 r1 r2 r3 k=>(f r0 r1 r2 r3 k).elim fun _ z=>z⟩) (K2:=fun _=>K) (fun _ _ _ _ k=>⟨(),k⟩) p
 exact hX ns ids full atoms e K t
theorem j5w{ns:List (Nd)}{ids:(Nd->Option (Int))}{full:Bool}{atoms:List (Ex)}{e:Ex}:Gj4 (Ji ns ids full atoms e):=by
 intro ι _ K K2 hk p
 refine p (fun ns ids full atoms e K=> ∀K2:ι->Int->List (Nd)->(Nd->Option (Int))->Bool->Prop,(∀r0 r1 r2 r3,K r0 r1 r2 r3-> ∃i,K2 i r0 r1 r2 r3)-> ∃i,Ji ns ids full atoms e (K2 i)) (fun ns ids full atoms e K s K2 hk=> ?_) K2 hk
 obtain⟨i,t⟩:=q6i (Xb:=Ji) (fun f q=>q _ f) hk s
 exact⟨i,j5v t⟩
theorem j10{l:List (Rul)}:Gj3 (Zp l):=by
 unfold Zp Rz
 exact fun hk=>v44 fun _ _ _=>j5u fun _=>LpH.dj fun _ _ _ h1=>dI (dC (dT (fun _=>j5w fun _ _ _ _=>z8n fun _ _ _ _=>dC (dI (hk _ _ _)) (dC (dA (dA (dA (h1 _)))) (dA (h1 _))))) (dI (hk _ _ _)))
end Go.En
end
noncomputable section
set_option maxRecDepth 100000
namespace Go.En
open Go Go.Fl Go.Fl.Lk Go.Fx
theorem Cnd.mk{c A B:Prop}(h:c->A)(k: ¬c->B):Cnd c A B:=⟨h,k⟩
structure DS(list:List Int)(at_:Int):Prop where
 len:list.length<=1000
 lo:0<=at_
 hi:at_<=list.length
 byte: ∀x∈list,0<=x/\x<256
theorem getm{α:Type}{l:List α}{k:Nat}{x:α}(h:l[k]? =some x):x∈l:=List.mem_of_getElem? h
theorem z91(n:Int):(Go.Utf8.encode n).size<=4:=by
 unfold Go.Utf8.encode
 generalize (if Go.Utf8.valid n then n.toNat else Go.Utf8.runeError)=c
 show (if c<0x80 then _ else if c<0x800 then _ else if c<0x10000 then _ else _:ByteArray).size<=4
 have h1: ∀a:UInt8,(ByteArray.mk #[a]).size<=4:=fun _=>(by decide:1<=4)
 have h2: ∀a b:UInt8,(ByteArray.mk #[a,b]).size<=4:=fun _ _=>(by decide:2<=4)
 have h3: ∀a b c:UInt8,(ByteArray.mk #[a,b,c]).size<=4:=fun _ _ _=>(by decide:3<=4)
 have h4: ∀a b c d:UInt8,(ByteArray.mk #[a,b,c,d]).size<=4:=fun _ _ _ _=>(by decide:4<=4)
 split
 ·exact h1 _
 ·split
  ·exact h2 _ _
  ·split
   ·exact h3 _ _ _
   ·exact h4 _ _ _ _
theorem Qe{list:List Int}{at_ n:Int}{K:Int->Int->Prop}(hD:DS list at_)(hn:1<=n)(h: ∀r a,0<=r->r<n->DS list a->K r a):Wf list at_ n K:=by
 obtain⟨h1,h2,h3,h4⟩:=hD
 unfold Wf w3o w3n
 refine fun _=>Cnd.mk (fun hl=> ?_) (fun _=>h _ _ (by omega) (by omega) ⟨h1,h2,h3,h4⟩)
 have hl:=of_decide_eq_true hl
 refine⟨by unfold InI;omega,by unfold InI;omega,by omega,fun y hy=>⟨by unfold InI;have:=h4 _ (getm hy);omega,by omega,?_⟩⟩
 obtain⟨a,b⟩:=h4 _ (getm hy)
 exact h _ _ (Int.tmod_nonneg _ a) (by have:=Int.tmod_lt_of_pos y (b:=n) (by omega);omega) ⟨h1,by omega,by omega,h4⟩
theorem q5u{list:List Int}{at_ n:Int}{K:Int->Int->Prop}(hD:DS list at_)(hn:1<=n)(h: ∀r a,0<=r->r<n->DS list a->K r a):z6y list at_ n K:=by
 unfold z6y w3q
 refine Qe hD (by decide) fun r a r0 r1 hD=>⟨by unfold InI;omega,Qe hD (by decide) fun s b s0 s1 hD=>⟨by unfold InI;omega,by omega,?_⟩⟩
 exact h _ _ (Int.tmod_nonneg _ (by omega)) (by have:=Int.tmod_lt_of_pos (256*r+s) (b:=n) (by omega);omega) hD
theorem j11{n:Int}{l:List ByteArray}{K:List ByteArray->Prop}(h0:0<=n)(h1:n<=l.length)(h:K (l.take n.toNat)):j6l n l K:=⟨⟨h0,h1⟩,h⟩
theorem z11{list:List Int}{at_:Int}{K:ByteArray->Int->Prop}(hD:DS list at_)(h: ∀r a,r∈j0s->DS list a->K r a):z2i list at_ K:=by
 unfold z2i w3p
 exact Qe hD (by decide) fun r a r0 r1 hD=>⟨⟨r0,r1⟩,fun y hy=>h _ _ (getm hy) hD⟩
theorem sz_k(n:Int):(B8 [107]++Go.Utf8.encode n).size<=5:=by
 rw[ByteArray.size_append];have:=z91 n;show 1+_<=5;omega
theorem v2v{list:List Int}{at_:Int}{K:ByteArray->Int->Prop}(hD:DS list at_)(h: ∀r a,r.size<=5->DS list a->K r a):j7x list at_ K:=by
 unfold j7x w9t
 refine Qe hD (by decide) fun r a r0 r1 hD=>⟨by unfold InI;omega,?_,h _ _ (sz_k _) hD⟩
 have:=z91 (Go.IntKind.i32.wrap (48+r));have e:(B8 [107]).size=1:=rfl;omega
theorem j9i{list:List Int}{at_:Int}{K:List ByteArray->Int->Prop}(hD:DS list at_)(h: ∀r a,r.length<=3->(∀s∈r,s.size<=5)->DS list a->K r a):j0t list at_ K:=by
 unfold j0t w3r
 refine Qe hD (by decide) fun n a n0 n1 hD=> ?_
 refine Lp3.ind (fun l i a=>DS list a/\0<=i/\i<=3/\(l.length:Int)=i/\ ∀s∈l,s.size<=5) (fun _ i _=>(3 - i).toNat) ?_ ⟨hD,by decide,by decide,rfl,by simp⟩
 rintro l i a ⟨hD,i0,i3,hl,hs⟩
 refine Qe hD (by decide) fun r a r0 r1 hD=>Cnd.mk (fun hc=> ?_) (fun hc=> ?_)
 ·have:=z91 (Go.IntKind.i32.wrap ((48:Int)+(n+i).tmod 10));have e:(B8 [107]).size=1:=rfl
  have m0:=Int.tmod_nonneg 10 (show 0<=n+i by omega);have m1:=Int.tmod_lt_of_pos (n+i) (b:=10) (by decide)
  refine⟨by unfold InI;omega,by decide,by unfold InI;omega,by omega,by unfold Sml;simp;omega,by unfold InI;omega,⟨hD,by omega,by omega,by simp;omega,fun s hm=> ?_⟩,by omega⟩
  rcases List.mem_append.1 hm with hm|hm
  ·exact hs s hm
  ·rw[List.mem_singleton.1 hm];exact sz_k _
 ·refine Lp2.ind (fun (i:Int) (m:List ByteArray)=>m=l/\1<=i/\i<=1+l.length) (fun (i:Int) _=>(1+l.length - i).toNat) ?_ ⟨rfl,by decide,by omega⟩
  rintro i m ⟨rfl,i0,i1⟩ _
  refine Cnd.mk (fun hc=>⟨by omega,fun y hy=>⟨by unfold InI;omega,by omega,fun z hz=>Cnd.mk (fun _=>⟨by unfold InI;omega,⟨rfl,by omega,by omega⟩,by omega⟩) (fun _=>⟨by omega,h _ _ (by simp;omega) (fun s hm=>hs s (List.mem_of_mem_take hm)) hD⟩)⟩⟩) (fun _=>h _ _ (by omega) hs hD)
theorem sz0:(ByteArray.mk (Array.mk ([]:List UInt8))).size<=100:=by decide
structure ValS(v:Val):Prop where
 num:InI v.number
 txt:v.text.size<=100
 len:v.list.length<=10
 txs: ∀s∈v.list,s.size<=100
theorem q76{list:List Int}{at_ kind:Int}{K:Val->Int->Prop}(hD:DS list at_)(h: ∀r a,ValS r->DS list a->K r a):B0 list at_ kind K:=by
 unfold B0 j0u
 have tt: ∀s∈j0s,s.size<=100:=by decide
 have tv: ∀s∈z41,s.size<=100:=by decide
 have tl: ∀l∈j7v,l.length<=10/\ ∀s∈l,s.size<=100:=by decide
 refine Cnd.mk (fun _=> ?_) fun _=>Cnd.mk (fun _=>fun _=> ?_) fun _=>Cnd.mk (fun _=> ?_) fun _=>Cnd.mk (fun _=> ?_) fun _=> ?_
 ·exact Qe hD (by decide) fun r a r0 r1 hD=>h _ _ ⟨by unfold InI;simp only;omega,sz0,by simp,by simp⟩ hD
 ·refine Qe hD (by decide) fun r a r0 r1 hD=>⟨⟨r0,r1⟩,fun y hy=>h _ _ ⟨?_,sz0,by simp,by simp⟩ hD⟩
  have:=getm hy
  have k: ∀y∈[(0:Int),(1:Int),(17:Int),(18:Int),(19:Int),(-5:Int),(64:Int),(1099511627776:Int),(-1099511627776:Int)], -9223372036854775808<=y/\y<=9223372036854775807:=by decide
  exact k y this
 ·exact z11 hD fun r a hr hD=>h _ _ ⟨by unfold InI;simp,tt _ hr,by simp,by simp⟩ hD
 ·exact Qe hD (by decide) fun r a r0 r1 hD=>⟨⟨r0,r1⟩,fun y hy=>h _ _ ⟨by unfold InI;simp,tv _ (getm hy),by simp,by simp⟩ hD⟩
 ·refine Qe hD (by decide) fun r a r0 r1 hD=>⟨⟨r0,r1⟩,fun y hy=> ?_⟩
  obtain⟨a1,a2⟩:=tl _ (getm hy)
  exact⟨by unfold Sml;simp;omega,h _ _ ⟨by unfold InI;simp,sz0,by simpa using a1,by simpa using a2⟩ hD⟩
structure VsS(l:List Val):Prop where
 len:l.length<=4
 all: ∀v∈l,ValS v
theorem VsS.nil:VsS []:=⟨by simp,by simp⟩
theorem VsS.one{v:Val}(h:ValS v):VsS [v]:=⟨by simp,by simpa using h⟩
def ExS:Nat->Ex->Prop
 |0,e=>VsS e.values/\(e.name.size<=100/\e.kind.size<=100)/\(InI e.op/\(2<=e.op->e.op<=4->e.kids≠[]))/\e.kids=[]
 |n+1,e=>VsS e.values/\(e.name.size<=100/\e.kind.size<=100)/\(InI e.op/\(2<=e.op->e.op<=4->e.kids≠[]))/\e.kids.length<=3/\ ∀k∈e.kids,ExS n k
theorem ExS.up: ∀{n:Nat} {e:Ex},ExS n e->ExS (n+1) e
 |0,e,h=>⟨h.1,h.2.1,h.2.2.1,by rw[h.2.2.2];simp,by rw[h.2.2.2];simp⟩
 |n+1,e,h=>⟨h.1,h.2.1,h.2.2.1,h.2.2.2.1,fun k hk=>(h.2.2.2.2 k hk).up⟩
theorem ExS.le{n m:Nat}{e:Ex}(h:ExS n e)(hm:n<=m):ExS m e:=by
 induction hm with
 |refl=>exact h
 |step _ ih=>exact ih.up
theorem ExS.kids{n:Nat}{e:Ex}(h:ExS n e):e.kids.length<=3:=by
 cases n with
 |zero=>rw[h.2.2.2];simp
 |succ n=>exact h.2.2.2.1
theorem ExS.kid{n:Nat}{e k:Ex}(h:ExS n e)(hk:k∈e.kids): ∃m,m+1=n/\ExS m k:=by
 cases n with
 |zero=>rw[h.2.2.2] at hk;simp at hk
 |succ n=>exact⟨n,rfl,h.2.2.2.2 k hk⟩
theorem ExS.vals{n:Nat}{e:Ex}(h:ExS n e):VsS e.values:=by cases n<;>exact h.1
theorem ExS.nm{n:Nat}{e:Ex}(h:ExS n e):e.name.size<=100:=by cases n<;>exact h.2.1.1
theorem ExS.kd{n:Nat}{e:Ex}(h:ExS n e):e.kind.size<=100:=by cases n<;>exact h.2.1.2
theorem ExS.opK{n:Nat}{e:Ex}(h:ExS n e):2<=e.op->e.op<=4->e.kids≠[]:=by cases n<;>exact h.2.2.1.2
def OpL(op:Int):Prop:=InI op/\ ¬(2<=op/\op<=4)
theorem OpL.ok{op:Int}(h:OpL op){l:List Ex}:InI op/\(2<=op->op<=4->l≠[]):=⟨h.1,fun a b=>absurd ⟨a,b⟩ h.2⟩
theorem opl{op:Int}(h:(6<=op/\op<=100)∨op=0∨op=1∨op=5){l:List Ex}:InI op/\(2<=op->op<=4->l≠[]):=⟨by unfold InI;omega,fun a b=>by omega⟩
theorem q3d{K:List Decl->Prop}(h: ∀l,l.length=8->(∀d∈l,d.kind.size<=100/\d.name.size<=100/\1<=d.type/\d.type<=5)->K l):Ge K:=by
 unfold Ge
 exact h _ rfl (by decide)
theorem w74{list:List Int}{at_:Int}{K:Ex->Int->Prop}(hD:DS list at_)(h: ∀r a,ExS 0 r->6<=r.op->DS list a->K r a):z60 list at_ K:=by
 unfold z60 w3s
 refine q3d fun l hl hd _=>⟨by unfold InI;omega,Qe hD (by omega) fun r a r0 r1 hD _=>Cnd.mk (fun _=> ?_) fun hc=>⟨by omega,fun y hy=> ?_⟩⟩
 ·exact v2v hD fun s a hs hD=>h _ _ ⟨.one ⟨by unfold InI;simp,by show s.size<=100;omega,by simp,by simp⟩,⟨(by decide:(ByteArray.mk (Array.mk [107,101,121])).size<=100),(by decide:(ByteArray.mk (Array.mk [117,115,101,114])).size<=100)⟩,opl (by simp),rfl⟩ (by simp) hD
 obtain⟨hy0,hy1,hy2,hy3⟩:=hd y (getm hy)
 have one: ∀{op:Int} {v:Val},OpL op->ValS v->ExS 0 (Ex.mk op y.kind y.name [v] []):=fun ho hv=>⟨.one hv,⟨hy1,hy0⟩,ho.ok,rfl⟩
 refine Jn1.mk (fun x=>(∃b,x=(b,y.kind,y.name,([]:List Val),([]:List Ex),x.2.2.2.2.2.1,0,ByteArray.mk (Array.mk []),ByteArray.mk (Array.mk []),[],[],()))/\DS list x.2.2.2.2.2.1) ?_ ?_
 case refine_2=>
  rintro x ⟨⟨b,hx⟩,hD⟩
  refine q76 hD fun v a hv hD=>h _ _ ?_ (by simp) hD
  rw[hx]
  exact one ⟨by unfold InI;simp,by decide⟩ hv
 refine Qe hD (by decide) fun q a q0 q1 hD=> ?_
 refine Jn1.mk (fun x=>(∃b,x=(x.1,b,y.kind,y.name,([]:List Val),([]:List Ex),0,ByteArray.mk (Array.mk []),ByteArray.mk (Array.mk []),[],[],()))/\DS list x.1) ?_ ?_
 case refine_2=>
  rintro x ⟨⟨b,hx⟩,hD⟩
  have cmp:Wf list x.1 4 fun r a=>InI (12+r)/\B0 list a y.3 fun v a=>K (Ex.mk (12+r) x.2.2.1 x.2.2.2.1 [v] x.2.2.2.2.2.1) a:=by
   refine Qe hD (by decide) fun r a r0 r1 hD=>⟨by unfold InI;omega,q76 hD fun v a hv hD=>h _ _ ?_ (by simp only;omega) hD⟩
   rw[hx]
   exact one ⟨by unfold InI;omega,by omega⟩ hv
  refine Cnd.mk (fun _=>cmp) fun _=>Cnd.mk (fun _=>cmp) fun _=>Cnd.mk (fun _=>cmp) fun _=> ?_
  refine⟨⟨b,?_⟩,hD⟩
  rw[hx]
 have nx: ∀{a:Int},DS list a->(fun x:Int×ByteArray×ByteArray×List Val×List Ex×Int×Int×ByteArray×ByteArray×List Val×List Ex×Unit=>(∃b,x=(b,y.kind,y.name,([]:List Val),([]:List Ex),x.2.2.2.2.2.1,0,ByteArray.mk (Array.mk []),ByteArray.mk (Array.mk []),[],[],()))/\DS list x.2.2.2.2.2.1) ((0:Int),y.1,y.2,[],[],a,(0:Int),ByteArray.mk (Array.mk []),ByteArray.mk (Array.mk []),[],[],()):=fun hD=>⟨⟨0,rfl⟩,hD⟩
 refine Cnd.mk (fun _=>h _ _ ⟨.nil,⟨hy1,hy0⟩,opl (by simp),rfl⟩ (by simp) hD) fun _=>Cnd.mk (fun _=> ?_) fun _=>Cnd.mk (fun _=> ?_) fun _=>Cnd.mk (fun _=> ?_) fun _=>Cnd.mk (fun _=> ?_) fun _=>nx hD
 ·refine Cnd.mk (fun _=>nx hD) fun _=> ?_
  refine Lp3.ind (fun i l a=>DS list a/\0<=i/\i<=3/\(l.length:Int)=i/\ ∀v∈l,ValS v) (fun i _ _=>(3 - i).toNat) ?_ ⟨hD,by decide,by decide,rfl,by simp⟩
  rintro i l a ⟨hD,i0,i3,hl,hv⟩
  refine Qe hD (by decide) fun r a r0 r1 hD=>Cnd.mk (fun hc=>q76 hD fun v a hv' hD=>⟨by unfold Sml;simp;omega,by unfold InI;omega,⟨hD,by omega,by omega,by simp;omega,fun u hu=> ?_⟩,by omega⟩) (fun hc=>h _ _ ⟨⟨by simp only;omega,hv⟩,⟨hy1,hy0⟩,opl (by simp),rfl⟩ (by simp) hD)
  rcases List.mem_append.1 hu with hu|hu
  ·exact hv u hu
  ·rw[List.mem_singleton.1 hu];exact hv'
 ·have c:B0 list a 3 fun v a=>K (Ex.mk 11 y.1 y.2 [v] []) a:=q76 hD fun v a hv hD=>h _ _ (one ⟨by unfold InI;simp,by decide⟩ hv) (by simp) hD
  exact Cnd.mk (fun _=>c) fun _=>Cnd.mk (fun _=>c) fun _=>nx hD
 ·exact Cnd.mk (fun _=>Qe hD (by decide) fun r a r0 r1 hD=>⟨by unfold InI;omega,q76 hD fun v a hv hD=>h _ _ (one ⟨by unfold InI;omega,by omega⟩ hv) (by simp only;omega) hD⟩) fun _=>⟨⟨0,rfl⟩,hD⟩
 ·exact⟨⟨0,rfl⟩,hD⟩
theorem ExS.eta{n:Nat}{e:Ex}(h:ExS n e):ExS n (Ex.mk e.op e.kind e.name e.values e.kids):=by cases e;exact h
theorem y9l{n:Nat}{e:Ex}(h:ExS n e){k m:ByteArray}(hm:m.size<=100)(hk:k.size<=100):ExS (n+1) (Ex.mk 4 k m [] [e]):=⟨.nil,⟨hm,hk⟩,⟨InI.mk (by simp) (by simp),fun _ _=>by simp⟩,by simp,by simpa using h⟩
structure SegS(g:Seg):Prop where
 key:g.key.size<=100
 kind:g.kind.size<=100
 incl:g.incl.length<=3
 excl:g.excl.length<=3
 cond:ExS 4 g.cond
theorem J3{α:Type}{P:α->Prop}{l:List α}{x:α}(h: ∀y∈l,P y)(hx:P x): ∀y∈l++[x],P y:=fun y hy=>by
 rcases List.mem_append.1 hy with hy|hy
 ·exact h y hy
 ·rw[List.mem_singleton.1 hy];exact hx
theorem z4o{v:Envt}{K:List ByteArray->Prop}(hl:v.segments.length<=1000)(h:K (v.segments.map Seg.key)):q1s v K:=by
 unfold q1s
 refine Lp2.ind (fun (l:List ByteArray) (i:Int)=>0<=i/\i<=v.segments.length/\l=(v.segments.take i.toNat).map Seg.key) (fun _ (i:Int)=>(v.segments.length - i).toNat) ?_ ⟨Int.le_refl 0,by omega,by simp⟩
 rintro l i ⟨i0,i1,rfl⟩ _
 refine Cnd.mk (fun hc=>⟨by omega,fun y hy=>⟨by unfold Sml;simp;omega,by unfold InI;omega,⟨by omega,by omega,?_⟩,by omega⟩⟩) fun hc=> ?_
 ·rw[show (i+1).toNat=i.toNat+1 by omega,List.take_add_one,hy];simp
 ·rw[List.take_of_length_le (by omega)];exact h
def SplS(n:Int)(l:List Rng):Prop:=l.length<=4/\ ∀r∈l,0<=r.lo/\r.hi<=10000/\1<=r.variation/\r.variation<=n
structure SrvS(n:Int)(s:Srv):Prop where
 kind:s.kind.size<=100
 var:0<=s.variation/\s.variation<=n
 split:SplS n s.split
 by_:s.by_.size<=100
 salt:s.salt.size<=100
structure LayS(l:Lay_):Prop where
 key:l.key.size<=100
 kind:l.kind.size<=100
 salt:l.salt.size<=100
 hold:0<=l.holdout/\l.holdout<=10000
 cool:0<=l.cool/\l.cool<=100
theorem v47{list:List Int}{at_:Int}{key:ByteArray}{K:Lay_->Int->Prop}(hD:DS list at_)(hk:key.size<=100)(h: ∀l a,LayS l->l.key=key->DS list a->K l a):j00 list at_ key K:=by
 unfold j00 j70
 have tt: ∀s∈j0s,s.size<=100:=by decide
 refine z11 hD fun t a ht hD=>Qe hD (by decide) fun c a c0 c1 hD=>⟨by unfold InI;omega,?_⟩
 refine Jn2.mk (fun k a=>k.size<=100/\DS list a) (Qe hD (by decide) fun r a r0 r1 hD=>Cnd.mk (fun _=>⟨by decide,hD⟩) fun _=>⟨by decide,hD⟩) fun kind a hx=> ?_
 obtain⟨hkd,hD⟩:=hx
 refine Jn2.mk (fun x a=>DS list a/\0<=x/\x<=10000) (Qe hD (by decide) fun r a r0 r1 hD=>Cnd.mk (fun _=>q5u hD (by decide) fun w a w0 w1 hD=>⟨hD,by omega,by omega⟩) fun _=>⟨hD,by omega,by omega⟩) fun hold a hx=> ?_
 obtain⟨hD,x0,x1⟩:=hx
 have ok: ∀{cs:List Col},LayS (Lay_.mk key kind t hold (c*50) cs):=⟨hk,hkd,tt _ ht,⟨x0,x1⟩,⟨by simp only;omega,by simp only;omega⟩⟩
 refine Lp4.ind (fun at_ i cs a=>DS list a/\0<=i/\i<=2/\(cs.length:Int)=i/\0<=at_/\at_<=10000/\ ∀c∈cs,0<=c.lo/\c.hi<=10000/\0<=c.until_/\c.until_<=200) (fun _ i _ _=>(2 - i).toNat) ?_ ⟨hD,by omega,by omega,rfl,by omega,by omega,by simp⟩
 rintro at_ i cs a ⟨hD,i0,i1,hl,a0,a1,hc⟩
 refine Qe hD (by decide) fun q a q0 q1 hD=>Cnd.mk (fun _=>q5u hD (by decide) fun w a w0 w1 hD=>⟨by unfold InI;omega,by unfold InI;omega,q5u hD (by decide) fun w' a w0' w1' hD=>⟨by unfold InI;omega,Cnd.mk (fun _=>h _ _ ok rfl hD) fun _=> ?_⟩⟩) fun _=>h _ _ ok rfl hD
 refine Qe hD (by decide) fun u a u0 u1 hD=>⟨by unfold Sml;simp;omega,by unfold InI;omega,⟨hD,by omega,by omega,by simp;omega,by omega,by omega,J3 hc ⟨by simp only;omega,by simp only;omega,by simp only;omega,by simp only;omega⟩⟩,by omega⟩
structure SpsS(l:List Spn):Prop where
 len:l.length<=10000
 all: ∀s∈l,0<=s.lo/\s.lo<s.hi/\s.hi<=10000
structure RulS(n:Int)(r:Rul):Prop where
 name:r.name.size<=100
 cond:ExS 4 r.cond
 serve:SrvS n r.serve
structure FlgS(f:Flg):Prop where
 key:f.key.size<=100
 vlen:1<=f.variations.length/\f.variations.length<=4
 vals: ∀v∈f.variations,ValS v
 nlen:f.needs.length<=4
 needs: ∀q∈f.needs,q.flag.size<=100
 tlen:f.targets.length<=3
 tgts: ∀t∈f.targets,t.kind.size<=100
 rlen:f.rules.length<=4
 rules: ∀r∈f.rules,RulS f.variations.length r
 dflt:SrvS f.variations.length f.dflt
structure ExpS(x:Exper):Prop where
 key:x.key.size<=100
 layer:x.layer.size<=100
 flag:x.flag.size<=100
 claims:SpsS x.claims
 arms:SplS 4 x.arms
 cond:ExS 4 x.cond
structure EnvS(v:Envt):Prop where
 hkind:v.settings.holdoutKind.size<=100
 attrs: ∀d∈v.attributes,d.kind.size<=100/\d.name.size<=100
 slen:v.segments.length<=3
 segs: ∀g∈v.segments,SegS g
 flen:v.flags.length<=4
 flags: ∀f∈v.flags,FlgS f
 llen:v.layers.length<=2
 layers: ∀l∈v.layers,LayS l
 xlen:v.experiments.length<=3
 exps: ∀x∈v.experiments,ExpS x
end Go.En
end
noncomputable section
set_option maxRecDepth 100000
namespace Go.En
open Go Go.Fl Go.Fl.Lk Go.Fx
abbrev S4:=Int×Int×Int×Int
def w64(x:Int):Int:=Go.IntKind.u64.wrap x
def xr(a b:Int):Int:=Go.IntKind.u64.wrap ((BitVec.ofInt 64 a ^^^ BitVec.ofInt 64 b).toNat:Int)
def rot(x n:Int):Int:=Go.IntKind.u64.wrap ((BitVec.ofInt 64 (Go.IntKind.u64.wrap (x*2 ^ Min.min n.toNat 64))|||BitVec.ofInt 64 (x.fdiv (2 ^ Min.min (Go.IntKind.u64.wrap (64 - n)).toNat 64))).toNat:Int)
def rnd(s:S4):S4:=
  (w64 (rot (w64 (s.1+s.2.1)) 32+xr (rot s.2.2.2 16) (w64 (s.2.2.1+s.2.2.2))),
   xr (rot (xr (rot s.2.1 13) (w64 (s.1+s.2.1))) 17) (w64 (w64 (s.2.2.1+s.2.2.2)+xr (rot s.2.1 13) (w64 (s.1+s.2.1)))),
   rot (w64 (w64 (s.2.2.1+s.2.2.2)+xr (rot s.2.1 13) (w64 (s.1+s.2.1)))) 32,
   xr (rot (xr (rot s.2.2.2 16) (w64 (s.2.2.1+s.2.2.2))) 21) (w64 (rot (w64 (s.1+s.2.1)) 32+xr (rot s.2.2.2 16) (w64 (s.2.2.1+s.2.2.2)))))
def rn:Nat->S4->S4
  |0,s=>s
  |k+1,s=>rnd (rn k s)
def tm(y:Int)(k:Nat):BitVec 64:=BitVec.ofInt 64 (Go.IntKind.u64.wrap (Go.IntKind.u64.wrap y*2 ^ Min.min (8*k) 64))
def wv(b:List Int)(o:Nat)(v:BitVec 64):Nat->BitVec 64
  |0=>v
  |k+1=>wv b o v k|||tm (b.getD (o+k) 0) k
def s0(k0 k1:Int):S4:=(xr k0 8317987319222330741,xr k1 7237128888997146477,xr k0 7816392313619706465,xr k1 8387220255154660723)
def topV(n:Nat):BitVec 64:=BitVec.ofInt 64 (Go.IntKind.u64.wrap (Go.IntKind.u64.wrap (n:Int)*2 ^ Min.min (Int.toNat 56) 64))
def y2m(b:List Int):BitVec 64:=wv b (8*(b.length / 8)) 0 (b.length % 8)|||topV b.length
theorem j9j(x:Int):Go.IntKind.u64.wrap x=x % 18446744073709551616:=rfl
theorem y6p(x:Int):Go.IntKind.u64.wrap x=((BitVec.ofInt 64 (Go.IntKind.u64.wrap x)).toNat:Int):=by
  rw[BitVec.toNat_ofInt,j9j]
  omega
theorem j12{n:Nat}(h:n<18446744073709551616):Go.IntKind.u64.wrap (n:Int)=n:=by
  show (n:Int) % 18446744073709551616=n
  omega
theorem v8x(v:BitVec 64):BitVec.ofInt 64 ((v.toNat:Nat):Int)=v:=by simp
theorem y2n(v t:BitVec 64):Go.IntKind.u64.wrap ((BitVec.ofInt 64 ((v.toNat:Nat):Int)|||t).toNat:Int)=((v|||t).toNat:Int):=by
  rw[v8x];exact j12 (v|||t).isLt
theorem j35{x k:Int}{K:Int->Prop}(hk:k=13∨k=16∨k=17∨k=21∨k=32)(h:K (rot x k)):Gx x k K:=by
  have e:Go.IntKind.u64.wrap (↑(BitVec.ofInt 64 (Go.IntKind.u64.wrap k) &&& BitVec.ofInt 64 63).toNat:Int)=k:=by rcases hk with rfl|rfl|rfl|rfl|rfl<;>decide
  have e2:0<=Go.IntKind.u64.wrap (64 - k):=by rcases hk with rfl|rfl|rfl|rfl|rfl<;>decide
  unfold Gx
  rw[e]
  exact⟨by omega,e2,h⟩
theorem z7m{x k:Int}{K:Int->Prop}(hk:k=13∨k=16∨k=17∨k=21∨k=32)(h:K (rot x k)):z9e x k K:=by
  have e2:0<=Go.IntKind.u64.wrap (64 - k):=by rcases hk with rfl|rfl|rfl|rfl|rfl<;>decide
  unfold z9e
  exact⟨by omega,e2,h⟩
theorem v8y(s:S4)(i:Int)(h:0<=i):rnd (rn i.toNat s)=rn (i+1).toNat s:=by
  rw[show (i+1).toNat=i.toNat+1 by omega];rfl
theorem v48{a b c d n:Int}{q:Nat}{K:Int->Int->Int->Int->Prop}(hn:n=(q:Int))(h1:q<=1000)(h:K (rn q (a,b,c,d)).1 (rn q (a,b,c,d)).2.1 (rn q (a,b,c,d)).2.2.1 (rn q (a,b,c,d)).2.2.2):Zs a b c d n K:=by
  subst hn
  unfold Zs Br
  refine Lp5.ind (fun i a' b' c' d'=>0<=i/\i<=(q:Int)/\(a',b',c',d')=rn i.toNat (a,b,c,d)) (fun i _ _ _ _=>((q:Int) - i).toNat) ?_ ⟨Int.le_refl 0,by omega,rfl⟩
  rintro i a' b' c' d' ⟨i0,i1,hs⟩
  refine Cnd.mk (fun hc=>j35 (by simp) (j35 (by simp) (j35 (by simp) (j35 (by simp) (j35 (by simp) (j35 (by simp) ⟨by unfold InI;omega,⟨by omega,by omega,?_⟩,by omega⟩)))))) fun hc=> ?_
  · rw[←v8y _ _ i0,←hs];simp only[rnd,w64,xr]
  · rw[show q=i.toNat by omega,←hs] at h;exact h
theorem w75{v:Sip}{n:Int}{q:Nat}{K:Sip->Prop}(hn:n=(q:Int))(h1:q<=1000)(h:K (Sip.mk (rn q (v.1,v.2,v.3,v.4)).1 (rn q (v.1,v.2,v.3,v.4)).2.1 (rn q (v.1,v.2,v.3,v.4)).2.2.1 (rn q (v.1,v.2,v.3,v.4)).2.2.2)):J6 v n K:=by
  subst hn
  unfold J6 z4j
  refine Lp5.ind (fun i a' b' c' d'=>0<=i/\i<=(q:Int)/\(a',b',c',d')=rn i.toNat (v.1,v.2,v.3,v.4)) (fun i _ _ _ _=>((q:Int) - i).toNat) ?_ ⟨Int.le_refl 0,by omega,rfl⟩
  rintro i a' b' c' d' ⟨i0,i1,hs⟩
  refine Cnd.mk (fun hc=>z7m (by simp) (z7m (by simp) (z7m (by simp) (z7m (by simp) (z7m (by simp) (z7m (by simp) ⟨by unfold InI;omega,⟨by omega,by omega,?_⟩,by omega⟩)))))) fun hc=> ?_
  · rw[←v8y _ _ i0,←hs];simp only[rnd,w64,xr]
  · rw[show q=i.toNat by omega,←hs] at h;exact h
theorem exR: ∃R:Nat->S4->S4,(∀(a b c d n:Int) (q:Nat) (K:Int->Int->Int->Int->Prop),n=(q:Int)->q<=1000->K (R q (a,b,c,d)).1 (R q (a,b,c,d)).2.1 (R q (a,b,c,d)).2.2.1 (R q (a,b,c,d)).2.2.2->Zs a b c d n K)/\
    ∀(v:Sip) (n:Int) (q:Nat) (K:Sip->Prop),n=(q:Int)->q<=1000->K (Sip.mk (R q (v.1,v.2,v.3,v.4)).1 (R q (v.1,v.2,v.3,v.4)).2.1 (R q (v.1,v.2,v.3,v.4)).2.2.1 (R q (v.1,v.2,v.3,v.4)).2.2.2)->J6 v n K:=
  ⟨rn,fun _ _ _ _ _ _ _ hn hq h=>v48 hn hq h,fun _ _ _ _ hn hq h=>w75 hn hq h⟩
def RR:Nat->S4->S4:=Classical.choose exR
theorem w76{a b c d n:Int}{q:Nat}{K:Int->Int->Int->Int->Prop}(hn:n=(q:Int))(h1:q<=1000)(h:K (RR q (a,b,c,d)).1 (RR q (a,b,c,d)).2.1 (RR q (a,b,c,d)).2.2.1 (RR q (a,b,c,d)).2.2.2):Zs a b c d n K:=(Classical.choose_spec exR).1 a b c d n q K hn h1 h
theorem j9k{v:Sip}{n:Int}{q:Nat}{K:Sip->Prop}(hn:n=(q:Int))(h1:q<=1000)(h:K (Sip.mk (RR q (v.1,v.2,v.3,v.4)).1 (RR q (v.1,v.2,v.3,v.4)).2.1 (RR q (v.1,v.2,v.3,v.4)).2.2.1 (RR q (v.1,v.2,v.3,v.4)).2.2.2)):J6 v n K:=(Classical.choose_spec exR).2 v n q K hn h1 h
def wds(s:S4)(m:Int):S4:=(xr (RR 2 (s.1,s.2.1,s.2.2.1,xr s.2.2.2 m)).1 m,(RR 2 (s.1,s.2.1,s.2.2.1,xr s.2.2.2 m)).2)
def blks(b:List Int)(k0 k1:Int):Nat->S4
  |0=>s0 k0 k1
  |i+1=>wds (blks b k0 k1 i) ((wv b (8*i) 0 8).toNat:Int)
def fin4(s:S4):S4:=RR 4 (s.1,s.2.1,xr s.2.2.1 255,s.2.2.2)
def endV(s:S4):Int:=xr (xr (xr (fin4 s).1 (fin4 s).2.1) (fin4 s).2.2.1) (fin4 s).2.2.2
def sumV(k0 k1:Int)(b:List Int):Int:=
  endV (wds (blks b k0 k1 (b.length / 8)) ((y2m b).toNat:Int))
theorem v8z{a b c d m:Int}{K:Int->Int->Int->Int->Prop}(h:K (wds (a,b,c,d) m).1 (wds (a,b,c,d) m).2.1 (wds (a,b,c,d) m).2.2.1 (wds (a,b,c,d) m).2.2.2):Hr a b c d m K:=by
  unfold Hr q2o
  simp only[wds,xr] at h
  exact w76 (q:=2) rfl (by decide) h
theorem y6q{s:S4}{K:Int->Prop}(h:K (endV s)):Zs s.1 s.2.1 (Go.IntKind.u64.wrap (↑(BitVec.ofInt 64 s.2.2.1 ^^^ BitVec.ofInt 64 255).toNat:Int)) s.2.2.2 4 fun Zu z09 w2v w5y=>K (Go.IntKind.u64.wrap (↑(BitVec.ofInt 64 (Go.IntKind.u64.wrap (↑(BitVec.ofInt 64 (Go.IntKind.u64.wrap (↑(BitVec.ofInt 64 Zu ^^^ BitVec.ofInt 64 z09).toNat:Int)) ^^^ BitVec.ofInt 64 w2v).toNat:Int)) ^^^ BitVec.ofInt 64 w5y).toNat:Int)):=by
  simp only[endV,fin4,xr] at h
  exact w76 (q:=4) rfl (by decide) h
theorem v81{s:S4}{K:Int->Prop}(h:K (endV s)):J6 (Sip.mk s.1 s.2.1 (Go.IntKind.u64.wrap (↑(BitVec.ofInt 64 s.2.2.1 ^^^ BitVec.ofInt 64 255).toNat:Int)) s.2.2.2) 4 fun x=>K (Go.IntKind.u64.wrap (↑(BitVec.ofInt 64 (Go.IntKind.u64.wrap (↑(BitVec.ofInt 64 (Go.IntKind.u64.wrap (↑(BitVec.ofInt 64 x.1 ^^^ BitVec.ofInt 64 x.2).toNat:Int)) ^^^ BitVec.ofInt 64 x.3).toNat:Int)) ^^^ BitVec.ofInt 64 x.4).toNat:Int)):=by
  simp only[endV,fin4,xr] at h
  exact j9k (q:=4) rfl (by decide) h
theorem v82{a b c d m:Int}{K:Sip->Prop}(h: ∀x:Sip,(Go.IntKind.u64.wrap (↑(BitVec.ofInt 64 x.1 ^^^ BitVec.ofInt 64 m).toNat:Int),x.2,x.3,x.4)=wds (a,b,c,d) m->K x):J6 (Sip.mk a b c (Go.IntKind.u64.wrap (↑(BitVec.ofInt 64 d ^^^ BitVec.ofInt 64 m).toNat:Int))) 2 K:=by
  refine j9k (q:=2) rfl (by decide) (h _ ?_)
  simp only[wds,xr]
theorem y9m(b:List Int)(o:Nat)(v:BitVec 64): ∀k,wv b o v k=wv b o 0 k|||v
  |0=>by simp[wv]
  |k+1=>by
    rw[wv,wv,y9m b o v k,BitVec.or_assoc,BitVec.or_comm v,←BitVec.or_assoc]
theorem v0w{b:List Int}{o k:Nat}{v:BitVec 64}{y:Int}(hy:b[o+k]? =some y):wv b o v (k+1)=wv b o v k|||tm y k:=by
  rw[wv,List.getD_eq_getElem?_getD,hy];rfl
theorem y6r(n:Nat):topV n=BitVec.ofInt 64 (Go.IntKind.u64.wrap (Go.IntKind.u64.wrap ((n:Int).tmod 256)*2 ^ Min.min (Int.toNat 56) 64)):=by
  have e:(2:Int) ^ Min.min (Int.toNat 56) 64=72057594037927936:=by decide
  have h2:Go.IntKind.u64.wrap (Go.IntKind.u64.wrap (n:Int)*72057594037927936)=Go.IntKind.u64.wrap (Go.IntKind.u64.wrap ((n:Int).tmod 256)*72057594037927936):=by
    rw[j9j,j9j,j9j,j9j,Int.tmod_eq_emod_of_nonneg (by omega)]
    omega
  unfold topV
  rw[e,h2]
theorem w48{k0 k1:Int}{b:List Int}{K:Int->Prop}(hb:b.length<=1099511627776)(h:K (sumV k0 k1 b)):q93 k0 k1 b K:=by
  unfold q93 z5e
  refine fun _=>⟨by decide,?_⟩
  refine Lp5.ind (fun i a' b' c' d'=> ∃j:Nat,i=8*(j:Int)/\8*j<=b.length/\(a',b',c',d')=blks b k0 k1 j) (fun i _ _ _ _=>(b.length - i).toNat) ?_ ⟨0,rfl,by omega,rfl⟩
  rintro i a' b' c' d' ⟨j,rfl,hj,hs⟩
  refine⟨by unfold InI;omega,fun _=>Cnd.mk (fun hc=> ?_) fun hc=> ?_⟩
  · refine Lp2.ind (fun v k=> ∃q:Nat,k=(q:Int)/\q<=8/\v=((wv b (8*j) 0 q).toNat:Int)) (fun _ k=>(8 - k).toNat) ?_ ⟨0,rfl,by omega,rfl⟩
    rintro v k ⟨q,rfl,hq,rfl⟩
    refine Cnd.mk (fun hk=>⟨by unfold InI;omega,⟨by omega,by omega⟩,fun y hy=>⟨by unfold InI;omega,by omega,by unfold InI;omega,⟨q+1,by omega,by omega,?_⟩,by omega⟩⟩) fun hk=> ?_
    · rw[show (8*(j:Int)+q).toNat=8*j+q by omega] at hy
      rw[v0w hy,show (8*(q:Int)).toNat=8*q by omega]
      exact y2n _ _
    · refine v8z ⟨by unfold InI;omega,⟨j+1,by omega,by omega,?_⟩,by omega⟩
      rw[hs,show q=8 by omega];rfl
  · refine fun _=>⟨by decide,?_⟩
    have hjl:j=b.length / 8:=by omega
    have hm:((b.length:Nat):Int).tmod 8=((b.length % 8:Nat):Int):=by rw[Int.tmod_eq_emod_of_nonneg (by omega)];omega
    rw[hm]
    refine Lp2.ind (fun v k=> ∃q:Nat,k=(q:Int)/\q<=b.length % 8/\v=((wv b (8*j) (topV b.length) q).toNat:Int)) (fun _ k=>(8 - k).toNat) ?_ ⟨0,rfl,by omega,by unfold wv topV;exact y6p _⟩
    rintro v k ⟨q,rfl,hq,rfl⟩
    refine Cnd.mk (fun hk _ _=>⟨by decide,by unfold InI;omega,by unfold InI;omega,⟨by omega,by omega⟩,fun y hy=>⟨by unfold InI;omega,by omega,by unfold InI;omega,⟨q+1,by omega,by omega,?_⟩,by omega⟩⟩) fun hk=> ?_
    · rw[show ((b.length:Int) - ((b.length % 8:Nat):Int)+q).toNat=8*j+q by omega] at hy
      rw[v0w hy,show (8*(q:Int)).toNat=8*q by omega]
      exact y2n _ _
    · refine v8z (y6q (s:=wds (a',b',c',d') _) ?_)
      rw[hs,show q=b.length % 8 by omega,y9m,hjl]
      exact h
theorem v83{k0 k1:Int}{b:List Int}{K:Int->Prop}(hb:b.length<=1099511627776)(h:K (sumV k0 k1 b)):w3w k0 k1 b K:=by
  unfold w3w v2o
  have hd:((b.length:Nat):Int).tdiv 8=((b.length / 8:Nat):Int):=by rw[Int.tdiv_eq_ediv_of_nonneg (by omega)];omega
  rw[hd]
  refine Lp5.ind (fun i a' b' c' d'=> ∃j:Nat,i=(j:Int)/\j<=b.length / 8+1/\(j<=b.length / 8->(a',b',c',d')=blks b k0 k1 j)/\(j=b.length / 8+1->(a',b',c',d')=wds (blks b k0 k1 (b.length / 8)) ((y2m b).toNat:Int))) (fun i _ _ _ _=>(b.length / 8+1 - i).toNat) ?_ ⟨0,rfl,by omega,fun _=>rfl,fun h=>by omega⟩
  rintro i a' b' c' d' ⟨j,rfl,hj,hs,hf⟩
  refine fun _=>⟨by decide,by unfold InI;omega,Cnd.mk (fun hc=> ?_) fun hc=> ?_⟩
  · have hs:=hs (by omega)
    have done: ∀q:Nat,(q=8∨q=b.length % 8/\j=b.length / 8)->q<=8->(j<b.length / 8->q=8)->(j=b.length / 8->q=b.length % 8)->Jn1 (fun Qu=>J6 (Sip.mk a' b' c' (Go.IntKind.u64.wrap (↑(BitVec.ofInt 64 d' ^^^ BitVec.ofInt 64 Qu).toNat:Int))) 2 fun Qk=>InI ((j:Int)+1)/\(∃j':Nat,(j:Int)+1=(j':Int)/\j'<=b.length / 8+1/\(j'<=b.length / 8->(Go.IntKind.u64.wrap (↑(BitVec.ofInt 64 Qk.1 ^^^ BitVec.ofInt 64 Qu).toNat:Int),Qk.2,Qk.3,Qk.4)=blks b k0 k1 j')/\(j'=b.length / 8+1->(Go.IntKind.u64.wrap (↑(BitVec.ofInt 64 Qk.1 ^^^ BitVec.ofInt 64 Qu).toNat:Int),Qk.2,Qk.3,Qk.4)=wds (blks b k0 k1 (b.length / 8)) ((y2m b).toNat:Int)))/\((b.length / 8:Nat)+1 - ((j:Int)+1)).toNat<((b.length / 8:Nat)+1 - (j:Int)).toNat) fun v5v=>b.length<=(9223372036854775807:Nat)->(8:Int)≠0/\InI ((b.length / 8:Nat):Int)/\Cnd ((j:Int)=((b.length / 8:Nat):Int)) (b.length<=(9223372036854775807:Nat)->(256:Int)≠0/\(0:Int)<=56/\v5v (Go.IntKind.u64.wrap (↑(BitVec.ofInt 64 ((wv b (8*j) 0 q).toNat:Int)|||BitVec.ofInt 64 (Go.IntKind.u64.wrap (Go.IntKind.u64.wrap ((b.length:Int).tmod 256)*2 ^ Min.min (Int.toNat 56) 64))).toNat:Int))) (v5v ((wv b (8*j) 0 q).toNat:Int)):=fun q _ hq h1 h2=>by
      refine Jn1.mk (fun x=>(j<b.length / 8->x=((wv b (8*j) 0 8).toNat:Int))/\(j=b.length / 8->x=((y2m b).toNat:Int))) (fun _=>⟨by decide,by unfold InI;omega,Cnd.mk (fun he=>fun _=>⟨by decide,by decide,fun _=>by omega,fun hjl=> ?_⟩) fun hne=>⟨fun hl=>by rw[h1 hl],fun he=>by omega⟩⟩) fun x hx=>v82 fun s hsw=>⟨by unfold InI;omega,⟨j+1,by omega,by omega,fun hl=> ?_,fun he=> ?_⟩,by omega⟩
      · rw[←y6r,y2n,h2 hjl,hjl];rfl
      · rw[hsw,hx.1 (by omega),blks,←hs]
      · rw[hsw,hx.2 (by omega),←show j=b.length / 8 by omega,←hs]
    refine Lp2.ind (fun v k=> ∃q:Nat,k=(q:Int)/\q<=8/\(j=b.length / 8->q<=b.length % 8)/\v=((wv b (8*j) 0 q).toNat:Int)) (fun _ k=>(8 - k).toNat) ?_ ⟨0,rfl,by omega,fun _=>by omega,rfl⟩
    rintro v k ⟨q,rfl,hq,hq2,rfl⟩
    refine Cnd.mk (fun hk=>⟨by unfold InI;omega,by unfold InI;omega,fun _=>Cnd.mk (fun hl=>⟨by unfold InI;omega,by unfold InI;omega,⟨by omega,by omega⟩,fun y hy=>⟨by unfold InI;omega,?_,by unfold InI;omega,⟨q+1,by omega,by omega,fun _=>by omega,?_⟩,by omega⟩⟩) fun hl=> ?_⟩) fun hk=> ?_
    · rw[show 8*(q:Int)=((8*q:Nat):Int) by omega,j12 (by omega)];omega
    · rw[show (8*(j:Int)+q).toNat=8*j+q by omega] at hy
      rw[v0w hy,show 8*(q:Int)=((8*q:Nat):Int) by omega,j12 (n:=8*q) (by omega),Int.toNat_natCast]
      exact y2n _ _
    · exact done q (by omega) hq (fun h=>by omega) (fun h=>by omega)
    · exact done q (by omega) hq (fun h=>by omega) (fun h=>by omega)
  · have hf:=hf (by omega)
    unfold sumV at h
    rw[←hf] at h
    exact v81 (s:=(a',b',c',d')) h
def fb(n k:Nat):Int:=Go.IntKind.u8.wrap ((Go.IntKind.u64.wrap (n:Int)).fdiv (2 ^ Min.min (8*k) 64))
def hdr(n:Nat)(j:Nat):List Int:=(List.range j).map fun i=>fb n (7 - i)
def frm(l:List (List Int)):List Int:=l.flatMap fun f=>hdr f.length 8++f
theorem v2w(n j:Nat):hdr n (j+1)=hdr n j++[fb n (7 - j)]:=by simp[hdr,List.range_succ]
theorem z92(n j:Nat):(hdr n j).length=j:=by simp[hdr]
theorem j6u{l:List (List Int)}{i:Nat}{y:List Int}(hy:l[i]? =some y):frm (l.take (i+1))=frm (l.take i)++(hdr y.length 8++y):=by
  rw[List.take_add_one,hy];simp[frm]
theorem j9l(l:List (List Int))(i:Nat):(frm (l.take i)).length<=(frm l).length:=by
  have h:frm l=frm (l.take i)++frm (l.drop i):=by
    conv=>lhs;rw[←List.take_append_drop i l]
    exact List.flatMap_append
  rw[h,List.length_append];omega
theorem j9m{l:List (List Int)}{K:List Int->Prop}(hl:(frm l).length<=1000000000)(hn:l.length<=1000)(h:K (frm l)):q41 l K:=by
  unfold q41
  refine fun _=>Lp2.ind (fun o i=> ∃j:Nat,i=(j:Int)/\j<=l.length/\o=frm (l.take j)) (fun _ i=>(l.length - i).toNat) ?_ ⟨0,rfl,by omega,rfl⟩
  rintro o i ⟨j,rfl,hj,rfl⟩
  refine Cnd.mk (fun hc=>⟨by omega,fun y hy=> ?_⟩) fun hc=> ?_
  · have hy:l[j]? =some y:=hy
    have hln:=j9l l (j+1)
    rw[j6u hy] at hln
    simp only[List.length_append,z92] at hln
    refine Lp2.ind (fun o k=> ∃q:Nat,k=7 - (q:Int)/\q<=8/\o=frm (l.take j)++hdr y.length q) (fun _ k=>(k+1).toNat) ?_ ⟨0,rfl,by omega,by simp[hdr]⟩
    rintro o k ⟨q,rfl,hq,rfl⟩
    refine Cnd.mk (fun hk _=>⟨by unfold InI;omega,by omega,?_,by unfold InI;omega,⟨q+1,by omega,by omega,?_⟩,by omega⟩) fun hk=>⟨?_,by unfold InI;omega,⟨j+1,by omega,by omega,?_⟩,by omega⟩
    · unfold Sml;simp only[List.length_append,z92,List.length_singleton];omega
    · rw[v2w,←List.append_assoc,show (8*(7 - (q:Int))).toNat=8*(7 - q) by omega];rfl
    · unfold Sml;simp only[List.length_append,z92];omega
    · rw[j6u hy,show q=8 by omega,List.append_assoc]
  · rw[show j=l.length by omega,List.take_length];exact h
theorem v0x{l:List (List Int)}{K:List Int->Prop}(hl:(frm l).length<=1000000000)(hn:l.length<=1000)(h:K (frm l)):j28 l K:=by
  unfold j28
  refine Lp2.ind (fun o i=> ∃j:Nat,i=(j:Int)/\j<=l.length/\o=frm (l.take j)) (fun _ i=>(l.length - i).toNat) ?_ ⟨0,rfl,by omega,rfl⟩
  rintro o i ⟨j,rfl,hj,rfl⟩
  refine fun _=>Cnd.mk (fun hc=>⟨by omega,fun y hy _=> ?_⟩) fun hc=> ?_
  · have hy:l[j]? =some y:=hy
    have hln:=j9l l (j+1)
    rw[j6u hy] at hln
    simp only[List.length_append,z92] at hln
    refine Lp2.ind (fun o k=> ∃q:Nat,k=56 - 8*(q:Int)/\q<=8/\o=frm (l.take j)++hdr y.length q) (fun _ k=>(k+8).toNat) ?_ ⟨0,rfl,by omega,by simp[hdr]⟩
    rintro o k ⟨q,rfl,hq,rfl⟩
    refine Cnd.mk (fun hk=> ?_) fun hk=>⟨by omega,fun z hz=> ?_⟩
    · have e:56 - 8*(q:Int)=((8*(7 - q):Nat):Int):=by omega
      rw[e,j12 (by omega)]
      refine⟨by omega,?_,by unfold InI;omega,⟨q+1,by omega,by omega,?_⟩,by omega⟩
      · unfold Sml;simp only[List.length_append,z92,List.length_singleton];omega
      · rw[v2w,←List.append_assoc,Int.toNat_natCast];rfl
    · have hz:l[j]? =some z:=hz
      rw[hy] at hz
      cases hz
      refine⟨?_,by unfold InI;omega,⟨j+1,by omega,by omega,?_⟩,by omega⟩
      · unfold Sml;simp only[List.length_append,z92];omega
      · rw[j6u hy,show q=8 by omega,List.append_assoc]
  · rw[show j=l.length by omega,List.take_length];exact h
theorem v84(a b:Int):0<=xr a b/\xr a b<18446744073709551616:=by
  unfold xr
  rw[j12 (BitVec.isLt _)]
  have:=(BitVec.ofInt 64 a ^^^ BitVec.ofInt 64 b).isLt
  omega
def ofV0(salt key:ByteArray):Int:=(sumV 1 0 (frm [bytesOf salt,bytesOf key])).tmod 10000
theorem w49(salt key:ByteArray):0<=ofV0 salt key/\ofV0 salt key<10000:=by
  have h: ∀s,0<=endV s:=fun s=>(v84 _ _).1
  have h0:0<=sumV 1 0 (frm [bytesOf salt,bytesOf key]):=h _
  exact⟨Int.tmod_nonneg _ h0,Int.tmod_lt_of_pos _ (by decide)⟩
theorem v2x(a b:ByteArray):(frm [bytesOf a,bytesOf b]).length=a.size+b.size+16:=by
  have h: ∀a:ByteArray,(bytesOf a).length=a.size:=fun a=>by simp[bytesOf]
  simp only[frm,List.flatMap_cons,List.flatMap_nil,List.length_append,z92,h,List.length_nil]
  omega
theorem w5a{salt key:ByteArray}{K:Int->Prop}(hs:salt.size<=10000000)(hk:key.size<=10000000)(h:K (ofV0 salt key)):Gy salt key K:=by
  have hl:=v2x salt key
  have hr:=w49 salt key
  unfold Gy z9b
  refine⟨by unfold Sml;omega,by unfold Sml;omega,?_⟩
  show q63 1 [bytesOf salt,bytesOf key] _
  unfold q63 z25
  refine j9m (by omega) (by simp) (w48 (by omega) ⟨by decide,?_,h⟩)
  exact InI.mk (Int.le_trans (by decide) hr.1) (Int.le_trans (Int.le_of_lt hr.2) (by decide))
theorem v49{salt key:ByteArray}{K:Int->Prop}(hs:salt.size<=10000000)(hk:key.size<=10000000)(h:K (ofV0 salt key)):w3x salt key K:=by
  have hl:=v2x salt key
  have hr:=w49 salt key
  unfold w3x v2q
  refine⟨by unfold Sml;omega,by unfold Sml;omega,?_⟩
  show j74 1 [bytesOf salt,bytesOf key] _
  unfold j74 w67
  refine v0x (by omega) (by simp) (v83 (by omega) ⟨by decide,?_,h⟩)
  exact InI.mk (Int.le_trans (by decide) hr.1) (Int.le_trans (Int.le_of_lt hr.2) (by decide))
theorem exOf: ∃F:ByteArray->ByteArray->Int,(∀a b,0<=F a b/\F a b<10000)/\(∀(salt key:ByteArray) (K:Int->Prop),salt.size<=10000000->key.size<=10000000->K (F salt key)->Gy salt key K)/\
    ∀(salt key:ByteArray) (K:Int->Prop),salt.size<=10000000->key.size<=10000000->K (F salt key)->w3x salt key K:=
  ⟨ofV0,w49,fun _ _ _ h1 h2 h=>w5a h1 h2 h,fun _ _ _ h1 h2 h=>v49 h1 h2 h⟩
def ofV:ByteArray->ByteArray->Int:=Classical.choose exOf
theorem y6s(salt key:ByteArray):0<=ofV salt key/\ofV salt key<10000:=(Classical.choose_spec exOf).1 salt key
theorem q5v{salt key:ByteArray}{K:Int->Prop}(hs:salt.size<=10000000)(hk:key.size<=10000000)(h:K (ofV salt key)):Gy salt key K:=(Classical.choose_spec exOf).2.1 salt key K hs hk h
end Go.En
end
noncomputable section
set_option maxRecDepth 100000
namespace Go.En
open Go Go.Fl Go.Fl.Lk Go.Fx
theorem w2n{α:Type}{a b:List α}(hl:a.length=b.length){F:α->α->(Bool->Prop)->Prop}{K:Bool->Prop}(hF: ∀x∈a,∀y∈b,∀K:Bool->Prop,(∀r,(r=true↔x=y)->K r)->F x y K)(h: ∀r,(r=true↔a=b)->K r):
  Lp1 (fun i Y=>a.length<=9223372036854775807->Cnd (i<(a.length:Int)) ((0<=i/\i<(a.length:Int))/\ ∀x,a[i.toNat]? =some x->(0<=i/\i<(b.length:Int))/\ ∀y,b[i.toNat]? =some y->F x y fun r=>Cnd (r=true) (InI (i+1)/\Y (i+1)) (K false)) (K true)) 0:=by
 refine Lp1.ind (fun (i:Int)=>0<=i/\i<=a.length/\a.take i.toNat=b.take i.toNat) (fun (i:Int)=>(a.length - i).toNat) ?_ ⟨by omega,by omega,by simp⟩
 rintro i ⟨i0,i1,he⟩ _
 refine Cnd.mk (fun hc=>⟨by omega,fun x hx=>⟨by omega,fun y hy=>hF x (getm hx) y (getm hy) _ fun r hr=>Cnd.mk (fun hc=>⟨by unfold InI;omega,⟨by omega,by omega,?_⟩,by omega⟩) fun hc=>h _ ⟨fun h=>(by cases h),fun h=> ?_⟩⟩⟩) fun hc=>h _ ⟨fun _=> ?_,fun _=>rfl⟩
 ·rw[show (i+1).toNat=i.toNat+1 by omega,List.take_add_one,List.take_add_one,he,hx,hy,hr.1 hc]
 ·subst h;rw[hx] at hy;exact absurd (hr.2 (by cases hy;rfl)) hc
 ·rwa [List.take_of_length_le (by omega),List.take_of_length_le (by omega)] at he
theorem v5a{a b:List ByteArray}{K:Bool->Prop}(h: ∀r,(r=true↔a=b)->K r):z1i a b K:=by
 unfold z1i
 intro ha hb
 refine Cnd.mk (fun hl=> ?_) fun hl=>h _ ⟨fun h=>(by cases h),fun e=>by rw[e] at hl;exact absurd rfl hl⟩
 refine Lp1.ind (fun (i:Int)=>0<=i/\i<=a.length/\a.take i.toNat=b.take i.toNat) (fun (i:Int)=>(a.length - i).toNat) ?_ ⟨by omega,by omega,by simp⟩
 rintro i ⟨i0,i1,he⟩ _
 refine Cnd.mk (fun hc=>⟨by omega,fun x hx=>⟨by omega,fun y hy=>Cnd.mk (fun hc=>⟨by unfold InI;omega,⟨by omega,by omega,?_⟩,by omega⟩) fun hc=>h _ ⟨fun h=>(by cases h),fun h=> ?_⟩⟩⟩) fun hc=>h _ ⟨fun _=> ?_,fun _=>rfl⟩
 ·rw[show (i+1).toNat=i.toNat+1 by omega,List.take_add_one,List.take_add_one,he,hx,hy,hc]
 ·subst h;rw[hx] at hy;cases hy;exact absurd rfl hc
 ·rwa [List.take_of_length_le (by omega),List.take_of_length_le (by omega)] at he
theorem z6b{l:List ByteArray}{s:ByteArray}{K:Bool->Prop}(h: ∀r,(r=true↔s∈l)->K r):R1 l s K:=by
 unfold R1
 refine Lp1.ind (fun (i:Int)=>0<=i/\i<=l.length/\s∉l.take i.toNat) (fun (i:Int)=>(l.length - i).toNat) ?_ ⟨by omega,by omega,by simp⟩
 rintro i ⟨i0,i1,he⟩ _
 refine Cnd.mk (fun hc=>⟨by omega,fun x hx=>Cnd.mk (fun e=>h _ ⟨fun _=>e▸getm hx,fun _=>rfl⟩) fun e=>⟨by unfold InI;omega,⟨by omega,by omega,?_⟩,by omega⟩⟩) fun hc=>h _ ⟨fun h=>(by cases h),fun hm=> ?_⟩
 ·rw[show (i+1).toNat=i.toNat+1 by omega,List.take_add_one,hx];simp[he,Ne.symm e]
 ·rw[List.take_of_length_le (by omega)] at he;exact absurd hm he
theorem j9n{a b:Val}{K:Bool->Prop}(h: ∀r,(r=true↔a=b)->K r):q3x a b K:=by
 unfold q3x z61
 have no:(a≠b)->K false:=fun hn=>h _ ⟨fun h=>(by cases h),fun e=>absurd e hn⟩
 refine Cnd.mk (fun h1=>Cnd.mk (fun h2=>Cnd.mk (fun h3=>v5a fun r hr=>h r (hr.trans ⟨fun h4=> ?_,fun e=>by rw[e]⟩)) fun h=>no fun e=>h (by rw[e])) fun h=>no fun e=>h (by rw[e])) fun h=>no fun e=>h (by rw[e])
 cases a;cases b;simp_all
theorem j5x{a b:List Val}{K:Bool->Prop}(h: ∀r,(r=true↔a=b)->K r):Z0 a b K:=by
 unfold Z0 q1u
 intro ha hb
 exact Cnd.mk (fun hl=>w2n (by omega) (fun x _ y _ K hK=>j9n hK) h) fun hl=>h _ ⟨fun h=>(by cases h),fun e=>by rw[e] at hl;exact absurd rfl hl⟩
theorem Ju{e:Ex}:Ex.mk e.op e.kind e.name e.values e.kids=e:=by cases e;rfl
theorem w03: ∀(n:Nat) {a b:Ex} {K:Bool->Prop},ExS n a->(∀r,(r=true↔a=b)->K r)->Jx a b K:=by
 intro n a b K ha h X hX
 induction n using Nat.strongRecOn generalizing a b K with
 |_ n ih=>
 refine hX _ _ _ ?_
 unfold Gk
 have no:(a≠b)->K false:=fun hn=>h _ ⟨fun h=>(by cases h),fun e=>absurd e hn⟩
 refine Cnd.mk (fun h1=>Cnd.mk (fun h2=>Cnd.mk (fun h3=>j5x fun r hr=>Cnd.mk (fun hc _ _=>Cnd.mk (fun hl=> ?_) fun h=>no fun e=>h (by rw[e])) fun hc=>no fun e=>hc (hr.2 (by rw[e]))) fun h=>no fun e=>h (by rw[e])) fun h=>no fun e=>h (by rw[e])) fun h=>no fun e=>h (by rw[e])
 have h4:=hr.1 hc
 refine w2n (by omega) (fun x hx y _ K hK=> ?_) fun r hr=>h r (hr.trans ⟨fun h5=> ?_,fun e=>by rw[e]⟩)
 ·obtain⟨m,hm,hk⟩:=ha.kid hx
  rw[Ju,Ju]
  exact ih m (by omega) hk hK
 ·cases a;cases b;simp_all
theorem j9o(n:Nat){a b:Ex}{K:Bool->Prop}(ha:ExS n a)(h: ∀r,(r=true↔a=b)->K r):Jx (Ex.mk a.1 a.2 a.3 a.4 a.5) (Ex.mk b.1 b.2 b.3 b.4 b.5) K:=by
 rw[Ju,Ju];exact w03 n ha h
theorem j4t{n:Nat}{l:List Ex}{e:Ex}{K:Int->Prop}(hl: ∀x∈l,ExS n x)(h: ∀r:Int,(r= -1/\e∉l)∨(0<=r/\l[r.toNat]? =some e/\e∉l.take r.toNat)->K r):Zt l e K:=by
 unfold Zt z2k
 refine Lp1.ind (fun (i:Int)=>0<=i/\i<=l.length/\e∉l.take i.toNat) (fun (i:Int)=>(l.length - i).toNat) ?_ ⟨by omega,by omega,by simp⟩
 rintro i ⟨i0,i1,he⟩ _
 refine Cnd.mk (fun hc=>⟨by omega,fun x hx=>j9o n (hl x (getm hx)) fun r hr=>Cnd.mk (fun hc=>h _ (.inr ⟨i0,by rw[hx,hr.1 hc],he⟩)) fun hc=>⟨by unfold InI;omega,⟨by omega,by omega,?_⟩,by omega⟩⟩) fun hc=>h _ (.inl ⟨rfl,?_⟩)
 ·rw[show (i+1).toNat=i.toNat+1 by omega,List.take_add_one,hx]
  have:e≠x:=fun e=>hc (hr.2 e.symm)
  simp[he,this]
 ·rwa [List.take_of_length_le (by omega)] at he
theorem q5w{op:Int}{K:Bool->Prop}(h: ∀r,(r=true↔6<=op/\op<=15)->K r):Zg op K:=by
 unfold Zg
 exact Cnd.mk (fun h6=>h _ ⟨fun a=>⟨h6,of_decide_eq_true a⟩,fun a=>decide_eq_true a.2⟩) fun h6=>h _ ⟨fun a=>(by cases a),fun a=>absurd a.1 h6⟩
theorem v0y{now:Int}{K:Bool->Prop}(h: ∀r,(r=true↔0<=now/\now<=1099511627776)->K r):z63 now K:=by
 unfold z63
 exact Cnd.mk (fun h6=>h _ ⟨fun a=>⟨h6,of_decide_eq_true a⟩,fun a=>decide_eq_true a.2⟩) fun h6=>h _ ⟨fun a=>(by cases a),fun a=>absurd a.1 h6⟩
theorem w77{α:Type}{l:List α}{f:α->ByteArray}{key:ByteArray}{K:Int->Prop}(h: ∀r:Int,(r= -1/\ ∀x∈l,f x≠key)∨(0<=r/\r<l.length/\(∃x,l[r.toNat]? =some x/\f x=key)/\ ∀x∈l.take r.toNat,f x≠key)->K r):
  Lp1 (fun i Y=>l.length<=9223372036854775807->Cnd (i<(l.length:Int)) ((0<=i/\i<(l.length:Int))/\ ∀y,l[i.toNat]? =some y->Cnd (f y=key) (K i) (InI (i+1)/\Y (i+1))) (K (-1))) 0:=by
 refine Lp1.ind (fun (i:Int)=>0<=i/\i<=l.length/\ ∀x∈l.take i.toNat,f x≠key) (fun (i:Int)=>(l.length - i).toNat) ?_ ⟨by omega,by omega,by simp⟩
 rintro i ⟨i0,i1,he⟩ _
 refine Cnd.mk (fun hc=>⟨by omega,fun x hx=>Cnd.mk (fun e=>h _ (.inr ⟨i0,hc,⟨x,hx,e⟩,he⟩)) fun e=>⟨by unfold InI;omega,⟨by omega,by omega,?_⟩,by omega⟩⟩) fun hc=>h _ (.inl ⟨rfl,?_⟩)
 ·rw[show (i+1).toNat=i.toNat+1 by omega,List.take_add_one,hx]
  exact J3 he e
 ·rwa [List.take_of_length_le (by omega)] at he
def PlcS{α:Type}(l:List α)(f:α->ByteArray)(key:ByteArray)(r:Int):Prop:=(r= -1/\ ∀x∈l,f x≠key)∨(0<=r/\r<l.length/\(∃x,l[r.toNat]? =some x/\f x=key)/\ ∀x∈l.take r.toNat,f x≠key)
theorem q44{v:Envt}{key:ByteArray}{K:Int->Prop}(h: ∀r,PlcS v.layers Lay_.key key r->K r):q1w v key K:=w77 h
theorem q7g{v:Envt}{key:ByteArray}{K:Int->Prop}(h: ∀r,PlcS v.flags Flg.key key r->K r):q9y v key K:=w77 h
theorem q4p{l:List Spn}{K:List Bool->Prop}(h: ∀b:List Bool,b.length=10000->K b):q1z l K:=by
 unfold q1z
 refine⟨⟨by decide,Int.le_refl _,by unfold Sml;decide⟩,Lp2.ind (fun (i:Int) (b:List Bool)=>0<=i/\i<=l.length/\b.length=10000) (fun (i:Int) _=>(l.length - i).toNat) ?_ ⟨by omega,by omega,by rw[List.length_replicate];decide⟩⟩
 rintro i b ⟨i0,i1,hb⟩ _
 refine Cnd.mk (fun hc=>⟨by omega,fun y hy=> ?_⟩) fun _=>h b hb
 refine Lp2.ind (fun (j:Int) (b:List Bool)=>0<=j/\b.length=10000) (fun (j:Int) _=>(10000 - j).toNat) ?_ ⟨by omega,hb⟩
 rintro j b ⟨j0,hb⟩
 refine⟨by omega,fun z hz=>Cnd.mk (fun hc=>⟨by omega,fun u hu=>⟨by unfold InI;omega,⟨by omega,by simpa using hb⟩,by omega⟩⟩) fun _=>⟨by unfold InI;omega,⟨by omega,by omega,hb⟩,by omega⟩⟩
theorem q5x{b:List Bool}{K:List Spn->Prop}(hb:b.length<=10000)(h: ∀l,SpsS l->K l):Uq b K:=by
 unfold Uq
 refine Lp2.ind (fun (l:List Spn) (i:Int)=>0<=i/\i<=b.length/\l.length<=i/\(∀s∈l,0<=s.lo/\s.lo<s.hi/\s.hi<=i)/\(0<i->b[(i - 1).toNat]? =some true->l≠[])) (fun _ (i:Int)=>(b.length - i).toNat) ?_ ⟨by omega,by omega,by simp,by simp,by omega⟩
 rintro l i ⟨i0,i1,hl,hs,hn⟩ _
 refine Cnd.mk (fun hc=>⟨by omega,fun y hy=>Cnd.mk (fun ht=> ?_) fun hf=> ?_⟩) fun _=>h l ⟨by omega,fun s hm=>by have:=hs s hm;omega⟩
 ·have snoc:InI (i+1)/\Sml (l++[Spn.mk i (i+1)]).length/\InI (i+1)/\((0<=i+1/\i+1<=b.length/\((l++[Spn.mk i (i+1)]).length:Int)<=i+1/\(∀s∈l++[Spn.mk i (i+1)],0<=s.lo/\s.lo<s.hi/\s.hi<=i+1)/\(0<i+1->b[(i+1 - 1).toNat]? =some true->l++[Spn.mk i (i+1)]≠[]))/\(b.length - (i+1)).toNat<(b.length - i).toNat):=
   ⟨by unfold InI;omega,by unfold Sml;simp;omega,by unfold InI;omega,⟨by omega,by omega,by simp;omega,J3 (fun s hm=>by have:=hs s hm;omega) ⟨i0,by simp only;omega,by simp⟩,fun _ _=>by simp⟩,by omega⟩
  refine Cnd.mk (fun hp=>⟨by unfold InI;omega,by omega,fun z hz=>Cnd.mk (fun hz1=> ?_) fun _=>snoc⟩) fun _=>snoc
  have hne:=hn hp (by rw[hz,hz1])
  have hpos:0<l.length:=List.length_pos_iff.2 hne
  refine fun _=>⟨by unfold InI;omega,by unfold InI;omega,by omega,fun u hu=>⟨by unfold InI;omega,⟨by omega,by omega,by simp;omega,fun s hm=> ?_,fun _ _ hx=> ?_⟩,by omega⟩⟩
  ·have:=hs u (getm hu)
   rcases List.mem_or_eq_of_mem_set hm with hm|rfl
   ·have:=hs s hm;omega
   ·exact⟨this.1,by simp only;omega,by simp⟩
  ·exact hne (by rw[←List.length_eq_zero_iff] at hx⊢;simpa using hx)
 ·refine⟨by unfold InI;omega,⟨by omega,by omega,by omega,fun s hm=>by have:=hs s hm;omega,fun _ hx=> ?_⟩,by omega⟩
  rw[show (i+1 - 1).toNat=i.toNat by omega,hy] at hx
  cases hx;exact absurd rfl hf
theorem z4p{l:List Col}{now:Int}{K:List Int->Prop}(h: ∀b:List Int,b.length=10000->K b):q1y l now K:=by
 unfold q1y
 refine⟨⟨by decide,Int.le_refl _,by unfold Sml;decide⟩,Lp2.ind (fun (i:Int) (b:List Int)=>0<=i/\i<=10000/\b.length=10000) (fun (i:Int) _=>(10000 - i).toNat) ?_ ⟨by omega,by omega,by rw[List.length_replicate];decide⟩⟩
 rintro i b ⟨i0,i1,hb⟩ _
 refine Cnd.mk (fun hc=>⟨by omega,fun y hy=>⟨by unfold InI;omega,⟨by omega,by omega,by simpa using hb⟩,by omega⟩⟩) fun _=> ?_
 refine Lp2.ind (fun (i:Int) (b:List Int)=>0<=i/\i<=l.length/\b.length=10000) (fun (i:Int) _=>(l.length - i).toNat) ?_ ⟨by omega,by omega,hb⟩
 rintro i b ⟨i0,i1,hb⟩ _
 refine Cnd.mk (fun hc=>⟨by omega,fun y hy=> ?_⟩) fun _=>h b hb
 refine Lp2.ind (fun (j:Int) (b:List Int)=>0<=j/\b.length=10000) (fun (j:Int) _=>(10000 - j).toNat) ?_ ⟨by omega,hb⟩
 rintro j b ⟨j0,hb⟩
 refine⟨by omega,fun z hz=>Cnd.mk (fun hc=>⟨by omega,fun u hu=>⟨by omega,fun w hw=>⟨by omega,fun x hx=>⟨by unfold InI;omega,⟨by omega,by simpa using hb⟩,by omega⟩⟩⟩⟩) fun _=>⟨by unfold InI;omega,⟨by omega,by omega,hb⟩,by omega⟩⟩
theorem z6c{u:List Int}{now:Int}{K:List Spn->Prop}(hu:u.length<=10000)(h: ∀l,SpsS l->K l):z2m u now K:=by
 unfold z2m z84
 refine fun _=>⟨⟨by omega,Int.le_refl _,by unfold Sml;omega⟩,Lp2.ind (fun (i:Int) (b:List Bool)=>0<=i/\i<=u.length/\b.length=u.length) (fun (i:Int) _=>(u.length - i).toNat) ?_ ⟨by omega,by omega,by simp⟩⟩
 rintro i b ⟨i0,i1,hb⟩ _
 exact Cnd.mk (fun hc=>⟨by omega,fun y hy=>⟨by omega,fun z hz=>⟨by unfold InI;omega,⟨by omega,by omega,by simpa using hb⟩,by omega⟩⟩⟩) fun _=>q5x (by omega) h
theorem z0a{a b:List Spn}{K:List Spn->Prop}(h: ∀l,SpsS l->K l):z2n a b K:=by
 unfold z2n z86
 refine q4p fun x hx=>q4p fun y hy=>Lp2.ind (fun (i:Int) (b:List Bool)=>0<=i/\i<=10000/\b.length=10000) (fun (i:Int) _=>(10000 - i).toNat) ?_ ⟨by omega,by omega,hx⟩
 rintro i b ⟨i0,i1,hb⟩ _
 exact Cnd.mk (fun hc=>⟨by omega,fun y hy=>Cnd.mk (fun _=>⟨by omega,fun _ _=>⟨by unfold InI;omega,⟨by omega,by omega,by simpa using hb⟩,by omega⟩⟩) fun _=>⟨by omega,fun _ _=>⟨by omega,fun _ _=>⟨by unfold InI;omega,⟨by omega,by omega,by simpa using hb⟩,by omega⟩⟩⟩⟩) fun _=>q5x (by omega) h
theorem j4u{a b:List Spn}{K:List Spn->Prop}(h: ∀l,SpsS l->K l):q8j a b K:=by
 unfold q8j z88
 refine q4p fun x hx=>q4p fun y hy=>Lp2.ind (fun (i:Int) (b:List Bool)=>0<=i/\i<=10000/\b.length=10000) (fun (i:Int) _=>(10000 - i).toNat) ?_ ⟨by omega,by omega,hx⟩
 rintro i b ⟨i0,i1,hb⟩ _
 exact Cnd.mk (fun hc=>⟨by omega,fun y hy=>Cnd.mk (fun _=>⟨by omega,fun _ _=>⟨by omega,fun _ _=>⟨by unfold InI;omega,⟨by omega,by omega,by simpa using hb⟩,by omega⟩⟩⟩) fun _=>⟨by omega,fun _ _=>⟨by unfold InI;omega,⟨by omega,by omega,by simpa using hb⟩,by omega⟩⟩⟩) fun _=>q5x (by omega) h
theorem w5b{a b:List Spn}{K:List Spn->Prop}(h: ∀l,SpsS l->K l):q1j a b K:=by
 unfold q1j q9z
 refine q4p fun x hx=>q4p fun y hy=>Lp2.ind (fun (i:Int) (b:List Bool)=>0<=i/\i<=10000/\b.length=10000) (fun (i:Int) _=>(10000 - i).toNat) ?_ ⟨by omega,by omega,hx⟩
 rintro i b ⟨i0,i1,hb⟩ _
 exact Cnd.mk (fun hc=>⟨by omega,fun y hy=>Cnd.mk (fun _=>⟨by omega,fun _ _=>⟨by omega,fun _ _=>⟨by unfold InI;omega,⟨by omega,by omega,by simpa using hb⟩,by omega⟩⟩⟩) fun _=>⟨by omega,fun _ _=>⟨by unfold InI;omega,⟨by omega,by omega,by simpa using hb⟩,by omega⟩⟩⟩) fun _=>q5x (by omega) h
theorem w78{a:List Spn}{n:Int}{K:List Spn->Prop}(hn: -1000000<=n/\n<=1000000)(h: ∀l,SpsS l->K l):z2p a n K:=by
 unfold z2p z89
 refine q4p fun x hx=>Lp3.ind (fun (m i:Int) (b:List Bool)=>0<=i/\i<=10000/\b.length=10000/\ -1000000 - i<=m/\m<=1000000) (fun _ (i:Int) _=>(10000 - i).toNat) ?_ ⟨by omega,by omega,hx,by omega,by omega⟩
 rintro m i b ⟨i0,i1,hb,m0,m1⟩ _
 refine Cnd.mk (fun hc=>⟨by omega,fun y hy=> ?_⟩) fun _=>q5x (by omega) h
 have step:(0<=i/\i<(b.length:Int))/\ ∀y5,b[i.toNat]? =some y5->Cnd (y5=true) (InI (m - 1)/\InI (i+1)/\((0<=i+1/\i+1<=10000/\b.length=10000/\ -1000000 - (i+1)<=m - 1/\m - 1<=1000000)/\(10000 - (i+1)).toNat<(10000 - i).toNat)) (InI (i+1)/\((0<=i+1/\i+1<=10000/\b.length=10000/\ -1000000 - (i+1)<=m/\m<=1000000)/\(10000 - (i+1)).toNat<(10000 - i).toNat)):=
  ⟨by omega,fun _ _=>Cnd.mk (fun _=>⟨by unfold InI;omega,by unfold InI;omega,by omega,by omega⟩) fun _=>⟨by unfold InI;omega,by omega,by omega⟩⟩
 exact Cnd.mk (fun _=>Cnd.mk (fun _=>⟨by omega,fun _ _=>⟨by unfold InI;omega,⟨by omega,by omega,by simpa using hb,by omega,by omega⟩,by omega⟩⟩) fun _=>step) fun _=>step
theorem y6t(n:Int):0<=Go.IntKind.u8.wrap n/\Go.IntKind.u8.wrap n<=255:=by
 have e:Go.IntKind.u8.wrap n=n % 256:=rfl
 rw[e];omega
theorem v5b{s:ByteArray}{K:Bool->Prop}(hs:s.size<=1000)(h: ∀r,K r):z1k s K:=by
 unfold z1k
 refine Lp1.ind (fun (i:Int)=>0<=i/\i<=s.size) (fun (i:Int)=>(s.size - i).toNat) ?_ ⟨by omega,by omega⟩
 rintro i ⟨i0,i1⟩
 (repeat' (first|exact h _|assumption|(unfold InI;omega)|omega|refine Cnd.mk (fun _=> ?_) fun _=> ?_|refine⟨?_,?_⟩|intro _))
theorem v5c{e:Ex}{K:Bool->Prop}(h: ∀r,K r):z1l e K:=by
 unfold z1l
 (repeat' (first|exact h _|assumption|(unfold InI;omega)|omega|refine Cnd.mk (fun _=> ?_) fun _=> ?_|refine⟨?_,?_⟩|intro _))
theorem w79{e:Ex}{K:Bool->Prop}(h: ∀r:Bool,(r=true->9<=e.op->e.op<=11->e.values≠[])->K r):q30 e K:=by
 unfold q30 z2q
 intro _ _
 refine Jn2.mk (fun _ v=>v=true->9<=e.op->e.op<=11->e.values.length=1) ?_ fun k v hv=> ?_
 ·refine Cnd.mk (fun _ _ _ _ _=>by omega) fun _=>Cnd.mk (fun _ _ _ _ _=>by omega) fun _=>Cnd.mk (fun _ _ _ _ _=>by omega) fun _=>Cnd.mk (fun _ _ _ _ _=>by omega) fun _=>q5w fun r hr=>Cnd.mk (fun _=>Cnd.mk (fun _ _ _ _=>by omega) fun _ _ hd _ _=>by have:=of_decide_eq_true hd;omega) fun hc _ h1 h2=>absurd (hr.2 ⟨by omega,by omega⟩) hc
 ·have no:K false:=h _ fun h=>by cases h
  refine q5w fun r _=>Cnd.mk (fun _=>Cnd.mk (fun hv'=> ?_) fun _=>no) fun _=>no
  have yes: ∀r,K r:=fun r=>h r fun _ h1 h2 hn=>by have:=hv hv' h1 h2;rw[hn] at this;cases this
  (repeat' (first|exact yes _|exact no|assumption|(unfold InI;omega)|omega|refine Cnd.mk (fun _=> ?_) fun _=> ?_|refine⟨?_,?_⟩|intro _))
theorem v0z{v:Val}{K:Bool->Prop}(h: ∀r,K r):q7y v K:=by
 unfold q7y
 (repeat' (first|exact h _|assumption|(unfold InI;omega)|omega|refine Cnd.mk (fun _=> ?_) fun _=> ?_|refine⟨?_,?_⟩|intro _))
theorem j9p{l:List Rng}{n:Int}{K:Int->Prop}(h: ∀r,0<=r->r<=100->K r):q33 l n K:=by
 unfold q33
 intro _
 refine Cnd.mk (fun _=>h _ (by omega) (by omega)) fun _=> ?_
 refine Lp2.ind (fun _ (i:Int)=>0<=i/\i<=l.length) (fun _ (i:Int)=>(l.length - i).toNat) ?_ ⟨by omega,by omega⟩
 rintro a i ⟨i0,i1⟩
 (repeat' (first|exact h _ (by omega) (by omega)|assumption|(unfold InI;omega)|omega|refine Cnd.mk (fun _=> ?_) fun _=> ?_|refine⟨?_,?_⟩|intro _))
theorem v00{l:List Spn}{K:Int->Prop}(h: ∀r,0<=r->r<=100->K r):q74 l K:=by
 unfold q74
 intro _
 refine Cnd.mk (fun _=>h _ (by omega) (by omega)) fun _=> ?_
 refine Lp1.ind (fun (i:Int)=>0<=i/\i<=l.length) (fun (i:Int)=>(l.length - i).toNat) ?_ ⟨by omega,by omega⟩
 rintro i ⟨i0,i1⟩
 (repeat' (first|exact h _ (by omega) (by omega)|assumption|(unfold InI;omega)|omega|refine Cnd.mk (fun _=> ?_) fun _=> ?_|refine⟨?_,?_⟩|intro _))
theorem w8a{α:Type}{l:List α}{f:α->ByteArray}{K:List ByteArray->Prop}(hl:l.length<=1000000)(h:K (l.map f)):
  Lp2 (fun (r:List ByteArray) (i:Int) Y=>l.length<=9223372036854775807->Cnd (i<(l.length:Int)) ((0<=i/\i<(l.length:Int))/\ ∀y,l[i.toNat]? =some y->Sml (r++[f y]).length/\InI (i+1)/\Y (r++[f y]) (i+1)) (K r)) [] 0:=by
 refine Lp2.ind (fun (r:List ByteArray) (i:Int)=>0<=i/\i<=l.length/\r=(l.take i.toNat).map f) (fun _ (i:Int)=>(l.length - i).toNat) ?_ ⟨Int.le_refl 0,by omega,by simp⟩
 rintro r i ⟨i0,i1,rfl⟩ _
 refine Cnd.mk (fun hc=>⟨by omega,fun y hy=>⟨by unfold Sml;simp;omega,by unfold InI;omega,⟨by omega,by omega,?_⟩,by omega⟩⟩) fun hc=> ?_
 ·rw[show (i+1).toNat=i.toNat+1 by omega,List.take_add_one,hy];simp
 ·rw[List.take_of_length_le (by omega)];exact h
theorem q4q{l:List Seg}{K:List ByteArray->Prop}(hl:l.length<=1000000)(h:K (l.map Seg.key)):z1r l K:=w8a hl h
theorem y2o{i:Nat}:(29:Int)*10 ^ (i+1)=10*(29*10 ^ i):=by rw[Int.pow_succ];omega
theorem j36{s:ByteArray}{K:Int->Int->Prop}(hs:s.size<=1000)(h: ∀n e,InI n->0<=e->e<=100->K n e):Vx s K:=by
 unfold Vx
 refine Jn1.mk (fun d=>d.size<=1000) ?_ fun d hd=> ?_
 ·(repeat' (first|(show (s.extract _ _).size<=1000;rw[ByteArray.size_extract];omega)|assumption|(unfold InI;omega)|omega|refine Cnd.mk (fun _=> ?_) fun _=> ?_|refine⟨?_,?_⟩|intro _))
 refine Lp1.ind (fun (i:Int)=>0<=i/\i<=d.size) (fun (i:Int)=>(d.size - i).toNat) ?_ ⟨by omega,by omega⟩
 rintro i ⟨i0,i1⟩
 have fin:d.size<=13->Lp2 (fun (Qu Wd:Int) v3i=>Cnd (Wd<(↑d.size:Int)) (InI ((10:Int)*Qu)/\((0:Int)<=Wd/\Wd<(↑d.size:Int))/\ ∀b5,d[Wd.toNat]? =some b5->InI (Go.IntKind.u8.wrap ((↑b5.toNat:Int) - (48:Int)))/\InI ((10:Int)*Qu+Go.IntKind.u8.wrap ((↑b5.toNat:Int) - (48:Int)))/\InI (Wd+(1:Int))/\v3i ((10:Int)*Qu+Go.IntKind.u8.wrap ((↑b5.toNat:Int) - (48:Int))) (Wd+(1:Int))) (Cnd ((1099511627776:Int)<Qu) (K (0:Int) (3:Int)) (Cnd ((↑d.size:Int)<(↑s.size:Int)) (InI ((0:Int) - Qu)/\K ((0:Int) - Qu) (0:Int)) (K Qu (0:Int))))) (0:Int) (0:Int):=fun h13=>by
  refine Lp2.ind (fun (n j:Int)=>0<=j/\j<=d.size/\0<=n/\n+29<=29*10 ^ j.toNat) (fun _ (j:Int)=>(d.size - j).toNat) ?_ ⟨by omega,by omega,by omega,by simp⟩
  rintro n j ⟨j0,j1,n0,n1⟩
  have hp:(10:Int) ^ j.toNat<=10 ^ 13:=by
   have:=Nat.pow_le_pow_right (n:=10) (by decide) (show j.toNat<=13 by omega)
   exact_mod_cast this
  refine Cnd.mk (fun hc=>⟨by unfold InI;omega,by omega,fun b _=> ?_⟩) fun hc=> ?_
  ·obtain⟨w0,w1⟩:=y6t ((b.toNat:Int) - 48)
   refine⟨by unfold InI;omega,by unfold InI;omega,by unfold InI;omega,⟨by omega,by omega,by omega,?_⟩,by omega⟩
   rw[show (j+1).toNat=j.toNat+1 by omega,y2o];omega
  ·exact Cnd.mk (fun _=>h _ _ (by unfold InI;omega) (by omega) (by omega)) fun _=>Cnd.mk (fun _=>⟨by unfold InI;omega,h _ _ (by unfold InI;omega) (by omega) (by omega)⟩) fun _=>h _ _ (by unfold InI;omega) (by omega) (by omega)
 have k1:=h 0 1 (by unfold InI;omega) (by omega) (by omega)
 have k3:=h 0 3 (by unfold InI;omega) (by omega) (by omega)
 refine Cnd.mk (fun hc=>⟨by omega,fun b hb=>Cnd.mk (fun _=>k1) fun _=>⟨by omega,fun b' hb'=>Cnd.mk (fun _=>k1) fun _=>⟨by unfold InI;omega,by omega,by omega⟩⟩⟩) fun _=> ?_
 refine Cnd.mk (fun _=>k1) fun he=>⟨⟨by omega,?_⟩,fun b hb=>Cnd.mk (fun _=>Cnd.mk (fun _=>Cnd.mk (fun _=>k3) fun _=>fin (by omega)) fun _=>k1) fun _=>Cnd.mk (fun _=>k3) fun _=>fin (by omega)⟩
 refine Int.not_le.1 fun hn=>he ?_
 have:d.size=0:=by omega
 exact ByteArray.ext (Array.eq_empty_of_size_eq_zero this)
theorem v5d{t:Int}{e:Ex}{K:Bool->Prop}(h: ∀r,K r):G9 t e K:=by
 unfold G9
 refine Cnd.mk (fun _=>h _) fun _=>Cnd.mk (fun _=> ?_) fun _ _=>Cnd.mk (fun _=>h _) fun _=>⟨by omega,fun y hy=>Cnd.mk (fun _=>h _) fun _=>Jn1.mk (fun _=>True) ?_ fun x _=> ?_⟩
 ·refine Lp1.ind (fun (i:Int)=>0<=i/\i<=e.values.length) (fun (i:Int)=>(e.values.length - i).toNat) ?_ ⟨by omega,by omega⟩
  rintro i ⟨i0,i1⟩
  (repeat' (first|exact h _|assumption|(unfold InI;omega)|omega|refine Cnd.mk (fun _=> ?_) fun _=> ?_|refine⟨?_,?_⟩|intro _))
 ·(repeat' (first|exact trivial|assumption|(unfold InI;omega)|omega|refine Cnd.mk (fun _=> ?_) fun _=> ?_|refine⟨?_,?_⟩|intro _))
 ·(repeat' (first|exact h _|assumption|(unfold InI;omega)|omega|refine Cnd.mk (fun _=> ?_) fun _=> ?_|refine⟨?_,?_⟩|intro _))
theorem z6d{v:Envt}{K:List ByteArray->Prop}(hl:v.flags.length<=1000000)(h:K (v.flags.map Flg.key)):z0r v K:=w8a hl h
def q4r(f:Flg):List Edg:=f.needs.map fun q=>Edg.mk f.key q.flag
theorem z4q{v:Envt}{K:List Edg->Prop}(hl:v.flags.length<=1000)(hn: ∀f∈v.flags,f.needs.length<=1000)(h:K (v.flags.flatMap q4r)):q2b v K:=by
 unfold q2b
 have hb: ∀l:List Flg,(∀f∈l,f.needs.length<=1000)->(l.flatMap q4r).length<=1000*l.length:=by
  intro l
  induction l with
  |nil=>simp
  |cons f l ih=>intro hf;have h1:=hf f (by simp);have h2:=ih fun g hg=>hf g (by simp[hg]);simp only[List.flatMap_cons,List.length_append,q4r,List.length_map,List.length_cons] at*;omega
 refine Lp2.ind (fun (r:List Edg) (i:Int)=>0<=i/\i<=v.flags.length/\r=(v.flags.take i.toNat).flatMap q4r) (fun _ (i:Int)=>(v.flags.length - i).toNat) ?_ ⟨Int.le_refl 0,by omega,by simp⟩
 rintro r i ⟨i0,i1,rfl⟩ _
 refine Cnd.mk (fun hc=> ?_) fun hc=> ?_
 ·obtain⟨f,hf⟩: ∃f,v.flags[i.toNat]? =some f:=⟨_,List.getElem?_eq_getElem (by omega)⟩
  have hfn:=hn f (getm hf)
  have hbt:=hb (v.flags.take i.toNat) fun g hg=>hn g (List.mem_of_mem_take hg)
  rw[List.length_take] at hbt
  refine Lp2.ind (fun (r:List Edg) (j:Int)=>0<=j/\j<=f.needs.length/\r=(v.flags.take i.toNat).flatMap q4r++(f.needs.take j.toNat).map fun q=>Edg.mk f.key q.flag) (fun _ (j:Int)=>(f.needs.length - j).toNat) ?_ ⟨by omega,by omega,by simp⟩
  rintro r j ⟨j0,j1,rfl⟩
  refine⟨by omega,fun g hg=> ?_⟩
  rw[hf] at hg;cases hg
  refine fun _=>Cnd.mk (fun hc=>⟨by omega,fun g hg=> ?_⟩) fun hc=>⟨by unfold InI;omega,⟨by omega,by omega,?_⟩,by omega⟩
  ·rw[hf] at hg;cases hg
   refine⟨by omega,fun g hg=> ?_⟩
   rw[hf] at hg;cases hg
   refine⟨by omega,fun q hq=>⟨?_,by unfold InI;omega,⟨by omega,by omega,?_⟩,by omega⟩⟩
   ·unfold Sml;simp only[List.length_append,List.length_map,List.length_take,List.length_cons,List.length_nil];omega
   ·rw[show (j+1).toNat=j.toNat+1 by omega,List.take_add_one,hq];simp
  ·rw[List.take_of_length_le (show f.needs.length<=j.toNat by omega),show (i+1).toNat=i.toNat+1 by omega,List.take_add_one,hf];simp[q4r]
 ·rw[List.take_of_length_le (by omega)];exact h
end Go.En
end
noncomputable section
set_option maxRecDepth 100000
namespace Go.Sg
open Go
abbrev bts(s:ByteArray):List UInt8:=s.data.toList
theorem z93(s:ByteArray):(bts s).length=s.size:=rfl
theorem j9q{s:ByteArray}{i:Nat}{b:UInt8}:s[i]? =some b↔(bts s)[i]? =some b:=by
 rw[show s[i]? =s.data[i]? from by
  by_cases h:i<s.size
  ·rw[getElem?_pos s i h,getElem?_pos s.data i h];rfl
  ·rw[getElem?_neg s i h,getElem?_neg s.data i h]]
 rw[Array.getElem?_toList]
theorem get!_of{s:ByteArray}{i:Nat}(h:i<s.size):(bts s)[i]? =some (s.get! i):=by
 have h':i<s.data.size:=h
 show s.data.toList[i]? =some (s.data[i]!)
 rw[Array.getElem?_toList,Array.getElem?_eq_getElem h',getElem!_pos s.data i h']
theorem v86{s:ByteArray}{i:Nat}(h:(s.get! i).toNat<128):Utf8.decode s i=((s.get! i).toNat,1):=by
 unfold Utf8.decode
 simp only[Nat.add_zero]
 rw[if_pos h]
theorem v87{s:ByteArray}{i:Nat}(h:128<=(s.get! i).toNat):128<=(Utf8.decode s i).1/\1<=(Utf8.decode s i).2/\ ∀k,k<(Utf8.decode s i).2->128<=(s.get! (i+k)).toNat:=by
 have k1: ∀k,k<1->128<=(s.get! (i+k)).toNat:=fun k hk=>by rw[show k=0 by omega];exact h
 have bad:128<=(Utf8.runeError,1).1/\1<=(Utf8.runeError,1).2/\ ∀k,k<(Utf8.runeError,1).2->128<=(s.get! (i+k)).toNat:=⟨by decide,by decide,k1⟩
 unfold Utf8.decode
 simp only[Nat.add_zero]
 rw[if_neg (by omega)]
 split
 ·rename_i hc
  simp only[Bool.and_eq_true,beq_iff_eq,decide_eq_true_eq] at hc
  split
  ·rename_i h2
   refine⟨h2,by simp,fun k hk=> ?_⟩
   have:k=0∨k=1:=by simp only at hk;omega
   rcases this with rfl|rfl
   ·exact h
   ·omega
  ·exact bad
 ·split
  ·rename_i _ hc
   simp only[Bool.and_eq_true,beq_iff_eq,decide_eq_true_eq] at hc
   split
   ·rename_i h2
    simp only[Bool.and_eq_true,decide_eq_true_eq] at h2
    refine⟨by simp only;omega,by simp,fun k hk=> ?_⟩
    have:k=0∨k=1∨k=2:=by simp only at hk;omega
    rcases this with rfl|rfl|rfl
    ·exact h
    ·omega
    ·omega
   ·exact bad
  ·split
   ·rename_i _ _ hc
    simp only[Bool.and_eq_true,beq_iff_eq,decide_eq_true_eq] at hc
    split
    ·rename_i h2
     simp only[Bool.and_eq_true,decide_eq_true_eq] at h2
     refine⟨by simp only;omega,by simp,fun k hk=> ?_⟩
     have:k=0∨k=1∨k=2∨k=3:=by simp only at hk;omega
     rcases this with rfl|rfl|rfl|rfl
     ·exact h
     ·omega
     ·omega
     ·omega
    ·exact bad
   ·exact bad
structure RuneP(p:Nat->Prop):Prop where
 hi: ∀n,128<=n->(p n↔p 128)
def Clr(p:Nat->Prop)(s:ByteArray)(k:Nat):Prop:= ∀i,i<k->i<s.size-> ¬p (s.get! i).toNat
theorem Clr.zero{p:Nat->Prop}{s:ByteArray}:Clr p s 0:=fun _ h=>absurd h (Nat.not_lt_zero _)
theorem v88(s:ByteArray)(k:Nat):1<=(Utf8.decode s k).2:=by
 rcases Nat.lt_or_ge (s.get! k).toNat 128 with h|h
 ·rw[v86 h];exact Nat.le_refl 1
 ·exact (v87 h).2.1
theorem Clr.step{p:Nat->Prop}(hp:RuneP p){s:ByteArray}{k:Nat}(h:Clr p s k)(hk: ¬p (Utf8.decode s k).1):Clr p s (k+(Utf8.decode s k).2):=by
 intro i hi hs
 rcases Nat.lt_or_ge i k with h1|h1
 ·exact h i h1 hs
 rcases Nat.lt_or_ge (s.get! k).toNat 128 with h2|h2
 ·rw[v86 h2] at hk hi
  simp only at hk hi
  rw[show i=k by omega];exact hk
 ·obtain⟨a,_,c⟩:=v87 h2
  have:=c (i - k) (by omega)
  rw[show k+(i - k)=i by omega] at this
  rw[hp.hi _ this,←hp.hi _ a];exact hk
theorem j6v{p:Nat->Prop}(hp:RuneP p){s:ByteArray}{k:Nat}(hk:p (Utf8.decode s k).1):p (s.get! k).toNat:=by
 rcases Nat.lt_or_ge (s.get! k).toNat 128 with h2|h2
 ·rw[v86 h2] at hk;exact hk
 ·rw[hp.hi _ h2,←hp.hi _ (v87 h2).1];exact hk
theorem Clr.all{p:Nat->Prop}{s:ByteArray}{k:Nat}(h:Clr p s k)(hk:s.size<=k): ∀c∈bts s,¬p c.toNat:=by
 intro c hc
 obtain⟨i,hi⟩:=List.mem_iff_getElem?.1 hc
 have hl:i<s.size:=(List.getElem?_eq_some_iff.1 hi).1
 have:=get!_of hl
 rw[hi] at this
 cases this
 exact h i (by omega) hl
theorem w5c{s:ByteArray}{k:Nat}(h:k<s.size):s.get! k∈bts s:=List.mem_of_getElem? (get!_of h)
def good(c:UInt8):Bool:=decide (32<=c.toNat) && decide (c.toNat≠127)
def vld(s:ByteArray):Bool:=decide (s.size<=200) && Go.Lib.validD (bts s) && (bts s).all good
def isD(c:UInt8):Bool:=decide (48<=c.toNat) && decide (c.toNat<=57)
def w5d(n:Nat)(c:UInt8):Nat:=10*n+(c.toNat - 48)
def valD(n:Nat)(l:List UInt8):Nat:=l.foldl w5d n
def digs(s:ByteArray):ByteArray:=if s[0]? =some 45 then s.extract 1 s.size else s
def pnum(s:ByteArray):Int×Int:=
 if (bts (digs s)).all isD=false then (0,1)
 else if (digs s).size=0∨((digs s)[0]? =some 48/\s≠ByteArray.mk (Array.mk [48])) then (0,1)
 else if 1099511627776<valD 0 (bts (digs s)) then (0,3)
 else (if (digs s).size<s.size then -(valD 0 (bts (digs s)):Int) else valD 0 (bts (digs s)),0)
theorem v2y(n:Nat):valD n []=n:=rfl
theorem w8b(n:Nat)(c:UInt8)(l:List UInt8):valD n (c::l)=valD (w5d n c) l:=List.foldl_cons ..
theorem v89: ∀(l:List UInt8) (n:Nat),n*10 ^ l.length<=valD n l
 |[],n=>by simp[valD]
 |c::l,n=>by
  rw[w8b,List.length_cons]
  refine Nat.le_trans ?_ (v89 l (w5d n c))
  rw[Nat.pow_succ,Nat.mul_comm (10 ^ l.length) 10,←Nat.mul_assoc]
  exact Nat.mul_le_mul_right _ (by unfold w5d;omega)
theorem v9a: ∀(l:List UInt8) (n:Nat),n<=valD n l:=fun l n=>Nat.le_trans (by
 have:0<10 ^ l.length:=Nat.pow_pos (by decide)
 exact Nat.le_mul_of_pos_right n this) (v89 l n)
theorem j4v: ∀(l:List UInt8) (n:Nat),l.all isD=true->Go.Lib.parseUint10 n l=(if valD n l<18446744073709551616/\n<18446744073709551616 then .ok (valD n l) else if l=[] then .ok n else .range)
 |[],n,_=>by
  unfold Go.Lib.parseUint10
  rw[v2y]
  split<;>simp
 |c::l,n,h=>by
  simp only[List.all_cons,Bool.and_eq_true] at h
  have h1:=h.1
  simp only[isD,Bool.and_eq_true,decide_eq_true_eq] at h1
  have ih:=j4v l (w5d n c) h.2
  have hs:=v9a l (w5d n c)
  have es:w5d n c=10*n+(c.toNat - 48):=rfl
  have e:n*10+(c.toNat - 48)=w5d n c:=by omega
  have hne: ¬(c::l=[]):=by simp
  unfold Go.Lib.parseUint10
  rw[if_pos h1,w8b,e,if_neg hne]
  generalize w5d n c=m at ih hs es e⊢
  by_cases h2:1844674407370955162<=n
  ·rw[if_pos h2,if_neg (by omega)]
  ·rw[if_neg h2]
   by_cases h3:18446744073709551616<=m
   ·rw[if_pos h3,if_neg (by omega)]
   ·rw[if_neg h3,ih]
    by_cases h4:valD m l<18446744073709551616
    ·rw[if_pos ⟨h4,by omega⟩,if_pos ⟨h4,by omega⟩]
    ·have: ¬l=[]:=by rintro rfl;rw[v2y] at h4;omega
     rw[if_neg (by omega),if_neg this,if_neg (by omega)]
theorem w8c{l:List UInt8}(h:l.all isD=true)(hn:l≠[]):Go.Lib.parseMag l=(if valD 0 l<18446744073709551616 then .ok (valD 0 l) else .range):=by
 unfold Go.Lib.parseMag
 rw[if_neg hn,j4v l 0 h]
 by_cases h4:valD 0 l<18446744073709551616
 ·rw[if_pos ⟨h4,by omega⟩,if_pos h4]
 ·rw[if_neg (by omega),if_neg h4,if_neg hn]
theorem v2z{s:ByteArray}{k:Nat}:bts (s.extract k s.size)=(bts s).drop k:=by
 show (s.extract k s.size).data.toList=_
 rw[ByteArray.data_extract,Array.toList_extract,List.extract_eq_take_drop,List.take_of_length_le]
 rw[List.length_drop]
 exact Nat.le_refl _
theorem j37{s:ByteArray}(h:s[0]? =some 45):bts s=45::bts (digs s)/\(digs s).size+1=s.size:=by
 have h0:0<s.size:=by
  rw[j9q] at h;exact (List.getElem?_eq_some_iff.1 h).1
 have e:bts (digs s)=(bts s).drop 1:=by
  unfold digs
  rw[if_pos h,v2z]
 rw[j9q] at h
 refine⟨?_,?_⟩
 ·rw[e]
  cases hb:bts s with
  |nil=>rw[hb] at h;simp at h
  |cons c l=>rw[hb] at h;simp at h;simp[h]
 ·rw[←z93,e,List.length_drop,z93];omega
theorem z6e{s:ByteArray}(h: ¬s[0]? =some 45):digs s=s:=by unfold digs;rw[if_neg h]
theorem v01{s:ByteArray}(h:(bts (digs s)).all isD=true)(hn:(digs s).size≠0):Go.Lib.atoiAll (bts s)=(if valD 0 (bts (digs s))<=(if s[0]? =some 45 then 9223372036854775808 else 9223372036854775807) then .ok (if s[0]? =some 45 then -(valD 0 (bts (digs s)):Int) else valD 0 (bts (digs s))) else .range):=by
 have hne:bts (digs s)≠[]:=fun e=>hn (by rw[←z93,e];rfl)
 by_cases hm:s[0]? =some 45
 ·obtain⟨e,_⟩:=j37 hm
  rw[if_pos hm,if_pos hm,e]
  unfold Go.Lib.atoiAll
  simp only[show (45:UInt8).toNat=45 from rfl,or_true,if_true]
  rw[w8c h hne]
  generalize valD 0 (bts (digs s))=v
  by_cases h1:v<18446744073709551616
  ·rw[if_pos h1]
   by_cases h2:v<=9223372036854775808
   ·rw[if_pos h2];simp only[not_true,false_and,if_false,true_and];rw[if_neg (by omega)]
   ·rw[if_neg h2];simp only[not_true,false_and,if_false,true_and];rw[if_pos (by omega)]
  ·rw[if_neg h1,if_neg (by omega)]
 ·rw[if_neg hm,if_neg hm]
  rw[z6e hm] at h hne⊢
  have hp:=w8c h hne
  generalize valD 0 (bts s)=v at hp⊢
  cases hb:bts s with
  |nil=>exact absurd hb hne
  |cons c l=>
   have hc':isD c=true:=by rw[hb] at h;simp only[List.all_cons,Bool.and_eq_true] at h;exact h.1
   simp only[isD,Bool.and_eq_true,decide_eq_true_eq] at hc'
   unfold Go.Lib.atoiAll
   simp only[]
   rw[if_neg (show ¬(c.toNat=43∨c.toNat=45) by omega),←hb,hp]
   by_cases h1:v<18446744073709551616
   ·rw[if_pos h1]
    simp only[]
    by_cases h2:v<=9223372036854775807
    ·rw[if_pos h2,if_neg (by omega),if_neg (by omega),if_neg (by omega)]
    ·rw[if_neg h2,if_pos (by omega)]
   ·rw[if_neg h1,if_neg (by omega)]
def dot(s:ByteArray)(k:Nat):Nat:=k+((bts s).drop k).idxOf 46
theorem y4c{s:ByteArray}{k:Nat}:k<=dot s k:=Nat.le_add_right _ _
theorem y9n{s:ByteArray}{k:Nat}(h:k<=s.size):dot s k<=s.size:=by
 have:=List.idxOf_le_length (a:=(46:UInt8)) (l:=(bts s).drop k)
 rw[List.length_drop,z93] at this
 unfold dot;omega
def okp(p:Int×Int):Bool:=decide (p.2=0) && decide (0<=p.1) && decide (p.1<=999999)
def q7h(s:ByteArray)(k:Nat):Int×Int:=pnum (s.extract k (dot s k))
def v02(s:ByteArray):Prop:=(dot s 0<s.size/\okp (q7h s 0)=true)/\(dot s (dot s 0+1)<s.size/\okp (q7h s (dot s 0+1))=true)/\ ¬dot s (dot s (dot s 0+1)+1)<s.size/\okp (q7h s (dot s (dot s 0+1)+1))=true
instance (s:ByteArray):Decidable (v02 s):=by unfold v02;infer_instance
def prt(s:ByteArray):(Int×Int×Int)×Bool:=
 if v02 s then (((q7h s 0).1,(q7h s (dot s 0+1)).1,(q7h s (dot s (dot s 0+1)+1)).1),true) else ((0,0,0),false)
theorem y9o{s:ByteArray}(h: ¬v02 s):prt s=((0,0,0),false):=if_neg h
theorem y6u{s:ByteArray}(h:v02 s):prt s=(((q7h s 0).1,(q7h s (dot s 0+1)).1,(q7h s (dot s (dot s 0+1)+1)).1),true):=if_pos h
abbrev dotB:ByteArray:=ByteArray.mk (Array.mk [46])
theorem w8d: ∀l:List UInt8,Go.Lib.index l [46]=if l.idxOf 46<l.length then ((l.idxOf 46:Nat):Int) else -1
 |[]=>rfl
 |b::l=>by
  have ih:=w8d l
  unfold Go.Lib.index
  by_cases hb:b=46
  ·subst hb
   rw[if_pos (by simp[List.isPrefixOf]),List.idxOf_cons_self,if_pos (by simp)];rfl
  ·have hx:(b::l).idxOf 46=l.idxOf 46+1:=by rw[List.idxOf_cons,show (b==(46:UInt8))=false by simpa using hb];rfl
   rw[if_neg (by simp[List.isPrefixOf,Ne.symm hb]),hx,ih,List.length_cons]
   by_cases h:l.idxOf 46<l.length
   ·simp only[if_pos h]
    rw[if_neg (by simp only[beq_iff_eq];omega),if_pos (by omega)]
    push_cast;rfl
   ·simp only[if_neg h]
    rw[if_pos (by decide),if_neg (by omega)]
theorem v9b{s:ByteArray}{k:Nat}:(s.extract k s.size).size=s.size - k:=by rw[ByteArray.size_extract];omega
theorem j9r{s:ByteArray}{k:Nat}(hk:k<=s.size):Go.Lib.indexB (s.extract k s.size) dotB=if dot s k<s.size then ((dot s k - k:Nat):Int) else -1:=by
 show Go.Lib.index (bts (s.extract k s.size)) [46]=_
 rw[v2z,w8d,List.length_drop,z93]
 have e:dot s k - k=((bts s).drop k).idxOf 46:=by unfold dot;omega
 rw[e]
 have hg:=y4c (s:=s) (k:=k)
 by_cases h:dot s k<s.size
 ·rw[if_pos h,if_pos (by omega)]
 ·rw[if_neg h,if_neg (by omega)]
def pc(s:ByteArray)(k:Nat):List ByteArray:=Go.Lib.splitB dotB 0 (Go.Lib.countB (s.extract k s.size) dotB) (s.extract k s.size)
theorem ext2{s:ByteArray}{k i:Nat}(h:k+i<=s.size):(s.extract k s.size).extract 0 i=s.extract k (k+i):=by
 apply ByteArray.ext
 have:s.data.size=s.size:=rfl
 simp only[ByteArray.data_extract,Array.extract_extract]
 congr 1
 omega
theorem ext3{s:ByteArray}{k i:Nat}:(s.extract k s.size).extract i (s.extract k s.size).size=s.extract (k+i) s.size:=by
 apply ByteArray.ext
 rw[v9b]
 have:s.data.size=s.size:=rfl
 simp only[ByteArray.data_extract,Array.extract_extract]
 congr 1
 omega
theorem j9s{s:ByteArray}{k:Nat}(hk:k<=s.size)(h: ¬dot s k<s.size):pc s k=[s.extract k s.size]:=by
 unfold pc
 exact Go.Lib.splitB_miss _ _ _ _ (by rw[j9r hk,if_neg h])
theorem w2o{s:ByteArray}{k:Nat}(hk:k<=s.size)(h:dot s k<s.size):pc s k=s.extract k (dot s k)::pc s (dot s k+1):=by
 have hi:=j9r hk
 rw[if_pos h] at hi
 have hg:=y4c (s:=s) (k:=k)
 unfold pc
 rw[Go.Lib.countB_hit _ dotB _ (by decide) hi,Nat.add_comm,Go.Lib.splitB_hit _ _ _ _ _ hi]
 have e1:dotB.size=1:=rfl
 rw[Nat.add_zero,e1,ext2 (by omega),ext3,show k+(dot s k - k)=dot s k by omega,show k+(dot s k - k+1)=dot s k+1 by omega]
theorem y9p{s:ByteArray}{k:Nat}(hk:k<=s.size):0<(pc s k).length:=by
 by_cases h:dot s k<s.size
 ·rw[w2o hk h];simp
 ·rw[j9s hk h];simp
theorem w8e{s:ByteArray}:Go.En.q1b s dotB=pc s 0:=by
 unfold Go.En.q1b pc
 have e:s.extract 0 s.size=s:=by simp
 rw[e]
theorem j9t{s:ByteArray}:(Go.En.q1b s dotB).length=3↔dot s 0<s.size/\dot s (dot s 0+1)<s.size/\ ¬dot s (dot s (dot s 0+1)+1)<s.size:=by
 rw[w8e]
 by_cases h0:dot s 0<s.size
 ·rw[w2o (by omega) h0]
  by_cases h1:dot s (dot s 0+1)<s.size
  ·rw[w2o (by omega) h1]
   by_cases h2:dot s (dot s (dot s 0+1)+1)<s.size
   ·have:=y9p (s:=s) (k:=dot s (dot s (dot s 0+1)+1)+1) (by omega)
    rw[w2o (by omega) h2]
    simp only[List.length_cons]
    exact⟨fun e=>by omega,fun e=>absurd h2 e.2.2⟩
   ·rw[j9s (by omega) h2];simp[h0,h1,h2]
  ·rw[j9s (by omega) h1];simp[h1]
 ·rw[j9s (by omega) h0];simp[h0]
theorem v03{s:ByteArray}(h:dot s 0<s.size/\dot s (dot s 0+1)<s.size/\ ¬dot s (dot s (dot s 0+1)+1)<s.size):Go.En.q1b s dotB=[s.extract 0 (dot s 0),s.extract (dot s 0+1) (dot s (dot s 0+1)),s.extract (dot s (dot s 0+1)+1) (dot s (dot s (dot s 0+1)+1))]:=by
 obtain⟨h0,h1,h2⟩:=h
 rw[w8e,w2o (by omega) h0,w2o (by omega) h1,j9s (by omega) h2]
 have:=y9n (s:=s) (k:=dot s (dot s 0+1)+1) (by omega)
 rw[show dot s (dot s (dot s 0+1)+1)=s.size by omega]
end Go.Sg
end
noncomputable section
set_option maxRecDepth 100000
namespace Go.En
open Go Go.Fl Go.Fl.Lk Go.Fx Go.Sg
theorem y6v{s:ByteArray}:s=ByteArray.mk (Array.mk [])↔s.size=0:=by
 constructor
 ·rintro rfl;rfl
 ·intro h;exact ByteArray.ext (Array.eq_empty_of_size_eq_zero h)
theorem y6w{s:ByteArray}{K:Bool->Prop}(hs:s.size<=1000)(h:K (Go.Lib.validD (bts s))):Jy s K:=⟨by omega,h⟩
theorem badP:RuneP fun n=>n<32∨n=127:=⟨fun n h=>by omega⟩
theorem v22{s:ByteArray}(h:200<s.size∨Go.Lib.validD (bts s)=false∨ ∃c∈bts s,c.toNat<32∨c.toNat=127):vld s=false:=by
 unfold vld
 rcases h with h|h|⟨c,hc,h⟩
 ·rw[decide_eq_false (by omega)];rfl
 ·rw[h];simp
 ·have:(bts s).all good=false:=by
   rw[List.all_eq_false]
   refine⟨c,hc,?_⟩
   unfold good
   simp only[Bool.and_eq_true,decide_eq_true_eq]
   omega
  rw[this];simp
theorem y6x{s:ByteArray}(h1: ¬200<s.size)(h2:Go.Lib.validD (bts s)=true)(h3: ∀c∈bts s,¬(c.toNat<32∨c.toNat=127)):vld s=true:=by
 unfold vld
 rw[h2,decide_eq_true (show s.size<=200 by omega)]
 simp only[Bool.and_true,Bool.true_and,List.all_eq_true]
 intro c hc
 have:=h3 c hc
 unfold good
 simp only[Bool.and_eq_true,decide_eq_true_eq]
 omega
theorem digP:RuneP fun n=>n<48∨57<n:=⟨fun n h=>by omega⟩
theorem v9c{l:List UInt8}:l.all isD=true↔ ∀c∈l,¬(c.toNat<48∨57<c.toNat):=by
 rw[List.all_eq_true]
 constructor
 ·intro h c hc;have:=h c hc;simp only[isD,Bool.and_eq_true,decide_eq_true_eq] at this;omega
 ·intro h c hc;have:=h c hc;simp only[isD,Bool.and_eq_true,decide_eq_true_eq];omega
theorem j9u{l:List UInt8}{c:UInt8}(hc:c∈l)(h:c.toNat<48∨57<c.toNat):l.all isD=false:=by
 rw[Bool.eq_false_iff];intro e;exact v9c.1 e c hc h
theorem w5e{s:ByteArray}(h:(bts (digs s)).all isD=false):pnum s=(0,1):=by unfold pnum;rw[if_pos h]
theorem w8f{s:ByteArray}(h:(bts (digs s)).all isD=true)(h0:(digs s).size=0∨((digs s)[0]? =some 48/\s≠ByteArray.mk (Array.mk [48]))):pnum s=(0,1):=by unfold pnum;rw[if_neg (by simp[h]),if_pos h0]
theorem y2p{s:ByteArray}(h:(bts (digs s)).all isD=true)(h0: ¬((digs s).size=0∨((digs s)[0]? =some 48/\s≠ByteArray.mk (Array.mk [48]))))(h1:1099511627776<valD 0 (bts (digs s))):pnum s=(0,3):=by unfold pnum;rw[if_neg (by simp[h]),if_neg h0,if_pos h1]
theorem y2q{s:ByteArray}(h:(bts (digs s)).all isD=true)(h0: ¬((digs s).size=0∨((digs s)[0]? =some 48/\s≠ByteArray.mk (Array.mk [48]))))(h1: ¬1099511627776<valD 0 (bts (digs s))):pnum s=(if (digs s).size<s.size then -(valD 0 (bts (digs s)):Int) else valD 0 (bts (digs s)),0):=by unfold pnum;rw[if_neg (by simp[h]),if_neg h0,if_neg h1]
theorem j13{p:Int×Int}(h: ¬p.2=0∨p.1<0∨999999<p.1):okp p=false:=by
 unfold okp
 rw[Bool.eq_false_iff]
 simp only[ne_eq,Bool.and_eq_true,decide_eq_true_eq]
 omega
theorem v04{p:Int×Int}(h0:p.2=0)(h1: ¬p.1<0)(h2: ¬999999<p.1):okp p=true:=by
 unfold okp
 simp only[Bool.and_eq_true,decide_eq_true_eq]
 omega
end Go.En
end
noncomputable section
set_option maxRecDepth 100000
namespace Go.En
open Go Go.Fl Go.Fl.Lk Go.Fx Go.Sg
theorem Cnd.ite{α:Type}{c:Prop}[Decidable c]{A B:α}{K:α->Prop}(h:K (if c then A else B)){X Y:Prop}(hx:c->K A->X)(hy: ¬c->K B->Y):Cnd c X Y:=⟨fun hc=>hx hc (by rwa [if_pos hc] at h),fun hc=>hy hc (by rwa [if_neg hc] at h)⟩
theorem j14{s:ByteArray}{K:Bool->Prop}(h:K (vld s)):q92 s K:=by
 unfold q92 z5d
 refine Cnd.mk (fun h1=>by rwa [v22 (.inl (by omega))] at h) fun h1=>y6w (by omega) (Cnd.mk (fun h2=> ?_) fun h2=>by rwa [v22 (.inr (.inl (by simpa using h2)))] at h)
 refine Lp1.ind (fun (x:ByteArray×Nat)=>x.1=s/\Clr (fun n=>n<32∨n=127) s x.2) (fun x=>s.size - x.2) ?_ ⟨rfl,Clr.zero⟩
 rintro⟨s',p⟩ ⟨rfl,hc⟩
 dsimp only at hc⊢
 refine Cnd.mk (fun h3=>Cnd.mk (fun h4=> ?_) fun h4=>Cnd.mk (fun h5=> ?_) fun h5=>⟨⟨rfl,hc.step badP (fun e=>by rcases e with e|e<;>omega)⟩,by have:=v88 s' p;omega⟩) fun h3=>by rwa [y6x (by omega) h2 (hc.all (by omega))] at h
 ·rwa [v22 (.inr (.inr ⟨_,w5c h3,j6v badP (.inl (by omega))⟩))] at h
 ·rwa [v22 (.inr (.inr ⟨_,w5c h3,j6v badP (.inr (by omega))⟩))] at h
theorem v9d{s t:ByteArray}:bts s=bts t↔s=t:=⟨fun h=>v1p h,fun h=>by rw[h]⟩
def wth(s t:ByteArray)(i:Int):Bool:=decide (0<=i/\i+t.size<=s.size/\s.extract i.toNat (i+t.size).toNat=t)
theorem v9e{s t:ByteArray}{i:Int}{p:Prop}[Decidable p](h0:0<=i)(h1:i+t.size<=s.size)(hp:p↔s.extract i.toNat (i+t.size).toNat=t):wth s t i=decide p:=by
 unfold wth
 rw[decide_eq_decide,hp]
 exact⟨fun h=>h.2.2,fun h=>⟨h0,h1,h⟩⟩
theorem y4d{s t:ByteArray}{i:Int}(h: ¬(0<=i/\i+t.size<=s.size)):wth s t i=false:=by
 unfold wth
 rw[decide_eq_false_iff_not]
 exact fun k=>h ⟨k.1,k.2.1⟩
theorem w8g{s t:ByteArray}{K:Bool->Prop}(h:K (wth s t 0)):Gm s t K:=by
 unfold Gm q0x J0
 refine Cnd.mk (fun h0=>⟨by omega,?_⟩) fun h0=> ?_
 ·rwa [v9e (by omega) (by omega) (p:=s.extract (Int.toNat 0) (t.size:Int).toNat=t) (by rw[Int.zero_add])] at h
 ·rwa [y4d (by omega)] at h
theorem w8h{s t:ByteArray}{K:Bool->Prop}(hs:s.size<=4000000000)(ht:t.size<=4000000000)(h:K (wth s t ((s.size:Int) - t.size))):Gq s t K:=by
 unfold Gq q0y Gn
 refine Cnd.mk (fun h0=>⟨by unfold InI;omega,by omega,?_⟩) fun h0=> ?_
 ·rwa [v9e (by omega) (by omega) (p:=s.extract ((s.size:Int) - t.size).toNat (s.size:Int).toNat=t) (by rw[show (s.size:Int) - t.size+t.size=s.size by omega])] at h
 ·rwa [y4d (by omega)] at h
theorem w8i{s:ByteArray}{i n:Nat}:bts (s.extract i (i+n))=((bts s).drop i).take n:=by
 show (s.extract i (i+n)).data.toList=_
 rw[ByteArray.data_extract,Array.toList_extract,List.extract_eq_take_drop]
 rw[show i+n - i=n by omega]
theorem v9f{s:ByteArray}{K:ByteArray->Bool->Prop}(h:K (digs s) (decide (s[0]? =some 45))):Gu s (ByteArray.mk (Array.mk [45])) K:=by
 unfold Gu q0z Gt Gs J0
 have e1:(ByteArray.mk (Array.mk [45])).size=1:=rfl
 rw[e1]
 refine Cnd.mk (fun h0=>⟨by omega,Cnd.mk (fun h1=>⟨by omega,?_⟩) fun h1=> ?_⟩) fun h0=>Cnd.mk (fun h1=>by cases h1) fun _=> ?_
 ·have h1:=of_decide_eq_true h1
  have hm:s[0]? =some 45:=by
   have h2:=congrArg bts h1
   rw[show s.extract (Int.toNat 0) ((1:Nat):Int).toNat=s.extract 0 (0+1) from rfl,w8i] at h2
   rw[j9q]
   have h3:((bts s).drop 0).take 1=[45]:=h2
   rw[List.drop_zero] at h3
   cases hb:bts s with
   |nil=>rw[hb] at h3;cases h3
   |cons c l=>rw[hb] at h3;simp at h3;rw[h3];rfl
  rw[decide_eq_true hm] at h
  unfold digs at h;rw[if_pos hm] at h
  exact h
 ·have hm: ¬s[0]? =some 45:=by
   intro hm
   refine h1 (decide_eq_true ?_)
   rw[←v9d,show s.extract (Int.toNat 0) ((1:Nat):Int).toNat=s.extract 0 (0+1) from rfl,w8i,(j37 hm).1]
   rfl
  rw[decide_eq_false hm,z6e hm] at h
  exact h
 ·have hm: ¬s[0]? =some 45:=fun e=>by have:=(List.getElem?_eq_some_iff.1 (j9q.1 e)).1;rw[z93] at this;omega
  rw[decide_eq_false hm,z6e hm] at h
  exact h
theorem w8j{s:ByteArray}(h:(digs s)[0]? =some 48)(hs:s≠ByteArray.mk (Array.mk [48])):pnum s=(0,1):=by
 cases ha:(bts (digs s)).all isD with
 |false=>exact w5e ha
 |true=>exact w8f ha (.inr ⟨h,hs⟩)
theorem q07{s:ByteArray}{K:Int->Int->Prop}(hs:s.size<=1000000000)(h:K (pnum s).1 (pnum s).2):Hp s K:=by
 unfold Hp q2k
 refine v9f ?_
 have fin: ¬((digs s).size=0∨((digs s)[0]? =some 48/\s≠ByteArray.mk (Array.mk [48])))->Lp1 (fun (Ql:ByteArray×Nat) j0b=>Cnd (Ql.snd<Ql.fst.size) (Cnd (((Go.Utf8.decode Ql.fst Ql.snd).fst:Int)<48) (K 0 1) (Cnd (57<((Go.Utf8.decode Ql.fst Ql.snd).fst:Int)) (K 0 1) (j0b (Ql.fst,Ql.snd+(Go.Utf8.decode Ql.fst Ql.snd).snd)))) (q4z s fun Qu Wd=>Cnd ((match (Qu,Wd,()).snd.fst with|true=>false|false=>true)=true) (K 0 3) (Cnd (Qu< -1099511627776) (K 0 3) (Cnd (1099511627776<Qu) (K 0 3) (K Qu 0))))) (digs s,0):=fun hg=>by
  refine Lp1.ind (fun (x:ByteArray×Nat)=>x.1=digs s/\Clr (fun n=>n<48∨57<n) (digs s) x.2) (fun x=>(digs s).size - x.2) ?_ ⟨rfl,Clr.zero⟩
  rintro⟨d,p⟩ ⟨hd,hc⟩
  dsimp only at hd hc⊢
  subst hd
  refine Cnd.mk (fun h3=>Cnd.mk (fun h4=> ?_) fun h4=>Cnd.mk (fun h5=> ?_) fun h5=>⟨⟨rfl,hc.step digP (fun e=>by rcases e with e|e<;>omega)⟩,by have:=v88 (digs s) p;omega⟩) fun h3=> ?_
  ·rwa [w5e (j9u (w5c h3) (j6v digP (.inl (by omega))))] at h
  ·rwa [w5e (j9u (w5c h3) (j6v digP (.inr (by omega))))] at h
  have hall:=v9c.2 (hc.all (by omega))
  refine⟨by omega,?_⟩
  unfold y2b
  rw[v01 hall fun e=>hg (.inl e)]
  have hsz:(digs s).size<s.size↔s[0]? =some 45:=by
   by_cases hm:s[0]? =some 45
   ·have:=(j37 hm).2;exact⟨fun _=>hm,fun _=>by omega⟩
   ·rw[z6e hm];exact⟨fun e=>by omega,fun e=>absurd e hm⟩
  by_cases hv:1099511627776<valD 0 (bts (digs s))
  ·rw[y2p hall hg hv] at h
   by_cases hl:valD 0 (bts (digs s))<=(if s[0]? =some 45 then 9223372036854775808 else 9223372036854775807)
   ·rw[if_pos hl]
    dsimp only
    by_cases hm:s[0]? =some 45
    ·rw[if_pos hm]
     exact Cnd.mk (fun e=>by cases e) fun _=>Cnd.mk (fun _=>h) fun e=>by omega
    ·rw[if_neg hm]
     exact Cnd.mk (fun e=>by cases e) fun _=>Cnd.mk (fun _=>h) fun _=>Cnd.mk (fun _=>h) fun e=>by omega
   ·rw[if_neg hl]
    exact Cnd.mk (fun _=>h) fun e=>absurd rfl e
  ·rw[y2q hall hg hv] at h
   rw[if_pos (by split<;>omega)]
   dsimp only
   by_cases hm:s[0]? =some 45
   ·rw[if_pos hm];rw[if_pos (hsz.2 hm)] at h
    exact Cnd.mk (fun e=>by cases e) fun _=>Cnd.mk (fun e=>by omega) fun _=>Cnd.mk (fun e=>by omega) fun _=>h
   ·rw[if_neg hm];rw[if_neg (fun e=>hm (hsz.1 e))] at h
    exact Cnd.mk (fun e=>by cases e) fun _=>Cnd.mk (fun e=>by omega) fun _=>Cnd.mk (fun e=>by omega) fun _=>h
 refine Cnd.mk (fun h0=> ?_) fun h0=>⟨⟨by omega,?_⟩,fun b hb=> ?_⟩
 ·have hz:(digs s).size=0:=y6v.1 h0
  have ha:(bts (digs s)).all isD=true:=by
   have:bts (digs s)=[]:=List.length_eq_zero_iff.1 hz
   rw[this];rfl
  rwa [w8f ha (.inl hz)] at h
 ·refine Int.not_le.1 fun hn=>h0 (y6v.2 (by omega))
 have hb:(digs s)[0]? =some b:=hb
 have hne:(digs s).size≠0:=fun e=>h0 (y6v.2 e)
 refine Cnd.mk (fun h1=> ?_) fun h1=>fin ?_
 ·have hb48:b=48:=by rw[←UInt8.toNat_inj];show b.toNat=48;omega
  subst hb48
  refine Cnd.mk (fun h2=> ?_) fun h2=>Cnd.mk (fun h3=> ?_) fun h3=>fin ?_
  ·rwa [w8j hb (by rintro rfl;revert h2;decide)] at h
  ·have h3:=of_decide_eq_true h3
   rwa [w8j hb (by rintro rfl;revert h3;decide)] at h
  ·have hm: ¬s[0]? =some 45:=fun e=>h3 (decide_eq_true e)
   rw[z6e hm] at hb h2 hne⊢
   rintro (h4|⟨_,h4⟩)
   ·exact hne h4
   ·refine h4 ?_
    rw[←v9d]
    have hl:(bts s).length=1:=by rw[z93];omega
    rw[j9q] at hb
    cases hbs:bts s with
    |nil=>rw[hbs] at hl;cases hl
    |cons c l=>
     rw[hbs] at hb hl
     have:l=[]:=List.length_eq_zero_iff.1 (by simpa using hl)
     subst this
     simp at hb;rw[hb]
 ·rintro (h4|⟨h4,_⟩)
  ·exact hne h4
  ·rw[hb] at h4;cases h4;exact h1 rfl
end Go.En
end
noncomputable section
set_option maxRecDepth 100000
namespace Go.En
open Go Go.Fl Go.Fl.Lk Go.Fx Go.Sg
def shp(v:Val):Bool:=
 if v.1=1∨v.1=2 then decide (v.3=ByteArray.mk (Array.mk [])) && decide ((v.4.length:Int)=0)
 else if v.1=3∨v.1=4 then decide (v.2=0) && decide ((v.4.length:Int)=0)
 else decide (v.2=0) && decide (v.3=ByteArray.mk (Array.mk []))
theorem w04{v:Val}{K:Bool->Prop}(h:K (shp v)):q60 v K:=by
 unfold q60
 unfold shp at h
 refine Jn1.mk (fun b=>b=decide (v.1=1∨v.1=2)) ?_ ?_
 ·refine Cnd.mk (fun e=> ?_) fun e=> ?_
  ·exact decide_eq_decide.2 ⟨fun e=> .inl e,fun _=>e⟩
  ·exact decide_eq_decide.2 ⟨fun e=> .inr e,fun k=>k.resolve_left e⟩
 rintro _ rfl
 refine Cnd.mk (fun e=> ?_) fun e=> ?_
 ·have e:=of_decide_eq_true e
  rw[if_pos e] at h
  refine Cnd.mk (fun h1 _=> ?_) fun h1=> ?_
  ·rwa [decide_eq_true h1,Bool.true_and] at h
  ·rwa [decide_eq_false h1,Bool.false_and] at h
 have e: ¬(v.1=1∨v.1=2):=fun k=>e (decide_eq_true k)
 rw[if_neg e] at h
 refine Jn1.mk (fun b=>b=decide (v.1=3∨v.1=4)) ?_ ?_
 ·refine Cnd.mk (fun e=> ?_) fun e=> ?_
  ·exact decide_eq_decide.2 ⟨fun e=> .inl e,fun _=>e⟩
  ·exact decide_eq_decide.2 ⟨fun e=> .inr e,fun k=>k.resolve_left e⟩
 rintro _ rfl
 refine Cnd.mk (fun e=> ?_) fun e=> ?_
 ·have e:=of_decide_eq_true e
  rw[if_pos e] at h
  refine Cnd.mk (fun h1 _=> ?_) fun h1=> ?_
  ·rwa [decide_eq_true h1,Bool.true_and] at h
  ·rwa [decide_eq_false h1,Bool.false_and] at h
 have e: ¬(v.1=3∨v.1=4):=fun k=>e (decide_eq_true k)
 rw[if_neg e] at h
 refine Cnd.mk (fun h1=> ?_) fun h1=> ?_
 ·rwa [decide_eq_true h1,Bool.true_and] at h
 ·rwa [decide_eq_false h1,Bool.false_and] at h
def Chn(l:List ByteArray):Prop:= ∀(i:Nat) x y,l[i]? =some x->l[i+1]? =some y->blt x y
open Classical in
def lchk(l:List ByteArray):Int:=
 if 20<(l.length:Int) then 5 else if ∃x∈l,vld x=false then 2 else if Chn l then 0 else 9
theorem y2r{l:List ByteArray}{x:ByteArray}(h: ¬20<(l.length:Int))(hx:x∈l)(hv: ¬vld x=true):lchk l=2:=by
 unfold lchk;rw[if_neg h,if_pos ⟨x,hx,by simpa using hv⟩]
theorem y2s{l:List ByteArray}(h: ¬20<(l.length:Int))(hx: ∀x∈l,vld x=true)(hn: ¬Chn l):lchk l=9:=by
 unfold lchk;rw[if_neg h,if_neg (fun ⟨x,h1,h2⟩=>by rw[hx x h1] at h2;cases h2),if_neg hn]
theorem y6y{l:List ByteArray}(h: ¬20<(l.length:Int))(hx: ∀x∈l,vld x=true)(hn:Chn l):lchk l=0:=by
 unfold lchk;rw[if_neg h,if_neg (fun ⟨x,h1,h2⟩=>by rw[hx x h1] at h2;cases h2),if_pos hn]
def vchk(v:Val):Int:=
 if v.1<1 then 7 else if 5<v.1 then 7 else if shp v=true then
  (if v.1=1 then (if v.2=0 then 0 else if v.2=1 then 0 else 3)
  else if v.1=2 then (if v.2< -1099511627776 then 3 else if 1099511627776<v.2 then 3 else 0)
  else if v.1=3 then (if vld v.3=true then 0 else 2)
  else if v.1=4 then (if (prt v.3).2=true then 0 else 1)
  else if v.1=5 then lchk v.4 else 0) else 15
inductive VpS(s:ByteArray):Int->Int->Int->Int->Prop
 |s0 {o0 o1 o2:Int}:VpS s 0 o0 o1 o2
 |s1 {o1 o2:Int} (h0:okp (q7h s 0)=true):VpS s 1 (q7h s 0).1 o1 o2
 |s2 {o2:Int} (h0:okp (q7h s 0)=true) (h1:okp (q7h s (dot s 0+1))=true):VpS s 2 (q7h s 0).1 (q7h s (dot s 0+1)).1 o2
 |s3 (h0:okp (q7h s 0)=true) (h1:okp (q7h s (dot s 0+1))=true) (h2:okp (q7h s (dot s (dot s 0+1)+1))=true):VpS s 3 (q7h s 0).1 (q7h s (dot s 0+1)).1 (q7h s (dot s (dot s 0+1)+1)).1
theorem j38{s:ByteArray}{i j:Nat}:(s.extract i j).size<=s.size:=by rw[ByteArray.size_extract];omega
theorem z06{s:ByteArray}{K:A3->Bool->Prop}(hs:s.size<=1000000000)(h:K (prt s).1 (prt s).2):q2l s K:=by
 unfold q2l z2y
 have no: ¬v02 s->K (0,0,0) false:=fun hn=>by rwa [y9o hn] at h
 refine⟨rfl,by omega,fun _=>Cnd.mk (fun h3 _=> ?_) fun h3=>no fun hv=>h3 ?_⟩
 ·have hd:=j9t.1 (show (q1b s dotB).length=3 from (by have h3':((q1b s dotB).length:Int)=3:=h3;omega))
  rw[v03 hd]
  refine LpH.ind (fun x=>VpS s x.1 x.2.1 x.2.2.1 x.2.2.2.1) (fun x=>(3 - x.1).toNat) ?_ .s0
  rintro⟨i,o0,o1,o2,x⟩ hp
  simp only[CAt,At,List.length_cons,List.length_nil] at hp⊢
  cases hp with
  |s0=>
   refine Cnd.mk (fun _=>⟨by omega,fun y hy=> ?_⟩) fun hc=>by omega
   cases hy
   refine q07 (Nat.le_trans j38 hs) ?_
   rw[show pnum (s.extract 0 (dot s 0))=q7h s 0 from rfl]
   refine Cnd.mk (fun h1=>Cnd.mk (fun h2=>no fun hv=> ?_) fun h2=>Cnd.mk (fun h3=>no fun hv=> ?_) fun h3=>⟨by omega,⟨⟨trivial,fun _=>⟨by unfold InI;omega,.s1 (v04 h1 h2 h3),by omega⟩⟩,fun e=>by omega⟩,fun e=>by omega⟩) fun h1=>no fun hv=> ?_
   ·have:=hv.1.2;rw[j13 (by omega)] at this;cases this
   ·have:=hv.1.2;rw[j13 (by omega)] at this;cases this
   ·have:=hv.1.2;rw[j13 (by omega)] at this;cases this
  |s1 h0=>
   refine Cnd.mk (fun _=>⟨by omega,fun y hy=> ?_⟩) fun hc=>by omega
   cases hy
   refine q07 (Nat.le_trans j38 hs) ?_
   rw[show pnum (s.extract (dot s 0+1) (dot s (dot s 0+1)))=q7h s (dot s 0+1) from rfl]
   refine Cnd.mk (fun h1=>Cnd.mk (fun h2=>no fun hv=> ?_) fun h2=>Cnd.mk (fun h3=>no fun hv=> ?_) fun h3=>⟨by omega,⟨⟨trivial,fun e=>by omega⟩,fun _=>⟨by unfold InI;omega,.s2 h0 (v04 h1 h2 h3),by omega⟩⟩,fun e=>by omega⟩) fun h1=>no fun hv=> ?_
   ·have:=hv.2.1.2;rw[j13 (by omega)] at this;cases this
   ·have:=hv.2.1.2;rw[j13 (by omega)] at this;cases this
   ·have:=hv.2.1.2;rw[j13 (by omega)] at this;cases this
  |s2 h0 h0'=>
   refine Cnd.mk (fun _=>⟨by omega,fun y hy=> ?_⟩) fun hc=>by omega
   cases hy
   refine q07 (Nat.le_trans j38 hs) ?_
   rw[show pnum (s.extract (dot s (dot s 0+1)+1) (dot s (dot s (dot s 0+1)+1)))=q7h s (dot s (dot s 0+1)+1) from rfl]
   refine Cnd.mk (fun h1=>Cnd.mk (fun h2=>no fun hv=> ?_) fun h2=>Cnd.mk (fun h3=>no fun hv=> ?_) fun h3=>⟨by omega,⟨⟨trivial,fun e=>by omega⟩,fun e=>by omega⟩,fun _=>⟨by unfold InI;omega,.s3 h0 h0' (v04 h1 h2 h3),by omega⟩⟩) fun h1=>no fun hv=> ?_
   ·have:=hv.2.2.2;rw[j13 (by omega)] at this;cases this
   ·have:=hv.2.2.2;rw[j13 (by omega)] at this;cases this
   ·have:=hv.2.2.2;rw[j13 (by omega)] at this;cases this
  |s3 h0 h1 h2=>
   refine Cnd.mk (fun hc=>by omega) fun hc=> ?_
   rwa [y6u (show v02 s from ⟨⟨hd.1,h0⟩,⟨hd.2.1,h1⟩,hd.2.2,h2⟩)] at h
 ·have h3':(q1b s dotB).length=3:=j9t.2 ⟨hv.1.1,hv.2.1.1,hv.2.2.1⟩
  exact congrArg (fun n:Nat=>(n:Int)) h3'
theorem z8o{v:Val}{K:Int->Prop}(hv:v.3.size<=1000000000)(h:K (vchk v)):q61 v K:=by
 unfold q61 z2z
 unfold vchk at h
 refine Cnd.ite h (fun _ h=>h) fun h0 h=>Cnd.ite h (fun _ h=>h) fun h5 h=>w04 (Cnd.ite h (fun _ h=> ?_) fun _ h=>h)
 refine Cnd.ite h (fun _ h=>Cnd.ite h (fun _ h=>h) fun _ h=>Cnd.ite h (fun _ h=>h) fun _ h=>h) fun _ h=> ?_
 refine Cnd.ite h (fun _ h=>Cnd.ite h (fun _ h=>h) fun _ h=>Cnd.ite h (fun _ h=>h) fun _ h=>h) fun _ h=> ?_
 refine Cnd.ite h (fun _ h=>j14 (Cnd.ite h (fun _ h=>h) fun _ h=>h)) fun _ h=> ?_
 refine Cnd.ite h (fun _ h=>z06 hv (Cnd.ite h (fun _ h=>h) fun _ h=>h)) fun _ h=> ?_
 refine Cnd.ite h (fun _ h=> ?_) fun _ h=>h
 generalize v.4=l at h⊢
 intro _
 refine Cnd.mk (fun h1=>by unfold lchk at h;rwa [if_pos h1] at h) fun h1 _=> ?_
 refine Lp1.ind (fun (i:Int)=>0<=i/\i<=l.length/\ ∀x∈l.take i.toNat,vld x=true) (fun (i:Int)=>(l.length - i).toNat) ?_ ⟨by omega,by omega,by simp⟩
 rintro i ⟨i0,i1,hv⟩
 refine Cnd.mk (fun hc=>⟨by omega,fun y hy=>j14 (Cnd.mk (fun hy2=>⟨by unfold InI;omega,⟨by omega,by omega,?_⟩,by omega⟩) fun hy2=>by rwa [y2r h1 (getm hy) hy2] at h)⟩) fun hc _=> ?_
 ·rw[show (i+1).toNat=i.toNat+1 by omega,List.take_add_one,hy]
  exact J3 hv hy2
 rw[List.take_of_length_le (by omega)] at hv
 refine Lp1.ind (fun (i:Int)=>0<=i/\ ∀(j:Nat) x y,(j:Int)+1<i->l[j]? =some x->l[j+1]? =some y->blt x y) (fun (i:Int)=>(l.length - i).toNat) ?_ ⟨by omega,fun j x y hj=>by omega⟩
 rintro i ⟨i0,hb⟩
 refine Cnd.mk (fun hc=>Cnd.mk (fun hp=>⟨by unfold InI;omega,by omega,fun x hx=>⟨by omega,fun y hy=>Cnd.mk (fun h2=>⟨by unfold InI;omega,⟨by omega,fun j a b hj ha hb'=> ?_⟩,by omega⟩) fun h2=> ?_⟩⟩) fun hp=>⟨by unfold InI;omega,⟨by omega,fun j a b hj=>by omega⟩,by omega⟩) fun hc=> ?_
 ·by_cases hji:(j:Int)+1<i
  ·exact hb j a b hji ha hb'
  ·rw[show j=(i - 1).toNat by omega] at ha;rw[show j+1=i.toNat by omega] at hb'
   rw[ha] at hx;rw[hb'] at hy;cases hx;cases hy;exact h2
 ·rwa [y2s h1 hv fun hn=>h2 (hn (i - 1).toNat x y hx (by rw[show (i - 1).toNat+1=i.toNat by omega];exact hy))] at h
 ·rwa [y6y h1 hv fun j x y hx hy=>hb j x y (by have:=(List.getElem?_eq_some_iff.1 hy).1;omega) hx hy] at h
def sg(l g:Prop)[Decidable l][Decidable g]:Int:=if l then -1 else if g then 1 else 0
def cmp3(x y:Int×Int×Int):Int:=
 if x.1=y.1 then (if x.2.1=y.2.1 then (if x.2.2=y.2.2 then 0 else sg (x.2.2<y.2.2) True) else sg (x.2.1<y.2.1) True) else sg (x.1<y.1) True
def vcmp(a b:Val):Int×Int:=
 if vchk a=0 then (if vchk b=0 then (if a.1=b.1 then (if a.1=1 then (0,8) else if a.1=5 then (0,8) else if a.1=2 then (sg (a.2<b.2) (b.2<a.2),0) else if a.1=3 then (sg (blt a.3 b.3) (blt b.3 a.3),0) else (cmp3 (prt a.3).1 (prt b.3).1,0)) else (0,8)) else (0,vchk b)) else (0,vchk a)
inductive CpS(x y:Int×Int×Int):Int->Prop
 |c0:CpS x y 0
 |c1 (h:x.1=y.1):CpS x y 1
 |c2 (h:x.1=y.1) (h':x.2.1=y.2.1):CpS x y 2
 |c3 (h:x.1=y.1) (h':x.2.1=y.2.1) (h'':x.2.2=y.2.2):CpS x y 3
theorem y4e{x y:Int×Int×Int}(h: ¬x.1=y.1):cmp3 x y=sg (x.1<y.1) True:=by unfold cmp3;rw[if_neg h]
theorem y4f{x y:Int×Int×Int}(h:x.1=y.1)(h': ¬x.2.1=y.2.1):cmp3 x y=sg (x.2.1<y.2.1) True:=by unfold cmp3;rw[if_pos h,if_neg h']
theorem y4g{x y:Int×Int×Int}(h:x.1=y.1)(h':x.2.1=y.2.1)(h'': ¬x.2.2=y.2.2):cmp3 x y=sg (x.2.2<y.2.2) True:=by unfold cmp3;rw[if_pos h,if_pos h',if_neg h'']
theorem y9q{x y:Int×Int×Int}(h:x.1=y.1)(h':x.2.1=y.2.1)(h'':x.2.2=y.2.2):cmp3 x y=0:=by unfold cmp3;rw[if_pos h,if_pos h',if_pos h'']
theorem y6z{a b:Int}(h:a<b):sg (a<b) True= -1:=if_pos h
theorem y60{a b:Int}(h:b<a):sg (a<b) True=1:=by unfold sg;rw[if_neg (by omega),if_pos trivial]
theorem Cnd.ite2{α β:Type}{c:Prop}[Decidable c]{A B:α×β}{K:α->β->Prop}(h:K (if c then A else B).1 (if c then A else B).2){X Y:Prop}(hx:c->K A.1 A.2->X)(hy: ¬c->K B.1 B.2->Y):Cnd c X Y:=⟨fun hc=>hx hc (by rwa [if_pos hc] at h),fun hc=>hy hc (by rwa [if_neg hc] at h)⟩
theorem j5y{a b:Val}{K:Int->Int->Prop}(ha:a.3.size<=1000000000)(hb:b.3.size<=1000000000)(h:K (vcmp a b).1 (vcmp a b).2):Ri a b K:=by
 unfold Ri q8z
 unfold vcmp at h
 refine z8o ha (Cnd.ite2 h (fun _ h=>z8o hb (Cnd.ite2 h (fun _ h=>Cnd.ite2 h (fun _ h=> ?_) fun _ h=>h) fun _ h=>h)) fun _ h=>h)
 refine Cnd.ite2 h (fun _ h=>h) fun _ h=>Cnd.ite2 h (fun _ h=>h) fun _ h=>Cnd.ite2 h (fun _ h=> ?_) fun _ h=>Cnd.ite2 h (fun _ h=> ?_) fun _ h=> ?_
 ·unfold sg at h
  refine Cnd.yes rfl (Cnd.yes rfl (Cnd.mk (fun e=> ?_) fun e=>Cnd.mk (fun e2=> ?_) fun e2=> ?_))
  ·rwa [if_pos e] at h
  ·rwa [if_neg e,if_pos e2] at h
  ·rwa [if_neg e,if_neg e2] at h
 ·unfold sg at h
  refine Cnd.yes rfl (Cnd.yes rfl (Cnd.mk (fun e=> ?_) fun e=>Cnd.mk (fun e2=> ?_) fun e2=> ?_))
  ·rwa [if_pos e] at h
  ·rwa [if_neg e,if_pos e2] at h
  ·rwa [if_neg e,if_neg e2] at h
 refine z06 ha (z06 hb ?_)
 generalize (prt a.3).1=x at h⊢
 generalize (prt b.3).1=y at h⊢
 obtain⟨x0,x1,x2⟩:=x
 obtain⟨y0,y1,y2⟩:=y
 simp only[List.length_cons,List.length_nil]
 refine (fun (k:_)=>⟨k,k⟩) (fun _=> ?_)
 refine Lp1.ind (fun (i:Int)=>CpS (x0,x1,x2) (y0,y1,y2) i) (fun (i:Int)=>(3 - i).toNat) ?_ .c0
 intro i hp
 cases hp with
 |c0=>
  refine Cnd.mk (fun _=>⟨by omega,fun u hu _=>Cnd.mk (fun e=>by omega) fun _=>⟨by omega,fun v hv=> ?_⟩⟩) fun hc=>by omega
  cases hu;cases hv
  refine Cnd.yes trivial (Cnd.yes trivial (Cnd.mk (fun e=>Cnd.no (by decide) ?_) fun e=>Cnd.mk (fun e2=>Cnd.no (by decide) ?_) fun e2=>Cnd.yes trivial ⟨by unfold InI;omega,.c1 (by simp only;omega),by omega⟩))
  ·rwa [y4e (by simp only;omega),y6z e] at h
  ·rwa [y4e (by simp only;omega),y60 e2] at h
 |c1 h1=>
  refine Cnd.mk (fun _=>⟨by omega,fun u hu _=>Cnd.mk (fun e=>by omega) fun _=>⟨by omega,fun v hv=> ?_⟩⟩) fun hc=>by omega
  cases hu;cases hv
  refine Cnd.yes trivial (Cnd.yes trivial (Cnd.mk (fun e=>Cnd.no (by decide) ?_) fun e=>Cnd.mk (fun e2=>Cnd.no (by decide) ?_) fun e2=>Cnd.yes trivial ⟨by unfold InI;omega,.c2 h1 (by simp only;omega),by omega⟩))
  ·rwa [y4f h1 (by simp only;omega),y6z e] at h
  ·rwa [y4f h1 (by simp only;omega),y60 e2] at h
 |c2 h1 h2=>
  refine Cnd.mk (fun _=>⟨by omega,fun u hu _=>Cnd.mk (fun e=>by omega) fun _=>⟨by omega,fun v hv=> ?_⟩⟩) fun hc=>by omega
  cases hu;cases hv
  refine Cnd.yes trivial (Cnd.yes trivial (Cnd.mk (fun e=>Cnd.no (by decide) ?_) fun e=>Cnd.mk (fun e2=>Cnd.no (by decide) ?_) fun e2=>Cnd.yes trivial ⟨by unfold InI;omega,.c3 h1 h2 (by simp only;omega),by omega⟩))
  ·rwa [y4g h1 h2 (by simp only;omega),y6z e] at h
  ·rwa [y4g h1 h2 (by simp only;omega),y60 e2] at h
 |c3 h1 h2 h3=>
  rw[y9q h1 h2 h3] at h
  exact Cnd.mk (fun e=>by omega) fun _ _ _=>Cnd.mk (fun e=>by omega) fun _=>h
end Go.En
end
noncomputable section
set_option maxRecDepth 100000
namespace Go.En
open Go Go.Fl Go.Fl.Lk Go.Fx Go.Sg
theorem drp{α:Type}{l:List α}{k:Nat}{y:α}(h:l[k]? =some y):l.drop k=y::l.drop (k+1):=by
 obtain⟨hl,rfl⟩:=List.getElem?_eq_some_iff.1 h
 exact List.drop_eq_getElem_cons hl
structure SubB(s:Subj):Prop where
 n:s.ctxs.length<=2000000
 a: ∀c∈s.ctxs,c.attrs.length<=2000000
 l: ∀c∈s.ctxs,∀a∈c.attrs,a.value.list.length<=2000000/\a.value.text.size<=2000000
 k: ∀c∈s.ctxs,c.key.size<=2000000
abbrev noC:Ctxt:=Ctxt.mk (ByteArray.mk (Array.mk [])) (ByteArray.mk (Array.mk [])) []
abbrev noV:Val:=Val.mk 0 0 (ByteArray.mk (Array.mk [])) []
def fnd(s:Subj)(kind:ByteArray):Option Ctxt:=s.ctxs.find? fun c=>decide (c.kind=kind)
theorem z4r{s:Subj}{kind:ByteArray}{K:Int->Prop}(h: ∀r:Int,((r= -1/\fnd s kind=none)∨(0<=r/\r<s.ctxs.length/\ ∃c,s.ctxs[r.toNat]? =some c/\fnd s kind=some c))->K r):Rf s kind K:=by
 unfold Rf
 intro hl
 refine Lp1.ind (fun (i:Int)=>0<=i/\i<=s.ctxs.length/\fnd s kind=(s.ctxs.drop i.toNat).find? fun c=>decide (c.kind=kind)) (fun (i:Int)=>(s.ctxs.length - i).toNat) ?_ ⟨by omega,by omega,rfl⟩
 rintro i ⟨i0,i1,hf⟩
 refine Cnd.mk (fun hc=>⟨by omega,fun y hy=> ?_⟩) fun hc=> ?_
 ·rw[drp hy,List.find?_cons] at hf
  refine Cnd.mk (fun e=> ?_) fun e=>⟨by unfold InI;omega,⟨by omega,by omega,?_⟩,by omega⟩
  ·rw[decide_eq_true e] at hf
   exact h _ (.inr ⟨i0,hc,y,hy,hf⟩)
  ·rw[decide_eq_false e] at hf
   rw[show (i+1).toNat=i.toNat+1 by omega];exact hf
 ·rw[List.drop_eq_nil_of_le (by omega)] at hf
  exact h _ (.inl ⟨rfl,hf⟩)
theorem q45{v:Val}{K:Val->Prop}(hv:v.list.length<=2000000)(h:K v):Jz v K:=by
 unfold Jz
 refine fun b hb=>Cnd.mk (fun e=> ?_) fun _=>⟨by unfold Sml;simp only[List.nil_append];omega,h⟩
 have:=hb e
 cases v
 simp only at this
 subst this
 exact h
theorem j15{v:Attr}{K:Attr->Prop}(hv:v.value.list.length<=2000000)(h:K v):R4 v K:=by
 unfold R4 q37
 exact q45 hv h
theorem j5z{c:Ctxt}{K:Ctxt->Prop}(ha:c.attrs.length<=2000000)(hv: ∀a∈c.attrs,a.value.list.length<=2000000)(h:K c):q2f c K:=by
 unfold q2f q8w
 refine fun _=>⟨⟨by omega,by omega,by unfold Sml;omega⟩,fun _=> ?_⟩
 refine Lp2.ind (fun (r:List Attr) (i:Int)=>0<=i/\i<=c.attrs.length/\r=c.attrs.take i.toNat) (fun _ (i:Int)=>(c.attrs.length - i).toNat) ?_ ⟨by omega,by omega,rfl⟩
 rintro r i ⟨i0,i1,rfl⟩
 refine Cnd.mk (fun hc=>⟨by omega,fun y hy=>j15 (hv y (getm hy)) ⟨?_,by unfold InI;omega,⟨by omega,by omega,?_⟩,by omega⟩⟩) fun hc=> ?_
 ·unfold Sml;simp only[List.length_append,List.length_take,List.length_cons,List.length_nil];omega
 ·rw[show (i+1).toNat=i.toNat+1 by omega,List.take_add_one,hy];rfl
 ·rw[List.take_of_length_le (by omega)];exact h
theorem Rp{s:Subj}{kind:ByteArray}{K:Ctxt->Bool->Prop}(hs:SubB s)(h:K ((fnd s kind).getD noC) (fnd s kind).isSome):Vc s kind K:=by
 unfold Vc z0v
 refine z4r fun r hr=> ?_
 rcases hr with ⟨rfl,hf⟩|⟨r0,r1,c,hc,hf⟩
 ·rw[hf] at h
  exact Cnd.yes (by decide) h
 ·rw[hf] at h
  refine Cnd.no (by omega) ⟨⟨r0,r1⟩,fun y hy=> ?_⟩
  have hc:s.ctxs[r.toNat]? =some c:=hc
  have hy:s.ctxs[r.toNat]? =some y:=hy
  rw[hc] at hy;cases hy
  exact j5z (hs.a c (getm hc)) (fun a ha=>(hs.l c (getm hc) a ha).1) h
abbrev keyB:ByteArray:=ByteArray.mk (Array.mk [107,101,121])
def lkp(s:Subj)(kind name:ByteArray):Option Val:=
 (fnd s kind).bind fun c=>if name=keyB then some (Val.mk 3 0 c.key []) else (c.attrs.find? fun a=>decide (a.name=name)).map Attr.value
theorem j9v{s:Subj}{kind:ByteArray}{c:Ctxt}(h:fnd s kind=some c):c∈s.ctxs:=List.mem_of_find?_eq_some h
theorem y9r{s:Subj}{kind name:ByteArray}{v:Val}(hs:SubB s)(h:lkp s kind name=some v):v.list.length<=2000000/\v.text.size<=2000000:=by
 unfold lkp at h
 cases hf:fnd s kind with
 |none=>rw[hf] at h;cases h
 |some c=>
  rw[hf] at h
  simp only[Option.bind_some] at h
  by_cases hk:name=keyB
  ·rw[if_pos hk] at h;cases h
   exact⟨by simp,hs.k c (j9v hf)⟩
  ·rw[if_neg hk] at h
   obtain⟨a,ha,rfl⟩:=Option.map_eq_some_iff.1 h
   exact hs.l c (j9v hf) a (List.mem_of_find?_eq_some ha)
theorem z13{s:Subj}{kind name:ByteArray}{K:Val->Bool->Prop}(hs:SubB s)(h:K ((lkp s kind name).getD noV) (lkp s kind name).isSome):Hc s kind name K:=by
 unfold Hc q56
 refine z4r fun r hr=> ?_
 unfold lkp at h
 rcases hr with ⟨rfl,hf⟩|⟨r0,r1,c,hcc,hf⟩
 ·rw[hf] at h
  exact Cnd.yes (by decide) h
 rw[hf] at h
 simp only[Option.bind_some] at h
 refine Cnd.no (by omega) ⟨⟨r0,r1⟩,fun y hy=> ?_⟩
 have hcc:s.ctxs[r.toNat]? =some c:=hcc
 have hy:s.ctxs[r.toNat]? =some y:=hy
 rw[hcc] at hy;cases hy
 refine Cnd.mk (fun hk=> ?_) fun hk _=> ?_
 ·rw[if_pos hk] at h;exact h
 rw[if_neg hk] at h
 have hn:=hs.a c (j9v hf)
 have hl:=hs.l c (j9v hf)
 refine Lp5.ind (fun (i:Int) _ _ _ _=>0<=i/\i<=c.attrs.length/\(c.attrs.find? fun a=>decide (a.name=name))=(c.attrs.drop i.toNat).find? fun a=>decide (a.name=name)) (fun (i:Int) _ _ _ _=>(c.attrs.length - i).toNat) ?_ ⟨by omega,by omega,rfl⟩
 rintro i _ _ _ _ ⟨i0,i1,hd⟩
 refine Cnd.mk (fun hc=>⟨⟨i0,hc⟩,fun y hy=> ?_⟩) fun hc=> ?_
 ·have hy:c.attrs[i.toNat]? =some y:=hy
  rw[drp hy,List.find?_cons] at hd
  refine Cnd.mk (fun e=> ?_) fun e=>⟨by unfold InI;omega,⟨by omega,by omega,?_⟩,by omega⟩
  ·rw[decide_eq_true e] at hd
   rw[hd] at h
   exact q45 (hl y (getm hy)).1 h
  ·rw[decide_eq_false e] at hd
   rw[show (i+1).toNat=i.toNat+1 by omega];exact hd
 ·rw[List.drop_eq_nil_of_le (by omega)] at hd
  rw[hd] at h;exact h
end Go.En
end
noncomputable section
set_option maxRecDepth 100000
namespace Go.En
open Go Go.Fl Go.Fl.Lk Go.Fx Go.Sg
open Classical in
def dec(p:Prop):Bool:=decide p
theorem v05{p:Prop}:dec p=true↔p:=by unfold dec;exact @decide_eq_true_iff p (Classical.propDecidable p)
theorem v9g{p:Prop}{r:Bool}(h:r=true↔p):r=dec p:=by rw[Bool.eq_iff_iff,h,v05]
theorem v23{p:Prop}(h:p):dec p=true:=v05.2 h
theorem w8k{p:Prop}(h: ¬p):dec p=false:=by rw[Bool.eq_false_iff];exact fun e=>h (v05.1 e)
theorem z6f{a b:List ByteArray}{K:Bool->Prop}(h: ∀r,(r=true↔a=b)->K r):Zn a b K:=by
 unfold Zn
 intro ha hb
 refine Cnd.mk (fun hl _=> ?_) fun hl=>h _ ⟨fun h=>(by cases h),fun e=>by rw[e] at hl;exact absurd rfl hl⟩
 refine Lp1.ind (fun (i:Int)=>0<=i/\i<=a.length/\a.take i.toNat=b.take i.toNat) (fun (i:Int)=>(a.length - i).toNat) ?_ ⟨by omega,by omega,by simp⟩
 rintro i ⟨i0,i1,he⟩
 refine Cnd.mk (fun hc=>⟨by omega,fun x hx=>⟨by omega,fun y hy=>Cnd.mk (fun hc=>⟨by unfold InI;omega,⟨by omega,by omega,?_⟩,by omega⟩) fun hc=>h _ ⟨fun h=>(by cases h),fun h=> ?_⟩⟩⟩) fun hc=>h _ ⟨fun _=> ?_,fun _=>rfl⟩
 ·rw[show (i+1).toNat=i.toNat+1 by omega,List.take_add_one,List.take_add_one,he,hx,hy,hc]
 ·subst h;rw[hx] at hy;cases hy;exact absurd rfl hc
 ·rwa [List.take_of_length_le (by omega),List.take_of_length_le (by omega)] at he
theorem z8p{a b:Val}{K:Bool->Prop}(h: ∀r,(r=true↔a=b)->K r):q2h a b K:=by
 unfold q2h z2x
 have no:(a≠b)->K false:=fun hn=>h _ ⟨fun h=>(by cases h),fun e=>absurd e hn⟩
 refine Cnd.mk (fun h1=>Cnd.mk (fun h2=>Cnd.mk (fun h3=>z6f fun r hr=>h r (hr.trans ⟨fun h4=> ?_,fun e=>by rw[e]⟩)) fun h=>no fun e=>h (by rw[e])) fun h=>no fun e=>h (by rw[e])) fun h=>no fun e=>h (by rw[e])
 cases a;cases b;simp_all
def cnt(v w:Val):Bool:=if w.1=3 then (if v.1=5 then dec (w.3∈v.4) else if v.1=3 then Go.Lib.contains (bts v.3) (bts w.3) else false) else false
def tst3(op:Int)(v w:Val):Bool:=
 if op=7 then dec (v=w)
 else if op=9 then (if v.1=3 then (if w.1=3 then wth v.3 w.3 0 else false) else false)
 else if op=10 then (if v.1=3 then (if w.1=3 then wth v.3 w.3 ((v.3.size:Int) - w.3.size) else false) else false)
 else if op=11 then cnt v w
 else if (vcmp v w).2=0 then (if op=12 then decide ((vcmp v w).1<0) else if op=13 then decide ((vcmp v w).1<=0) else if op=14 then decide (0<(vcmp v w).1) else decide (0<=(vcmp v w).1)) else false
def tst(s:Subj)(e:Ex):Bool:=
 match lkp s e.2 e.3 with
 |none=>false
 |some v=>if 6<=e.1/\e.1<=15 then (if e.1=6 then true else if e.1=8 then dec (v∈e.4) else match e.4 with|[]=>false|w::_=>tst3 e.1 v w) else false
def ValB(w:Val):Prop:=w.3.size<=2000000/\w.4.length<=2000000
theorem get0{α:Type}{l:List α}{y:α}(h:l[Int.toNat 0]? =some y): ∃t,l=y::t:=by
 cases l with
 |nil=>cases h
 |cons a t=>cases h;exact⟨t,rfl⟩
theorem z8q{op:Int}{K:Bool->Prop}(h: ∀r,(r=true↔6<=op/\op<=15)->K r):Gl op K:=by
 unfold Gl
 exact Cnd.mk (fun h6=>h _ ⟨fun a=>⟨h6,of_decide_eq_true a⟩,fun a=>decide_eq_true a.2⟩) fun h6=>h _ ⟨fun a=>(by cases a),fun a=>absurd a.1 h6⟩
theorem v25{α:Type}{l:List α}{x:α}{K:Bool->Prop}(hl:l.length<=9223372036854775807)(h: ∀r,(r=true↔x∈l)->K r):
  Lp1 (fun i Y=>Cnd (i<(l.length:Int)) ((0<=i/\i<(l.length:Int))/\ ∀y,l[i.toNat]? =some y->Cnd (x=y) (K (decide (0<=i))) (InI (i+1)/\Y (i+1))) (K (decide ((0:Int)<= -1)))) 0:=by
 refine Lp1.ind (fun (i:Int)=>0<=i/\i<=l.length/\x∉l.take i.toNat) (fun (i:Int)=>(l.length - i).toNat) ?_ ⟨by omega,by omega,by simp⟩
 rintro i ⟨i0,i1,hn⟩
 refine Cnd.mk (fun hc=>⟨by omega,fun y hy=>Cnd.mk (fun e=>h _ ⟨fun _=>e▸getm hy,fun _=>decide_eq_true i0⟩) fun e=>⟨by unfold InI;omega,⟨by omega,by omega,?_⟩,by omega⟩⟩) fun hc=>h _ ⟨fun a=>(by cases a),fun hm=> ?_⟩
 ·rw[show (i+1).toNat=i.toNat+1 by omega,List.take_add_one,hy]
  simp[hn,e]
 ·rw[List.take_of_length_le (by omega)] at hn;exact absurd hm hn
theorem w05{s:Subj}{e:Ex}{K:Bool->Prop}(hs:SubB s)(he: ∀w∈e.4,ValB w)(h:K (tst s e)):R5 s e K:=by
 unfold R5 z22
 refine z13 hs ?_
 unfold tst at h
 cases hl:lkp s e.2 e.3 with
 |none=>rw[hl] at h;exact Cnd.no (by simp) h
 |some v=>
  rw[hl] at h
  dsimp only at h
  dsimp only [Option.getD_some]
  obtain⟨hv4,hv3⟩:=y9r hs hl
  refine Cnd.yes rfl (z8q fun r hr=> ?_)
  refine Cnd.mk (fun h1=> ?_) fun h1=>by rwa [if_neg fun k=>h1 (hr.2 k)] at h
  rw[if_pos (hr.1 h1)] at h
  refine Cnd.ite h (fun _ h=>h) fun h6 h=>Cnd.ite h (fun _ h hl=> ?_) fun h8 h _=>Cnd.mk (fun h0=> ?_) fun h0=>⟨⟨by omega,by omega⟩,fun w hw=> ?_⟩
  ·refine Lp1.ind (fun (i:Int)=>0<=i/\i<=e.4.length/\v∉e.4.take i.toNat) (fun (i:Int)=>(e.4.length - i).toNat) ?_ ⟨by omega,by omega,by simp⟩
   rintro i ⟨i0,i1,hn⟩
   refine Cnd.mk (fun hc=>⟨by omega,fun y hy=>z8p fun r hr=>Cnd.mk (fun hc=> ?_) fun hc=>⟨by unfold InI;omega,⟨by omega,by omega,?_⟩,by omega⟩⟩) fun hc=> ?_
   ·have hvy:v=y:=hr.1 hc
    rw[v23 (show v∈e.4 by rw[hvy];exact getm hy)] at h
    rw[decide_eq_true i0];exact h
   ·rw[show (i+1).toNat=i.toNat+1 by omega,List.take_add_one,hy]
    have:v≠y:=fun e=>hc (hr.2 e)
    simp[hn,this]
   ·rw[List.take_of_length_le (by omega)] at hn
    rwa [w8k hn] at h
  ·have:e.4=[]:=List.eq_nil_of_length_eq_zero (by omega)
   rw[this] at h;exact h
  obtain⟨t,ht⟩:=get0 hw
  rw[ht] at h
  simp only at h
  have hwb:=he w (by rw[ht];simp)
  unfold tst3 at h
  have eq7:e.1=7->K (dec (v=w))->q2h v w fun x=>K x:=fun _ h=>z8p fun r hr=>by rw[v9g hr];exact h
  have cmpR:K (if (vcmp v w).2=0 then (if e.1=12 then decide ((vcmp v w).1<0) else if e.1=13 then decide ((vcmp v w).1<=0) else if e.1=14 then decide (0<(vcmp v w).1) else decide (0<=(vcmp v w).1)) else false)->Ri v w fun Qk z1a=>Cnd (z1a=0) (Cnd (e.1=12) (K (decide (Qk<0))) (Cnd (e.1=13) (K (decide (Qk<=0))) (Cnd (e.1=14) (K (decide (0<Qk))) (K (decide (0<=Qk)))))) (K false):=fun h=>
   j5y (by omega) (by have:=hwb.1;omega) (Cnd.ite h (fun _ h=>Cnd.ite h (fun _ h=>h) fun _ h=>Cnd.ite h (fun _ h=>h) fun _ h=>Cnd.ite h (fun _ h=>h) fun _ h=>h) fun _ h=>h)
  refine Cnd.mk (fun h3=> ?_) fun h3=> ?_
  ·refine Cnd.ite h (fun e7 h=>eq7 e7 h) fun _ h=>Cnd.ite h (fun _ h=> ?_) fun _ h=>Cnd.ite h (fun _ h=> ?_) fun _ h=>Cnd.ite h (fun _ h=> ?_) fun _ h=>cmpR h
   ·rw[if_pos h3] at h
    exact Cnd.ite h (fun _ h=>w8g h) fun _ h=>h
   ·rw[if_pos h3] at h
    exact Cnd.ite h (fun _ h=>w8h (by omega) (by have:=hwb.1;omega) h) fun _ h=>h
   ·unfold cnt at h
    have h5: ¬v.1=5:=by omega
    refine Cnd.ite h (fun hw3 h=> ?_) fun hw3 h=>Cnd.no hw3 h
    rw[if_neg h5,if_pos h3] at h
    exact⟨by omega,Cnd.mk (fun e=>by rwa [e] at h) fun e=>Cnd.yes hw3 (Cnd.no h5 (by rwa [Bool.not_eq_true _|>.mp e] at h))⟩
  ·refine Cnd.ite h (fun e7 h=>eq7 e7 h) fun _ h=>Cnd.ite h (fun _ h=> ?_) fun _ h=>Cnd.ite h (fun _ h=> ?_) fun _ h=>Cnd.ite h (fun _ h=> ?_) fun _ h=>cmpR h
   ·rwa [if_neg h3] at h
   ·rwa [if_neg h3] at h
   ·unfold cnt at h
    refine Cnd.ite h (fun hw3 h=>Cnd.ite h (fun h5 h hl=> ?_) fun h5 h=> ?_) fun hw3 h=>h
    ·exact v25 hl fun r hr=>by rw[v9g hr];exact h
    ·rwa [if_neg h3] at h
end Go.En
end
