/- Who is held out, which assignment is forced, and who is eligible; the arguments are of bounded bulk. This is part 5 of 7. Conditions: those in the statements. -/
import Derived.Test.YtfiomedjdipbgaaGreatDoorAQ4
import Derived.KernelRfl
import Derived.Conc.MuLone
import GoSem.Core.Utf8
import Derived.Lib.ValidU
noncomputable section
set_option maxRecDepth 100000
open Go Go.RowKit Go.Fl Go.Fl.Lk Go.Fx
namespace Go.En
theorem w3v{σ:Hv}{w:World}{g:Nat}{T:C}{n:Nat}{l:List (car T)}(hV:View σ w)(hs:SRep D (fun _=>none) σ (.pointer (some ⟨g,0,none⟩)) (.fap T n l)){i j:Nat}{x:car T}{s:FV Sg}(hx:l[i]? =some x)(hj:(D.shape T x)[j]? =some s)(hz:j<D.size T):
  ∃v,w.cell? ⟨g,i*D.size T+j,none⟩=some v/\RepF D σ v s:=by
 generalize hq:Value.pointer (some (⟨g,0,none⟩:Addr))=q at hs
 cases hs with
 |fap ad cs T' N l' hN h hl hr=>
  cases hq
  have hrow:=hr i x hx
  have hlen:=okP.ok.len T x
  have hjl:j<((cs.drop (i*D.size T)).take (D.size T)).length:=by rw[hrow.1,hlen];exact hz
  obtain⟨v,hv⟩: ∃v,((cs.drop (i*D.size T)).take (D.size T))[j]? =some v:=⟨_,List.getElem?_eq_getElem hjl⟩
  refine⟨v,?_,hrow.2 j v s hv hj⟩
  rw[List.getElem?_take,if_pos hz,List.getElem?_drop] at hv
  have:=hV.cell (h _ v hv)
  rw[Un,Nat.zero_add] at this
  exact this
theorem y1n: ∀c,c<256->v2a[c]? =some ((Go.Lib.firstT c:Nat):Int):=by decide
theorem y8e: ∀i,i<16->(j70[i]?).map (fun a=>(a.lo,a.hi))=some (((Go.Lib.accLo i:Nat):Int),((Go.Lib.accHi i:Nat):Int)):=by decide
theorem tabs{σ:Hv}{w:World}(hV:View σ w)(hG:Glb D σ):Go.Lib.Utf8Tabs (Proofs.Tryz.lays196_ren.g 3) (Proofs.Tryz.lays196_ren.g 4) w:=by
 refine⟨fun c hc=> ?_,fun i hi=> ?_⟩
 ·have h:=hG.known (Proofs.Tryz.lays196_ren.g 3)
  obtain⟨v,h1,h2⟩:=w3v (T:= .u8) (n:=256) (l:=v2a) hV h (i:=c) (j:=0) (s:= .int .u8 ((Go.Lib.firstT c:Nat):Int)) (y1n c hc) rfl (by decide)
  cases h2
  simpa [show D.size C.u8=1 from rfl] using h1
 ·have h:=hG.known (Proofs.Tryz.lays196_ren.g 4)
  have ha:=y8e i hi
  obtain⟨a,e1,e2⟩:=Option.map_eq_some_iff.1 ha
  obtain⟨v,h1,h2⟩:=w3v (T:= .acc) (n:=16) (l:=j70) hV h (i:=i) (j:=0) (s:= .int .u8 a.lo) e1 rfl (by decide)
  obtain⟨v',h1',h2'⟩:=w3v (T:= .acc) (n:=16) (l:=j70) hV h (i:=i) (j:=1) (s:= .int .u8 a.hi) e1 rfl (by decide)
  cases h2;cases h2'
  simp only[Prod.mk.injEq] at e2
  rw[e2.1] at h1;rw[e2.2] at h1'
  refine⟨by rw[Nat.mul_comm];simpa [show D.size C.acc=2 from rfl] using h1,by rw[Nat.mul_comm];simpa [show D.size C.acc=2 from rfl] using h1'⟩
theorem w9i{w w':World}(h:Below w.heap.size w w'):Keeps [] w w':=⟨h.os,h.tape,h.output,h.size,fun k hk _=>h.block k hk⟩
theorem z1t{σ:Hv}{w w1:World}{args:List (Tr Sg)}{vals:List Value}{K:List (Tr Sg)->List (Tr Sg)->Prop}{rets outs:List (Tr Sg)}{rv:List Value}(hS:St ⟨w,σ,feet []⟩ w σ [])(hK:K rets outs)(hb:Below w.heap.size w w1)(hL:LayL D σ rets rv [])(hT:LayT D σ args outs vals [] []):
  Back D σ w args vals [] K (.returned (retV rv)) w1:=by
 have hk:=w9i hb
 refine⟨rets,outs,rv,σ,[],[],rfl,hK,hL,hT,?_⟩
 refine⟨hk,fun b o hbo=> ?_,Sub.refl _,fun _ _ _=>rfl,by simp,by simp,by simp,by simp⟩
 have h1:=hS.view b o hbo
 have hlt:b<w.heap.size:=by
  rcases Nat.lt_or_ge b w.heap.size with h|h
  ·exact h
  ·rw[Array.getElem?_eq_none h] at h1;cases h1
 rw[hk.block b hlt (by simp)];exact h1
theorem j08:z19 Proofs.Tryz.prog D 246 (conV ([.v]:LP) ([.str]:LV) ([.bool]:LV) ([.same]:LV) (fun a K=>Js a.1 (fun q0=>K (q0,()) ((),())))):=by
 intro args K hm w σ vals ins hG hL hS
 obtain⟨a,ha,hm⟩:=Qj hm
 have hargs:=Vs ha
 subst hargs
 obtain⟨s,_⟩:=a
 cases hL with
 |cons hp hr=>
 cases hr
 cases hp with
 |f hf=>
 cases hf
 have hm:s.size<=9223372036854775807/\K [.f (.bool (Go.Lib.validD s.data.toList))] [.same]:=hm
 refine Calls.mono (Go.Proofs.Any.utf8_ValidString Proofs.Tryz.lays196 s w hm.1 (tabs hS.view hG)) ?_
 rintro e w' ⟨rfl,hb⟩
 exact z1t (rv:=[.bool (Go.Lib.validD s.data.toList)]) hS hm.2 hb (.cons (ms:=[]) (.f (.bool _)) .nil) (.skip (a0:=[]) .nil)
theorem j09:z19 Proofs.Tryz.prog D 136 (conV ([.v,.v]:LP) ([.str,.str]:LV) ([.bool]:LV) ([.same,.same]:LV) (fun a K=>Hu a.1 a.2.1 (fun q0=>K (q0,()) ((),(),())))):=by
 intro args K hm w σ vals ins hG hL hS
 obtain⟨a,ha,hm⟩:=Qj hm
 have hargs:=Vs ha
 subst hargs
 obtain⟨s,t,_⟩:=a
 cases hL with
 |cons hp hr=>
 cases hr with
 |cons hq hr=>
 cases hr
 cases hp with
 |f hf=>
 cases hf
 cases hq with
 |f hf=>
 cases hf
 have hm:s.size<4294967281/\K [.f (.bool (Go.Lib.contains s.data.toList t.data.toList))] [.same,.same]:=hm
 obtain⟨n,hn⟩:=hG.free 3 .i64 rfl
 refine Calls.mono (Proofs.Tryz.strings_Contains s t n w hm.1 (hS.view.cell hn)) ?_
 rintro e w' ⟨rfl,rfl⟩
 exact z1t (rv:=[.bool (Go.Lib.contains s.data.toList t.data.toList)]) hS hm.2 (Below.refl _ _) (.cons (ms:=[]) (.f (.bool _)) .nil) (.skip (a0:=[]) (.skip (a0:=[]) .nil))
theorem w0l:z19 Proofs.Tryz.prog D 270 (conV ([.v]:LP) ([.str]:LV) ([.int .i64,.ifc]:LV) ([.same]:LV) (fun a K=>B7 a.1 (fun q0 q1=>K (q0,q1,()) ((),())))):=by
 intro args K hm w σ vals ins hG hL hS
 obtain⟨a,ha,hm⟩:=Qj hm
 have hargs:=Vs ha
 subst hargs
 obtain⟨s,_⟩:=a
 cases hL with
 |cons hp hr=>
 cases hr
 cases hp with
 |f hf=>
 cases hf
 have hm:s.size<=281474976710656/\y1m s (fun n b=>K [.f (.int .i64 n),.f (.ifc b)] [.same]):=hm
 obtain⟨hsz,hm⟩:=hm
 have err: ∀g:Nat,D.glob g= .fptr [.ifc false] 0-> ∃ev,w.cell? ⟨g,0,none⟩=some ev/\(ev= .nilIface∨ ∃te pe,ev= .iface te pe):=by
  intro g hg
  have h:=hG.known g
  rw[hg] at h
  generalize hq:Value.pointer (some (⟨g,0,none⟩:Addr))=q at h
  cases h with
  |fptr ad cs l off hv hr=>
  cases hq
  obtain⟨v,hvl⟩: ∃v,cs=[v]:=List.length_eq_one_iff.1 hr.1
  subst hvl
  have hc:=hS.view.cell (hv 0 v rfl)
  have hR:=hr.2 0 v _ rfl rfl
  refine⟨v,?_,?_⟩
  ·rw[Un] at hc;exact hc
  ·cases hR with
   |ifcS t p=>exact .inr ⟨t,p,rfl⟩
 unfold y1m at hm
 split at hm
 ·rename_i v hv
  refine Calls.mono (Proofs.Tryz.strconv_Atoi_ok s (by omega) v hv w) ?_
  rintro e w' ⟨rfl,hw⟩
  have hb:Below w.heap.size w w':=by
   rcases hw with rfl|⟨t,rfl⟩
   ·exact Below.refl _ _
   ·exact Go.Lib.bytesWorld_below _ _ _
  exact z1t (rv:=[.int .i64 v,.nilIface]) hS hm hb (.cons (ms:=[]) (.f (.int _ _)) (.cons (ms:=[]) (.f .ifcN) .nil)) (.skip (a0:=[]) .nil)
 ·rename_i hv
  obtain⟨ev,h1,h2⟩:=err 7 rfl
  refine Calls.mono (Proofs.Tryz.strconv_Atoi_range s hsz hv ev w h1 h2) ?_
  rintro e w' ⟨N,rfl,_,_,hb⟩
  exact z1t (rv:=[.int .i64 _,.iface _ _]) hS hm hb (.cons (ms:=[]) (.f (.int _ _)) (.cons (ms:=[]) (.f (.ifcS _ _)) .nil)) (.skip (a0:=[]) .nil)
 ·rename_i hv
  obtain⟨ev,h1,h2⟩:=err 6 rfl
  refine Calls.mono (Proofs.Tryz.strconv_Atoi_syntax s hsz hv ev w h1 h2) ?_
  rintro e w' ⟨N,rfl,_,_,hb⟩
  exact z1t (rv:=[.int .i64 _,.iface _ _]) hS hm hb (.cons (ms:=[]) (.f (.int _ _)) (.cons (ms:=[]) (.f (.ifcS _ _)) .nil)) (.skip (a0:=[]) .nil)
theorem j6t(l:List ByteArray):l.flatMap Qi=l.map Value.string:=by
 induction l with
 |nil=>rfl
 |cons a l ih=>rw[List.flatMap_cons,List.map_cons,ih];rfl
theorem y8f(l:List ByteArray):(cpt l).length<=l.length:=by
 unfold cpt Go.Lib.compact
 rw[List.length_map]
 have h: ∀(d:Array (List UInt8)) (m:Nat),(Go.Lib.compactUpTo d m).length<=m:=by
  intro d m
  unfold Go.Lib.compactUpTo
  rw[List.length_map]
  exact Nat.le_trans (List.length_filter_le _ _) (by simp)
 simpa using h _ _
theorem v7v{σ:Hv}{xs:List Value}{l:List ByteArray}(h:Els D σ C.str xs l):xs=l.flatMap Qi:=by
 have h1:xs.length=l.length:=by rw[h.1];exact Nat.mul_one _
 rw[j6t]
 refine List.ext_getElem? fun i=> ?_
 rw[List.getElem?_map]
 rcases Nat.lt_or_ge i l.length with hi|hi
 ·obtain⟨v,hv⟩: ∃v,xs[i]? =some v:=⟨_,List.getElem?_eq_getElem (by omega)⟩
  obtain⟨x,hx⟩: ∃x,l[i]? =some x:=⟨_,List.getElem?_eq_getElem hi⟩
  have hR:=(h.2 i x hx).2 0 v (.str x) (by rw[show D.size C.str=1 from rfl,Nat.mul_one,List.getElem?_take,if_pos (by decide),List.getElem?_drop];exact hv) rfl
  rw[hv,hx]
  cases hR
  rfl
 ·rw[List.getElem?_eq_none (by omega),List.getElem?_eq_none hi];rfl
theorem w3w(σ:Hv)(l:List ByteArray):Els D σ C.str (l.flatMap Qi) l:=by
 rw[j6t]
 refine⟨by rw[List.length_map];exact (Nat.mul_one _).symm,fun i x hx=> ?_⟩
 rw[show D.size C.str=1 from rfl,Nat.mul_one]
 have hx:l[i]? =some x:=hx
 have e:((l.map Value.string).drop i).take 1=[.string x]:=by
  rw[←List.map_drop,List.drop_eq_getElem_cons (List.getElem?_eq_some_iff.1 hx).1,(List.getElem?_eq_some_iff.1 hx).2];rfl
 rw[e]
 refine⟨rfl,fun j v s hj hs=> ?_⟩
 cases j with
 |zero=>cases hj;cases hs;exact .str x
 |succ j=>cases hj
theorem q6o:z19 Proofs.Tryz.prog D 80 (conV ([.own 9 C.str]:LP) ([.vec 9 C.str]:LV) ([]:LV) ([.vec 9 C.str]:LV) (fun a K=>Zd a.1 (fun q0=>K () (q0,())))):=by
 intro args K hm w σ vals ins hG hL hS
 obtain⟨a,ha,hm⟩:=Qj hm
 have hargs:=Vs ha
 subst hargs
 obtain⟨s,_⟩:=a
 cases hL with
 |cons hp hr=>
 cases hr
 cases hp with
 |vec hE hl h1=>
 have hx:=v7v hE
 subst hx
 have hm:K [] [.vec 9 C.str (srt s)]:=hm
 refine Calls.mono (v1e Proofs.Tryz.slices_Sort_string Proofs.Tryz.slices_Sort_string_none hS.view (hS.get (i:=0) rfl) rfl (fun b hb=>hS.off _ (List.mem_of_getElem? (i:=0) rfl) b hb) (by omega)) ?_
 rintro _ w1 ⟨rfl,hg,ho⟩
 have hS1:=hS.growV (i:=0) (o':=vec _ 9 1 s.length ((srt s).flatMap Qi)) rfl hg rfl ho (ms':=[vec _ 9 1 s.length ((srt s).flatMap Qi)]) rfl
 refine⟨[],_,[],σ,[],[vec _ 9 1 (srt s).length ((srt s).flatMap Qi)],rfl,hm,.nil,.keep (.vec (w3w σ _) (Nat.le_trans (Nat.le_of_eq (J0 _)) hl) h1) .nil,?_⟩
 have e:(srt s).length=s.length:=J0 _
 rw[e];exact hS1
theorem q31:z19 Proofs.Tryz.prog D 184 (conV ([.own 9 C.str]:LP) ([.vec 9 C.str]:LV) ([.vec 9 C.str]:LV) ([.same]:LV) (fun a K=>Z3 a.1 (fun q0=>K (q0,()) ((),())))):=by
 intro args K hm w σ vals ins hG hL hS
 obtain⟨a,ha,hm⟩:=Qj hm
 have hargs:=Vs ha
 subst hargs
 obtain⟨s,_⟩:=a
 cases hL with
 |cons hp hr=>
 cases hr
 cases hp with
 |vec hE hl h1=>
 have hx:=v7v hE
 subst hx
 have hm:K [.vec 9 C.str (cpt s)] [.same]:=hm
 refine Calls.mono (j7d Proofs.Tryz.slices_Compact_string Proofs.Tryz.slices_Compact_string_empty hS.view (hS.get (i:=0) rfl) rfl (fun b hb=>hS.off _ (List.mem_of_getElem? (i:=0) rfl) b hb) (by omega)) ?_
 rintro _ w1 ⟨v1,rfl,hf,hg,ho⟩
 have hlc:(cpt s).length<=140737488355328:=Nat.le_trans (y8f _) hl
 have hS1:=hS.growV (i:=0) (o':=vec v1 9 1 (cpt s).length ((cpt s).flatMap Qi)) rfl hg hf ho (ms':=[vec v1 9 1 (cpt s).length ((cpt s).flatMap Qi)]) rfl
 exact⟨[.vec 9 C.str (cpt s)],[.same],[v1],σ,[vec v1 9 1 (cpt s).length ((cpt s).flatMap Qi)],[],rfl,hm,.cons (.vec (w3w σ _) hlc (q1n ho)) .nil,.skip .nil,hS1⟩
theorem y5r{σ:Hv}{v:Value}{l:List ByteArray}(h:RepF D σ v (.sl C.str l)):RSl 1 (REnc Qi) σ v l:=by
 obtain⟨a,cap,e1,e2,e3,e4⟩:=h.toRSl okP.ok
 refine⟨a,cap,e1,e2,e3,fun i x hx=> ?_⟩
 obtain⟨ad,cs,f1,f2,f3,f4⟩:=e4 i x hx
 refine⟨ad,cs,f1,f2,f3,?_⟩
 obtain⟨u,rfl⟩: ∃u,cs=[u]:=List.length_eq_one_iff.1 f2
 have g1:=f4.2 0 u (.str x) rfl rfl
 cases g1
 rfl
theorem y1o{σ:Hv}{v:Value}{l:List Edg}(h:RepF D σ v (.sl C.edge l)):RSl 2 (REnc y7n) σ v (l.map fun e=>(e.1,e.2)):=by
 obtain⟨a,cap,e1,e2,e3,e4⟩:=h.toRSl okP.ok
 have hl:(l.map fun e=>(e.1,e.2)).length=l.length:=List.length_map ..
 refine⟨a,cap,by rw[hl];exact e1,by rw[hl];exact e2,by rw[hl];exact e3,fun i x hx=> ?_⟩
 rw[List.getElem?_map] at hx
 obtain⟨y,hy,rfl⟩:=Option.map_eq_some_iff.1 hx
 obtain⟨ad,cs,f1,f2,f3,f4⟩:=e4 i y hy
 refine⟨ad,cs,f1,f2,f3,?_⟩
 obtain⟨u,v,rfl⟩: ∃u v,cs=[u,v]:=by
  match cs,f2 with
  |[u,v],_=>exact⟨u,v,rfl⟩
 have g1:=f4.2 0 u (.str y.src) rfl rfl
 have g2:=f4.2 1 v (.str y.dst) rfl rfl
 cases g1;cases g2
 rfl
theorem w3x:z19 Proofs.Tryz.prog D 139 (conV ([.sl C.str,.sl C.edge]:LP) ([.sl C.str,.sl C.edge]:LV) ([.vec 9 C.str,.int .i64]:LV) ([.same,.same]:LV) (fun a K=>P_graph_Order a.1 a.2.1 (fun q0 q1=>K (q0,q1,()) ((),(),())))):=by
 intro args K hm w σ vals ins hG hL hS
 obtain⟨a,ha,hm⟩:=Qj hm
 have hargs:=Vs ha
 subst hargs
 obtain⟨s,t,_⟩:=a
 cases hL with
 | @cons _ _ v1 _ _ _ hp hr=>
 cases hr with
 | @cons _ _ v2 _ _ _ hq hr=>
 cases hr
 cases hp with
 |f hf1=>
 cases hq with
 |f hf2=>
 have hm:Go.Fl.P_graph_Order s (t.map fun e=>(e.1,e.2)) (fun l n=>K [.vec 9 C.str l,.f (.int .i64 n)] [.same,.same]):=hm
 refine Calls.mono (Go.Proofs.YtfiomedjdipbgaaGreatDoor.w_graph_Order s (t.map fun e=>(e.1,e.2)) v1 v2 hS.view (y5r hf1) (y1o hf2) hm) ?_
 rintro e w1 ⟨l,n,v,rfl,hS1,hsm,hK⟩
 have hl:l.length<=140737488355328:=by unfold Sml at hsm;omega
 exact⟨[.vec 9 C.str l,.f (.int .i64 n)],[.same,.same],[v,.int .i64 n],σ,[vec v 9 1 l.length (l.flatMap Qi)],[],rfl,hK,.cons (.vec (w3w σ _) hl (q1n (hS1.get (i:=0) rfl))) (.cons (ms:=[]) (.f (.int _ _)) .nil),.skip (a0:=[]) (.skip (a0:=[]) .nil),hS1⟩
theorem j8d:z19 Proofs.Tryz.prog D 231 (conV ([.v,.v]:LP) ([.str,.str]:LV) ([.vec 9 C.str]:LV) ([.same,.same]:LV) (fun a K=>q2f a.1 a.2.1 (fun q0=>K (q0,()) ((),(),())))):=by
 intro args K hm w σ vals ins hG hL hS
 obtain⟨a,ha,hm⟩:=Qj hm
 have hargs:=Vs ha
 subst hargs
 obtain⟨s,t,_⟩:=a
 cases hL with
 |cons hp hr=>
 cases hr with
 |cons hq hr=>
 cases hr
 cases hp with
 |f hf=>
 cases hf
 cases hq with
 |f hf=>
 cases hf
 have hm:t.size=1/\s.size<4294967281/\K [.vec 9 C.str (q1a s t)] [.same,.same]:=hm
 obtain⟨h1,hsz,hm⟩:=hm
 obtain⟨n,hn⟩:=hG.free 3 .i64 rfl
 have hlen:(q1a s t).length=Go.Lib.countB s t+1:=Go.Lib.splitB_all t (by omega) 0 _ s rfl
 have hcnt:=Go.Lib.countB_le t (by omega) s.size s (Nat.le_refl _)
 refine Calls.mono (Proofs.Tryz.strings_Split s t n w hsz (hS.view.cell hn) (by omega)) ?_
 rintro e w' ⟨rfl,rfl⟩
 have ho:(vec (.slice (some ⟨w.heap.size,0,none⟩) (q1a s t).length (q1a s t).length) 9 1 (q1a s t).length ((q1a s t).flatMap Qi)).ok (w.alloc (.cells ((q1a s t).map Value.string).toArray 9)):=by
  refine⟨by rw[j6t];simp,.inr ⟨w.heap.size,_,_,rfl,Nat.zero_le _,heap_alloc_new _ _,Nat.le_refl _,by unfold maxLen;omega,by simp,?_⟩⟩
  rw[j6t,Nat.mul_one]
  exact List.take_of_length_le (by rw[List.length_map];exact Nat.le_refl _)
 have hS1:=hS.add (Va w _) ho (by rintro k ⟨⟩;exact Nat.le_refl _)
 have hl:(q1a s t).length<=140737488355328:=by omega
 have hr:=(⟨[.vec 9 C.str (q1a s t)],[.same,.same],[_],σ,[_],[],rfl,hm,.cons (.vec (w3w σ _) hl (q1n ho)) .nil,.skip (a0:=[]) (.skip (a0:=[]) .nil),hS1⟩:Back D σ w [.f (.str s),.f (.str t)] [.string s,.string t] [] K (.returned (retV [.slice (some ⟨w.heap.size,0,none⟩) (q1a s t).length (q1a s t).length])) (w.alloc (.cells ((q1a s t).map Value.string).toArray 9)))
 rw[hlen] at hr
 exact hr
end Go.En
end
noncomputable section
set_option maxRecDepth 100000
open Go Go.RowKit Go.Fl Go.Fl.Lk Go.Fx
namespace Go.En
def q5r(X:W2):Con Sg:=conS [] [.vec 177 C.decl] fun _ K=>X (fun q0=>K (q0,()))
theorem q9o:MT 57 (q5r Jx):=mS (l:=[]) trivial (by kernel_rfl) [] fun a K=>by kernel_rfl
def v2c(X:j6q):Con Sg:=conV [.ptr 104 [.c,.v]] [.ptr 104 [.sl C.u8,.int .i64]] [.bool] [.ptr 104 [.same,.int .i64]] fun a K=>X a.1.1 a.1.2.1 (fun q0 q1=>K (q0,()) (((),q1,()),()))
theorem y1p:MT 86 (v2c j6r):=mP (rk:=[.v]) (l:=[]) trivial (by kernel_rfl) [] fun a K=>by kernel_rfl
def Vm(X:Zg):Con Sg:=conV [.ptr 104 [.c,.v],.v] [.ptr 104 [.sl C.u8,.int .i64],.int .i64] [.int .i64] [.ptr 104 [.same,.int .i64],.same] fun a K=>X a.1.1 a.1.2.1 a.2.1 (fun q0 q1=>K (q0,()) (((),q1,()),(),()))
theorem y1q(j64:j6q)(h:AL [(86,v2c j64)]):MT 49 (Vm (w3m j64)):=mP (rk:=[.v]) h (by kernel_rfl) [] fun a K=>by kernel_rfl
theorem Gt:MT 49 (Vm Zc):=y1q j6r ⟨y1p,trivial⟩
def z7d(X:q1q):Con Sg:=conV [.ptr 104 [.c,.v]] [.ptr 104 [.sl C.u8,.int .i64]] [.str] [.ptr 104 [.same,.int .i64]] fun a K=>X a.1.1 a.1.2.1 (fun q0 q1=>K (q0,()) (((),q1,()),()))
theorem y1r(Qb:Zg)(h:AL [(49,Vm Qb)]):MT 58 (z7d (w3n Qb)):=mP (rk:=[.v]) h (by kernel_rfl) [] fun a K=>by kernel_rfl
theorem j6u:MT 58 (z7d q1r):=y1r Zc ⟨Gt,trivial⟩
def j1a(X:q6h):Con Sg:=conV [.ptr 104 [.c,.v],.v] [.ptr 104 [.sl C.u8,.int .i64],.int .i64] [.int .i64] [.ptr 104 [.same,.int .i64],.same] fun a K=>X a.1.1 a.1.2.1 a.2.1 (fun q0 q1=>K (q0,()) (((),q1,()),(),()))
theorem y1s(Qb:Zg)(h:AL [(49,Vm Qb)]):MT 51 (j1a (w3o Qb)):=mP (rk:=[.v]) h (by kernel_rfl) [] fun a K=>by kernel_rfl
theorem w3y:MT 51 (j1a q6i):=y1s Zc ⟨Gt,trivial⟩
def w3z(X:z63):Con Sg:=conS [.int .i64,.vec 9 C.str] [.sl C.str] fun a K=>X a.1 a.2.1 (fun q0=>K (q0,()))
theorem v2d:MT 60 (w3z z64):=mS (l:=[]) trivial (by kernel_rfl) [] fun a K=>by kernel_rfl
def j6v(X:z2b):Con Sg:=conV [.ptr 104 [.c,.v]] [.ptr 104 [.sl C.u8,.int .i64]] [.vec 9 C.str] [.ptr 104 [.same,.int .i64]] fun a K=>X a.1.1 a.1.2.1 (fun q0 q1=>K (q0,()) (((),q1,()),()))
theorem y1t(Qb:Zg)(h:AL [(49,Vm Qb)]):MT 112 (j6v (w3p Qb)):=mP (rk:=[.own 9 C.str]) h (by kernel_rfl) [(9,⟨bl 397,[],[(0,(104,2))],[(.slot 4,.own 9 C.str),sI 5,(.cell 0 1,.int .i64)]⟩),(17,⟨bl 8121,[0],[],[sI 6,(.obj 1,.own 9 C.str)]⟩)] fun a K=>by kernel_rfl
theorem v2e:MT 112 (j6v z2c):=y1t Zc ⟨Gt,trivial⟩
def w30(X:z8y):Con Sg:=conV [.ptr 104 [.c,.v]] [.ptr 104 [.sl C.u8,.int .i64]] [.str] [.ptr 104 [.same,.int .i64]] fun a K=>X a.1.1 a.1.2.1 (fun q0 q1=>K (q0,()) (((),q1,()),()))
theorem y5s(Qb:Zg)(h:AL [(49,Vm Qb)]):MT 108 (w30 (w9f Qb)):=mP (rk:=[.v]) h (by kernel_rfl) [] fun a K=>by kernel_rfl
theorem v7w:MT 108 (w30 z8z):=y5s Zc ⟨Gt,trivial⟩
def z5j(X:q1s):Con Sg:=conV [.ptr 104 [.c,.v],.v] [.ptr 104 [.sl C.u8,.int .i64],.int .i64] [.el C.val] [.ptr 104 [.same,.int .i64],.same] fun a K=>X a.1.1 a.1.2.1 a.2.1 (fun q0 q1=>K (q0,()) (((),q1,()),(),()))
theorem v7x(Qb:Zg)(Wh:q1q)(h:AL [(49,Vm Qb),(58,z7d Wh)]):MT 109 (z5j (j0w Qb Wh)):=mP (rk:=[.el C.val]) h (by kernel_rfl) [] fun a K=>by kernel_rfl
theorem j8e:MT 109 (z5j Ur):=v7x Zc q1r ⟨Gt,j6u,trivial⟩
def j6w(X:j0x):Con Sg:=conV [.ptr 104 [.c,.v]] [.ptr 104 [.sl C.u8,.int .i64]] [.el C.ex] [.ptr 104 [.same,.int .i64]] fun a K=>X a.1.1 a.1.2.1 (fun q0 q1=>K (q0,()) (((),q1,()),()))
theorem y1u(Q3:W2)(Qb:Zg)(z3r:z8y)(Jj:q1s)(h:AL [(57,q5r Q3),(49,Vm Qb),(108,w30 z3r),(109,z5j Jj)]):MT 165 (j6w (w3q Q3 Qb z3r Jj)):=mP (rk:=[.el C.ex]) h (by kernel_rfl) [(68,⟨bl 4286840701,[3,2],[(5,(66,5)),(0,(104,2)),(1,(66,5))],[(.cell 5 0,.int .i64),(.cell 5 1,.str),(.cell 5 2,.str),(.cell 5 3,.own 115 C.val),(.cell 5 4,.own 66 C.ex),(.cell 0 1,.int .i64),(.cell 1 0,.int .i64),(.cell 1 1,.str),(.cell 1 2,.str),(.cell 1 3,.own 115 C.val),(.cell 1 4,.own 66 C.ex)]⟩),(60,⟨bl 17163319925,[],[(0,(104,2)),(5,(66,5)),(1,(66,5))],[(.cell 0 1,.int .i64),(.cell 5 0,.int .i64),(.cell 5 1,.str),(.cell 5 2,.str),(.cell 5 3,.own 115 C.val),(.cell 5 4,.own 66 C.ex),(.cell 1 0,.int .i64),(.cell 1 1,.str),(.cell 1 2,.str),(.cell 1 3,.own 115 C.val),(.cell 1 4,.own 66 C.ex)]⟩),(37,⟨bl 1055806024022645,[1],[(5,(66,5)),(0,(104,2))],[sI 7,(.cell 5 3,.own 115 C.val),(.cell 0 1,.int .i64)]⟩)] fun a K=>by kernel_rfl
theorem y1v:MT 165 (j6w z65):=y1u Jx Zc z8z Ur ⟨q9o,Gt,v7w,j8e,trivial⟩
def j6x(X:q4g):Con Sg:=conV [.ptr 104 [.c,.v],.sl C.str,.v] [.ptr 104 [.sl C.u8,.int .i64],.sl C.str,.int .i64] [.el C.ex] [.ptr 104 [.same,.int .i64],.same,.same] fun a K=>X a.1.1 a.1.2.1 a.2.1 a.2.2.1 (fun q0 q1=>K (q0,()) (((),q1,()),(),(),()))
def w6r:PT:=Q4 ([(8,⟨bl 24647,[0,1],[],[sI 7]⟩),(28,⟨bl 3298996281543,[0,1],[],[sB 49]⟩),(37,⟨bl 1148984153929181127,[1],[(0,(104,2)),(4,(66,5))],[sI 11,(.cell 0 1,.int .i64),(.cell 4 0,.int .i64),(.cell 4 1,.str),(.cell 4 2,.str),(.cell 4 3,.own 115 C.val),(.cell 4 4,.own 66 C.ex)]⟩),(46,⟨bl 1152917567256169316295,[0,12,11,4],[(13,(66,5))],[(.cell 13 0,.int .i64),(.cell 13 1,.str),(.cell 13 2,.str),(.cell 13 3,.sl C.val),(.cell 13 4,.sl C.ex)]⟩)]:LS)
theorem v3v(Qb:Zg)(j2h:j0x)(X:q4g)(list:List (Int))(at_:Int)(segments:List (ByteArray))(levels:Int)(K:Ex->Int->Prop):j6s Qb j2h X list at_ segments levels K=fnV (((WL [(49,Vm Qb),(165,j6w j2h)]).with 113 (j6x X)).pl w6r) 4 113 ([.ptr 104 [.c,.v],.sl C.str,.v]:LP) ([.el C.ex]:LP) ([.ptr 104 [.sl C.u8,.int .i64],.sl C.str,.int .i64]:LV) ([.el C.ex]:LV) ([.ptr 104 [.same,.int .i64],.same,.same]:LV) ((list,at_,()),segments,levels,()) (fun r o=>K r.1 o.1.2.1):=by kernel_rfl
theorem v2f:MT 113 (j6x z2d):=by
 show MT _ (conV ([.ptr 104 [.c,.v],.sl C.str,.v]:LP) ([.ptr 104 [.sl C.u8,.int .i64],.sl C.str,.int .i64]:LV) ([.el C.ex]:LV) ([.ptr 104 [.same,.int .i64],.same,.same]:LV) fun a K=>z2d a.1.1 a.1.2.1 a.2.1 a.2.2.1 (fun q0 q1=>K (q0,()) (((),q1,()),(),(),())))
 refine mR (l:=[(49,Vm Zc),(165,j6w z65)]) (u:=4) (rk:=[.el C.ex]) (p:=w6r) ⟨Gt,y1v,trivial⟩ (by kernel_rfl) fun a K h X hX=> ?_
 exact h (fun list at_ segments levels K=>X ((list,at_,()),segments,levels,()) fun r o=>K r.1 o.1.2.1) (fun list at_ segments levels K hs=>hX ((list,at_,()),segments,levels,()) (fun r o=>K r.1 o.1.2.1) (Eq.mp (v3v Zc z65 (fun list at_ segments levels K=>X ((list,at_,()),segments,levels,()) fun r o=>K r.1 o.1.2.1) list at_ segments levels K) hs))
def z5k(X:q44):Con Sg:=conV [.ptr 104 [.c,.v],.ptr 36 [.v,.v,.v,.sl C.decl,.own 147 C.seg,.own 122 C.flag,.own 59 C.layer,.own 68 C.exper]] [.ptr 104 [.sl C.u8,.int .i64],.ptr 36 [.str,.str,.int .i64,.sl C.decl,.vec 147 C.seg,.vec 122 C.flag,.vec 59 C.layer,.vec 68 C.exper]] [] [.ptr 104 [.same,.int .i64],.ptr 36 [.str,.str,.int .i64,.sl C.decl,.vec 147 C.seg,.vec 122 C.flag,.vec 59 C.layer,.vec 68 C.exper]] fun a K=>X a.1.1 a.1.2.1 a.2.1.1 a.2.1.2.1 a.2.1.2.2.1 a.2.1.2.2.2.1 a.2.1.2.2.2.2.1 a.2.1.2.2.2.2.2.1 a.2.1.2.2.2.2.2.2.1 a.2.1.2.2.2.2.2.2.2.1 (fun q0 q1 q2 q3 q4 q5 q6 q7 q8=>K () (((),q0,()),(q1,q2,q3,q4,q5,q6,q7,q8,()),()))
theorem w6s(Qb:Zg)(q27:z63)(q4r:z2b)(q4s:q4g)(h:AL [(49,Vm Qb),(60,w3z q27),(112,j6v q4r),(113,j6x q4s)]):MT 59 (z5k (z4r Qb q27 q4r q4s)):=mP (rk:=[]) h (by kernel_rfl) [(5,⟨bl 1427,[3,4,5],[(0,(104,2)),(1,(36,8))],[sI 5,(.cell 0 1,.int .i64),(.cell 1 4,.own 147 C.seg)]⟩),(14,⟨bl 67010035,[11,10,9,1],[(12,(147,9)),(0,(104,2))],[(.cell 12 1,.str),(.cell 0 1,.int .i64)]⟩),(18,⟨bl 67010035,[11,10,9,1],[(12,(147,9)),(0,(104,2))],[(.cell 12 4,.int .i64),(.cell 12 5,.str),(.cell 12 6,.str),(.cell 12 7,.sl C.val),(.cell 12 8,.sl C.ex),(.cell 0 1,.int .i64)]⟩)] fun a K=>by kernel_rfl
theorem w6t:MT 59 (z5k q45):=w6s Zc z64 z2c z2d ⟨Gt,v2d,v2e,v2f,trivial⟩
def z5l(X:q1t):Con Sg:=conS [.el C.env] [.vec 9 C.str] fun a K=>X a.1 (fun q0=>K (q0,()))
theorem j8f:MT 114 (z5l H5):=mS (l:=[]) trivial (by kernel_rfl) [(7,⟨[0,1,2],[0],[],[(.slot 3,.own 9 C.str),sI 4]⟩)] fun a K=>by kernel_rfl
def j1b(X:q7q):Con Sg:=conV [.ptr 104 [.c,.v],.v] [.ptr 104 [.sl C.u8,.int .i64],.int .i64] [.vec 70 C.range] [.ptr 104 [.same,.int .i64],.same] fun a K=>X a.1.1 a.1.2.1 a.2.1 (fun q0 q1=>K (q0,()) (((),q1,()),(),()))
theorem v7y(Qb:Zg)(Wu:q6h)(h:AL [(49,Vm Qb),(51,j1a Wu)]):MT 117 (j1b (j71 Qb Wu)):=mP (rk:=[.own 70 C.range]) h (by kernel_rfl) [(26,⟨[0,1,4],[],[(0,(104,2))],[(.slot 5,.own 70 C.range),sI 6,sI 7,(.cell 0 1,.int .i64)]⟩),(32,⟨bl 8444249301319923,[0,1],[],[sI 11]⟩),(9,⟨[0,1,4],[],[(0,(104,2))],[(.slot 5,.own 70 C.range),sI 6,sI 7,sI 8,(.cell 0 1,.int .i64)]⟩),(20,⟨bl 2144334835,[0,1],[],[sI 10]⟩)] fun _ _=>by kernel_rfl
theorem w6u:MT 117 (j1b q7r):=v7y Zc q6i ⟨Gt,w3y,trivial⟩
end Go.En
end
noncomputable section
set_option maxRecDepth 100000
open Go Go.RowKit Go.Fl Go.Fl.Lk Go.Fx
namespace Go.En
def j8g(X:z4s):Con Sg:=conV [.ptr 104 [.c,.v],.v] [.ptr 104 [.sl C.u8,.int .i64],.int .i64] [.el C.serve] [.ptr 104 [.same,.int .i64],.same] fun a K=>X a.1.1 a.1.2.1 a.2.1 (fun q0 q1=>K (q0,()) (((),q1,()),(),()))
theorem v7z(Qb:Zg)(Wh:q1q)(q28:q7q)(Q3:W2)(h:AL [(49,Vm Qb),(58,z7d Wh),(117,j1b q28),(57,q5r Q3)]):MT 115 (j8g (j72 Qb Wh q28 Q3)):=mP (rk:=[.el C.serve]) h (by kernel_rfl) [] fun a K=>by kernel_rfl
theorem v70:MT 115 (j8g z4t):=v7z Zc q1r q7r Jx ⟨Gt,j6u,w6u,q9o,trivial⟩
def w6v(X:j0y):Con Sg:=conV [] [] [.ptr 248 [.vec 318 C.node,.map C.node C.i64,.bool]] [] fun _ K=>X (fun q0 q1 q2=>K ((q0,q1,q2,()),()) ())
theorem v71:MT 166 (w6v j73):=mP (rk:=[.ptr 248 [.own 318 C.node,.map C.node C.i64,.v]]) (l:=[]) trivial (by kernel_rfl) [] fun a K=>by kernel_rfl
def Rz(X:Wi):Con Sg:=conS [.int .i64] [.bool] fun a K=>X a.1 (fun q0=>K (q0,()))
theorem q8v:MT 143 (Rz Jd):=mS (l:=[]) trivial (by kernel_rfl) [] fun a K=>by kernel_rfl
def w6w(X:j0z):Con Sg:=conS [.sl C.str,.sl C.str] [.bool] fun a K=>X a.1 a.2.1 (fun q0=>K (q0,()))
theorem v72:MT 204 (w6w z4u):=mS (l:=[]) trivial (by kernel_rfl) [(9,⟨bl 1987,[],[],[sI 5]⟩)] fun a K=>by kernel_rfl
def z7e(X:q3m):Con Sg:=conS [.el C.val,.el C.val] [.bool] fun a K=>X a.1 a.2.1 (fun q0=>K (q0,()))
theorem v3w(j2k:j0z)(h:AL [(204,w6w j2k)]):MT 144 (z7e (j3f j2k)):=mS h (by kernel_rfl) [] fun a K=>by kernel_rfl
theorem w2d:MT 144 (z7e q1b):=v3w z4u ⟨v72,trivial⟩
def q2s(X:H6):Con Sg:=conS [.sl C.val,.sl C.val] [.bool] fun a K=>X a.1 a.2.1 (fun q0=>K (q0,()))
theorem j8h(Ga:q3m)(h:AL [(144,z7e Ga)]):MT 278 (q2s (q7s Ga)):=mS h (by kernel_rfl) [(9,⟨bl 1987,[],[],[sI 5]⟩)] fun a K=>by kernel_rfl
theorem j8i:MT 278 (q2s Us):=j8h q1b ⟨w2d,trivial⟩
def z2w(X:Vt):Con Sg:=conV [.el C.ex,.el C.ex] [.el C.ex,.el C.ex] [.bool] [.same,.same] fun a K=>X a.1 a.2.1 (fun q0=>K (q0,()) ((),(),()))
def z8f:PT:=Q4 ([(280000009,⟨bl 1987,[],[],[sI 5]⟩)]:LS)
theorem j8j(q29:H6)(X:Vt)(a:Ex)(b:Ex)(K:Bool->Prop):z2e q29 X a b K=fnV (((WL [(278,q2s q29)]).with 259 (z2w X)).pl z8f) 4 259 ([.el C.ex,.el C.ex]:LP) ([.v]:LP) ([.el C.ex,.el C.ex]:LV) ([.bool]:LV) ([.same,.same]:LV) (a,b,()) (fun r _=>K r.1):=by kernel_rfl
theorem w31:MT 259 (z2w R8):=by
 show MT _ (conV ([.el C.ex,.el C.ex]:LP) ([.el C.ex,.el C.ex]:LV) ([.bool]:LV) ([.same,.same]:LV) fun a K=>R8 a.1 a.2.1 (fun q0=>K (q0,()) ((),(),())))
 refine mR (l:=[(278,q2s Us)]) (u:=4) (rk:=[.v]) (p:=z8f) ⟨j8i,trivial⟩ (by kernel_rfl) fun a K h X hX=> ?_
 exact h (fun a b K=>X (a,b,()) fun r _=>K r.1) (fun a b K hs=>hX (a,b,()) (fun r _=>K r.1) (Eq.mp (j8j Us (fun a b K=>X (a,b,()) fun r _=>K r.1) a b K) hs))
def q32(X:q0t):Con Sg:=conS [.sl C.ex,.el C.ex] [.int .i64] fun a K=>X a.1 a.2.1 (fun q0=>K (q0,()))
theorem w9j(q6w:Vt)(h:AL [(259,z2w q6w)]):MT 221 (q32 (z81 q6w)):=mS h (by kernel_rfl) [(5,⟨[0,1,3],[0],[],[sI 5]⟩)] fun a K=>by kernel_rfl
theorem j8k:MT 221 (q32 Ug):=w9j R8 ⟨w31,trivial⟩
def z0l(X:W4):Con Sg:=conV [.sl C.ex,.el C.ex] [.sl C.ex,.el C.ex] [.sl C.ex] [.same,.same] fun a K=>X a.1 a.2.1 (fun q0=>K (q0,()) ((),(),()))
def z5m:PT:=Q4 ([(6,⟨[1,3,4],[0],[],[(.slot 0,.sl C.ex)]⟩),(9,⟨[1,3,4],[0],[],[(.slot 0,.sl C.ex),sI 5]⟩)]:LS)
theorem j5n(Ul:q0t)(Qv:Wi)(X:W4)(l:List (Ex))(e:Ex)(K:List (Ex)->Prop):z0d Ul Qv X l e K=fnV (((WL [(221,q32 Ul),(143,Rz Qv)]).with 218 (z0l X)).pl z5m) 4 218 ([.sl C.ex,.el C.ex]:LP) ([.sl C.ex]:LP) ([.sl C.ex,.el C.ex]:LV) ([.sl C.ex]:LV) ([.same,.same]:LV) (l,e,()) (fun r _=>K r.1):=by kernel_rfl
theorem w0m:MT 218 (z0l B0):=by
 show MT _ (conV ([.sl C.ex,.el C.ex]:LP) ([.sl C.ex,.el C.ex]:LV) ([.sl C.ex]:LV) ([.same,.same]:LV) fun a K=>B0 a.1 a.2.1 (fun q0=>K (q0,()) ((),(),())))
 refine mR (l:=[(221,q32 Ug),(143,Rz Jd)]) (u:=4) (rk:=[.sl C.ex]) (p:=z5m) ⟨j8k,q8v,trivial⟩ (by kernel_rfl) fun a K h X hX=> ?_
 exact h (fun l e K=>X (l,e,()) fun r _=>K r.1) (fun l e K hs=>hX (l,e,()) (fun r _=>K r.1) (Eq.mp (j5n Ug Jd (fun l e K=>X (l,e,()) fun r _=>K r.1) l e K) hs))
def q8w(X:H7):Con Sg:=conS [.sl C.rule] [.sl C.ex] fun a K=>X a.1 (fun q0=>K (q0,()))
theorem j8l(q4t:W4)(h:AL [(218,z0l q4t)]):MT 167 (q8w (q7t q4t)):=mS h (by kernel_rfl) [(7,⟨[0,2],[],[],[(.slot 3,.sl C.ex),sI 4]⟩)] fun a K=>by kernel_rfl
theorem j8m:MT 167 (q8w H8):=j8l B0 ⟨w0m,trivial⟩
def q2t(X:J7):Con Sg:=conV [.ptr 248 [.own 318 C.node,.map C.node C.i64,.v],.v] [.ptr 248 [.vec 318 C.node,.map C.node C.i64,.bool],.int .i64] [.bool] [.ptr 248 [.vec 318 C.node,.map C.node C.i64,.bool],.same] fun a K=>X a.1.1 a.1.2.1 a.1.2.2.1 a.2.1 (fun q0 q1 q2 q3=>K (q0,()) ((q1,q2,q3,()),(),()))
theorem q6p:MT 260 (q2t Jr):=mP (rk:=[.v]) (l:=[]) trivial (by kernel_rfl) [] fun a K=>by kernel_rfl
def z36(X:q0i):Con Sg:=conV [.ptr 248 [.own 318 C.node,.map C.node C.i64,.v],.v] [.ptr 248 [.vec 318 C.node,.map C.node C.i64,.bool],.int .i64] [.map C.i64 C.bool] [.ptr 248 [.vec 318 C.node,.map C.node C.i64,.bool],.same] fun a K=>X a.1.1 a.1.2.1 a.1.2.2.1 a.2.1 (fun q0 q1 q2 q3=>K (q0,()) ((q1,q2,q3,()),(),()))
theorem j5o:MT 280 (z36 G4):=mP (rk:=[.map C.i64 C.bool]) (l:=[]) trivial (by kernel_rfl) [(7,⟨bl 1843,[0,1,2],[],[(.slot 6,.own 3 C.i64),(.obj 3,.map C.i64 C.bool)]⟩)] fun a K=>by kernel_rfl
def q33(X:Ut):Con Sg:=conV [.ptr 248 [.own 318 C.node,.map C.node C.i64,.v],.v] [.ptr 248 [.vec 318 C.node,.map C.node C.i64,.bool],.int .i64] [.vec 3 C.i64] [.ptr 248 [.vec 318 C.node,.map C.node C.i64,.bool],.same] fun a K=>X a.1.1 a.1.2.1 a.1.2.2.1 a.2.1 (fun q0 q1 q2 q3=>K (q0,()) ((q1,q2,q3,()),(),()))
theorem j3t(Qw:J7)(q0n:q0i)(h:AL [(260,q2t Qw),(280,z36 q0n)]):MT 262 (q33 (z01 Qw q0n)):=mP (rk:=[.own 3 C.i64]) h (by kernel_rfl) [(13,⟨bl 32563,[5,0,4,2],[],[(.slot 6,.own 3 C.i64),sI 7]⟩)] fun a K=>by kernel_rfl
theorem j3u:MT 262 (q33 Uu):=j3t Jr G4 ⟨q6p,j5o,trivial⟩
def Wo(X:Zh):Con Sg:=conV [.ptr 248 [.own 318 C.node,.map C.node C.i64,.v],.v] [.ptr 248 [.vec 318 C.node,.map C.node C.i64,.bool],.int .i64] [.bool] [.ptr 248 [.vec 318 C.node,.map C.node C.i64,.bool],.same] fun a K=>X a.1.1 a.1.2.1 a.1.2.2.1 a.2.1 (fun q0 q1 q2 q3=>K (q0,()) ((q1,q2,q3,()),(),()))
theorem z71(Qw:J7)(Bj:Ut)(h:AL [(260,q2t Qw),(262,q33 Bj)]):MT 223 (Wo (q6b Qw Bj)):=mP (rk:=[.v]) h (by kernel_rfl) [(11,⟨bl 16291,[5,0,4,2],[],[sI 6]⟩)] fun _ _=>by kernel_rfl
theorem Bv:MT 223 (Wo Zi):=z71 Jr Uu ⟨q6p,j3u,trivial⟩
end Go.En
end
noncomputable section
set_option maxRecDepth 100000
open Go Go.RowKit Go.Fl Go.Fl.Lk Go.Fx
namespace Go.En
def q0c(X:W5):Con Sg:=conV [.ptr 248 [.own 318 C.node,.map C.node C.i64,.v],.v] [.ptr 248 [.vec 318 C.node,.map C.node C.i64,.bool],.int .i64] [.int .i64] [.ptr 248 [.vec 318 C.node,.map C.node C.i64,.bool],.same] fun a K=>X a.1.1 a.1.2.1 a.1.2.2.1 a.2.1 (fun q0 q1 q2 q3=>K (q0,()) ((q1,q2,q3,()),(),()))
theorem z0m:MT 261 (q0c Jh):=mP (rk:=[.v]) (l:=[]) trivial (by kernel_rfl) [] fun a K=>by kernel_rfl
def q0l(X:G5):Con Sg:=conV [.ptr 248 [.own 318 C.node,.map C.node C.i64,.v],.v,.v] [.ptr 248 [.vec 318 C.node,.map C.node C.i64,.bool],.int .i64,.int .i64] [.int .i64,.int .i64] [.ptr 248 [.vec 318 C.node,.map C.node C.i64,.bool],.same,.same] fun a K=>X a.1.1 a.1.2.1 a.1.2.2.1 a.2.1 a.2.2.1 (fun q0 q1 q2 q3 q4=>K (q0,q1,()) ((q2,q3,q4,()),(),(),()))
theorem j5p(Q7:W5)(h:AL [(261,q0c Q7)]):MT 281 (q0l (z35 Q7)):=mP (rk:=[.v,.v]) h (by kernel_rfl) [] fun a K=>by kernel_rfl
theorem j5q:MT 281 (q0l Wj):=j5p Jh ⟨z0m,trivial⟩
def U7(X:Vb):Con Sg:=conV [.ptr 248 [.own 318 C.node,.map C.node C.i64,.v],.v,.v,.v] [.ptr 248 [.vec 318 C.node,.map C.node C.i64,.bool],.int .i64,.int .i64,.int .i64] [.int .i64] [.ptr 248 [.vec 318 C.node,.map C.node C.i64,.bool],.same,.same,.same] fun a K=>X a.1.1 a.1.2.1 a.1.2.2.1 a.2.1 a.2.2.1 a.2.2.2.1 (fun q0 q1 q2 q3=>K (q0,()) ((q1,q2,q3,()),(),(),(),()))
theorem j8n(Qw:J7)(Q7:W5)(h:AL [(260,q2t Qw),(261,q0c Q7)]):MT 222 (U7 (z4v Qw Q7)):=mP (rk:=[.v]) h (by kernel_rfl) [] fun a K=>by kernel_rfl
theorem z5n:MT 222 (U7 Ji):=j8n Jr Jh ⟨q6p,z0m,trivial⟩
def q34(X:Jo):Con Sg:=conV [.ptr 248 [.own 318 C.node,.map C.node C.i64,.v],.v,.v,.v,.map C.a3 C.i64] [.ptr 248 [.vec 318 C.node,.map C.node C.i64,.bool],.int .i64,.int .i64,.int .i64,.map C.a3 C.i64] [.int .i64] [.ptr 248 [.vec 318 C.node,.map C.node C.i64,.bool],.same,.same,.same,.map C.a3 C.i64] fun a K=>X a.1.1 a.1.2.1 a.1.2.2.1 a.2.1 a.2.2.1 a.2.2.2.1 a.2.2.2.2.1 (fun q0 q1 q2 q3 q4=>K (q0,()) ((q1,q2,q3,()),(),(),(),q4,()))
def q9p:PT:=Q4 ([(36,⟨bl 4951760157141239551596952607,[3,4],[(0,(248,3))],[sI 23,(.cell 0 0,.own 318 C.node),(.cell 0 2,.bool),(.obj 2,.map C.node C.i64)]⟩)]:LS)
theorem z9j(Q7:W5)(Vp:G5)(Ju:Vb)(X:Jo)(ns:List (Nd))(ids:(Nd->Option (Int)))(full:Bool)(f:Int)(g:Int)(h:Int)(known:(A3->Option (Int)))(K:Int->List (Nd)->(Nd->Option (Int))->Bool->(A3->Option (Int))->Prop):Uv Q7 Vp Ju X ns ids full f g h known K=fnV (((WL [(261,q0c Q7),(281,q0l Vp),(222,U7 Ju)]).with 263 (q34 X)).pl q9p) 4 263 ([.ptr 248 [.own 318 C.node,.map C.node C.i64,.v],.v,.v,.v,.map C.a3 C.i64]:LP) ([.v]:LP) ([.ptr 248 [.vec 318 C.node,.map C.node C.i64,.bool],.int .i64,.int .i64,.int .i64,.map C.a3 C.i64]:LV) ([.int .i64]:LV) ([.ptr 248 [.vec 318 C.node,.map C.node C.i64,.bool],.same,.same,.same,.map C.a3 C.i64]:LV) ((ns,ids,full,()),f,g,h,known,()) (fun r o=>K r.1 o.1.1 o.1.2.1 o.1.2.2.1 o.2.2.2.2.1):=by kernel_rfl
theorem j3v:MT 263 (q34 Uw):=by
 show MT _ (conV ([.ptr 248 [.own 318 C.node,.map C.node C.i64,.v],.v,.v,.v,.map C.a3 C.i64]:LP) ([.ptr 248 [.vec 318 C.node,.map C.node C.i64,.bool],.int .i64,.int .i64,.int .i64,.map C.a3 C.i64]:LV) ([.int .i64]:LV) ([.ptr 248 [.vec 318 C.node,.map C.node C.i64,.bool],.same,.same,.same,.map C.a3 C.i64]:LV) fun a K=>Uw a.1.1 a.1.2.1 a.1.2.2.1 a.2.1 a.2.2.1 a.2.2.2.1 a.2.2.2.2.1 (fun q0 q1 q2 q3 q4=>K (q0,()) ((q1,q2,q3,()),(),(),(),q4,())))
 refine mR (l:=[(261,q0c Jh),(281,q0l Wj),(222,U7 Ji)]) (u:=4) (rk:=[.v]) (p:=q9p) ⟨z0m,j5q,z5n,trivial⟩ (by kernel_rfl) fun a K h X hX=> ?_
 exact h (fun ns ids full f g h known K=>X ((ns,ids,full,()),f,g,h,known,()) fun r o=>K r.1 o.1.1 o.1.2.1 o.1.2.2.1 o.2.2.2.2.1) (fun ns ids full f g h known K hs=>hX ((ns,ids,full,()),f,g,h,known,()) (fun r o=>K r.1 o.1.1 o.1.2.1 o.1.2.2.1 o.2.2.2.2.1) (Eq.mp (z9j Jh Wj Ji (fun ns ids full f g h known K=>X ((ns,ids,full,()),f,g,h,known,()) fun r o=>K r.1 o.1.1 o.1.2.1 o.1.2.2.1 o.2.2.2.2.1) ns ids full f g h known K) hs))
def U8(X:Z0):Con Sg:=conV [.ptr 248 [.own 318 C.node,.map C.node C.i64,.v],.v,.v,.v] [.ptr 248 [.vec 318 C.node,.map C.node C.i64,.bool],.int .i64,.int .i64,.int .i64] [.int .i64] [.ptr 248 [.vec 318 C.node,.map C.node C.i64,.bool],.same,.same,.same] fun a K=>X a.1.1 a.1.2.1 a.1.2.2.1 a.2.1 a.2.2.1 a.2.2.2.1 (fun q0 q1 q2 q3=>K (q0,()) ((q1,q2,q3,()),(),(),(),()))
theorem j3w(Qp:Zh)(Qw:J7)(Bk:Jo)(h:AL [(223,Wo Qp),(260,q2t Qw),(263,q34 Bk)]):MT 224 (U8 (z02 Qp Qw Bk)):=mP (rk:=[.v]) h (by kernel_rfl) [] fun a K=>by kernel_rfl
theorem q35:MT 224 (U8 Z1):=j3w Zi Jr Uw ⟨Bv,q6p,j3v,trivial⟩
def q4o(X:B1):Con Sg:=conV [.ptr 248 [.own 318 C.node,.map C.node C.i64,.v],.v] [.ptr 248 [.vec 318 C.node,.map C.node C.i64,.bool],.int .i64] [.int .i64] [.ptr 248 [.vec 318 C.node,.map C.node C.i64,.bool],.same] fun a K=>X a.1.1 a.1.2.1 a.1.2.2.1 a.2.1 (fun q0 q1 q2 q3=>K (q0,()) ((q1,q2,q3,()),(),()))
theorem w0n(Q1:Z0)(h:AL [(224,U8 Q1)]):MT 219 (q4o (z8d Q1)):=mP (rk:=[.v]) h (by kernel_rfl) [] fun a K=>by kernel_rfl
theorem w0o:MT 219 (q4o Hm):=w0n Z1 ⟨q35,trivial⟩
def q4p(X:B2):Con Sg:=conV [.ptr 248 [.own 318 C.node,.map C.node C.i64,.v],.v,.v] [.ptr 248 [.vec 318 C.node,.map C.node C.i64,.bool],.int .i64,.int .i64] [.int .i64] [.ptr 248 [.vec 318 C.node,.map C.node C.i64,.bool],.same,.same] fun a K=>X a.1.1 a.1.2.1 a.1.2.2.1 a.2.1 a.2.2.1 (fun q0 q1 q2 q3=>K (q0,()) ((q1,q2,q3,()),(),(),()))
theorem w0p(Qp:Zh)(Q1:Z0)(h:AL [(223,Wo Qp),(224,U8 Q1)]):MT 220 (q4p (z8e Qp Q1)):=mP (rk:=[.v]) h (by kernel_rfl) [] fun a K=>by kernel_rfl
theorem w0q:MT 220 (q4p Hn):=w0p Zi Z1 ⟨Bv,q35,trivial⟩
def q2u(X:Ge):Con Sg:=conV [.ptr 248 [.own 318 C.node,.map C.node C.i64,.v],.v,.v] [.ptr 248 [.vec 318 C.node,.map C.node C.i64,.bool],.int .i64,.int .i64] [.int .i64] [.ptr 248 [.vec 318 C.node,.map C.node C.i64,.bool],.same,.same] fun a K=>X a.1.1 a.1.2.1 a.1.2.2.1 a.2.1 a.2.2.1 (fun q0 q1 q2 q3=>K (q0,()) ((q1,q2,q3,()),(),(),()))
theorem w32(Qp:Zh)(Q1:Z0)(h:AL [(223,Wo Qp),(224,U8 Q1)]):MT 169 (q2u (j00 Qp Q1)):=mP (rk:=[.v]) h (by kernel_rfl) [] fun a K=>by kernel_rfl
theorem j1c:MT 169 (q2u Vu):=w32 Zi Z1 ⟨Bv,q35,trivial⟩
def q8x(X:We):Con Sg:=conV [.ptr 248 [.own 318 C.node,.map C.node C.i64,.v],.sl C.ex,.el C.ex] [.ptr 248 [.vec 318 C.node,.map C.node C.i64,.bool],.sl C.ex,.el C.ex] [.int .i64] [.ptr 248 [.vec 318 C.node,.map C.node C.i64,.bool],.same,.same] fun a K=>X a.1.1 a.1.2.1 a.1.2.2.1 a.2.1 a.2.2.1 (fun q0 q1 q2 q3=>K (q0,()) ((q1,q2,q3,()),(),(),()))
def z38:PT:=Q4 ([(16,⟨bl 129127,[3,0,1,2],[],[sB 26]⟩),(21,⟨bl 68249843815,[3],[(0,(248,3))],[sI 7,sI 8,(.cell 0 0,.own 318 C.node),(.cell 0 2,.bool),(.obj 2,.map C.node C.i64)]⟩)]:LS)
theorem j3x(q4u:B1)(q4v:B2)(Wv:Ge)(Ul:q0t)(Ju:Vb)(X:We)(ns:List (Nd))(ids:(Nd->Option (Int)))(full:Bool)(atoms:List (Ex))(e:Ex)(K:Int->List (Nd)->(Nd->Option (Int))->Bool->Prop):q7u q4u q4v Wv Ul Ju X ns ids full atoms e K=fnV (((WL [(219,q4o q4u),(220,q4p q4v),(169,q2u Wv),(221,q32 Ul),(222,U7 Ju)]).with 168 (q8x X)).pl z38) 4 168 ([.ptr 248 [.own 318 C.node,.map C.node C.i64,.v],.sl C.ex,.el C.ex]:LP) ([.v]:LP) ([.ptr 248 [.vec 318 C.node,.map C.node C.i64,.bool],.sl C.ex,.el C.ex]:LV) ([.int .i64]:LV) ([.ptr 248 [.vec 318 C.node,.map C.node C.i64,.bool],.same,.same]:LV) ((ns,ids,full,()),atoms,e,()) (fun r o=>K r.1 o.1.1 o.1.2.1 o.1.2.2.1):=by kernel_rfl
theorem j8o:MT 168 (q8x H9):=by
 show MT _ (conV ([.ptr 248 [.own 318 C.node,.map C.node C.i64,.v],.sl C.ex,.el C.ex]:LP) ([.ptr 248 [.vec 318 C.node,.map C.node C.i64,.bool],.sl C.ex,.el C.ex]:LV) ([.int .i64]:LV) ([.ptr 248 [.vec 318 C.node,.map C.node C.i64,.bool],.same,.same]:LV) fun a K=>H9 a.1.1 a.1.2.1 a.1.2.2.1 a.2.1 a.2.2.1 (fun q0 q1 q2 q3=>K (q0,()) ((q1,q2,q3,()),(),(),())))
 refine mR (l:=[(219,q4o Hm),(220,q4p Hn),(169,q2u Vu),(221,q32 Ug),(222,U7 Ji)]) (u:=4) (rk:=[.v]) (p:=z38) ⟨w0o,w0q,j1c,j8k,z5n,trivial⟩ (by kernel_rfl) fun a K h X hX=> ?_
 exact h (fun ns ids full atoms e K=>X ((ns,ids,full,()),atoms,e,()) fun r o=>K r.1 o.1.1 o.1.2.1 o.1.2.2.1) (fun ns ids full atoms e K hs=>hX ((ns,ids,full,()),atoms,e,()) (fun r o=>K r.1 o.1.1 o.1.2.1 o.1.2.2.1) (Eq.mp (j3x Hm Hn Vu Ug Ji (fun ns ids full atoms e K=>X ((ns,ids,full,()),atoms,e,()) fun r o=>K r.1 o.1.1 o.1.2.1 o.1.2.2.1) ns ids full atoms e K) hs))
def Bf(X:J1):Con Sg:=conS [.sl C.rule] [.vec 3 C.i64,.int .i64,.bool] fun a K=>X a.1 (fun q0 q1 q2=>K (q0,q1,q2,()))
theorem j3y(j2m:j0y)(q3a:H7)(q3b:We)(Wv:Ge)(h:AL [(166,w6v j2m),(167,q8w q3a),(168,q8x q3b),(169,q2u Wv)]):MT 116 (Bf (q3n j2m q3a q3b Wv)):=mS h (by kernel_rfl) [(13,⟨bl 28769,[],[(0,(248,3))],[sI 7,(.slot 8,.own 3 C.i64),sI 9,(.cell 0 0,.own 318 C.node),(.cell 0 2,.bool),(.obj 2,.map C.node C.i64)]⟩)] fun a K=>by kernel_rfl
theorem z1u:MT 116 (Bf J2):=j3y j73 H8 H9 Vu ⟨v71,j8m,j8o,j1c,trivial⟩
def j8p(X:z4w):Con Sg:=conV [.ptr 104 [.c,.v],.v] [.ptr 104 [.sl C.u8,.int .i64],.str] [.el C.layer] [.ptr 104 [.same,.int .i64],.same] fun a K=>X a.1.1 a.1.2.1 a.2.1 (fun q0 q1=>K (q0,()) (((),q1,()),(),()))
theorem v73(Wh:q1q)(Qb:Zg)(Wu:q6h)(h:AL [(58,z7d Wh),(49,Vm Qb),(51,j1a Wu)]):MT 62 (j8p (j74 Wh Qb Wu)):=mP (rk:=[.el C.layer]) h (by kernel_rfl) [(8,⟨bl 130099,[1],[(2,(59,6)),(0,(104,2))],[(.cell 2 1,.str),(.cell 0 1,.int .i64)]⟩),(12,⟨bl 130099,[1],[(2,(59,6)),(0,(104,2))],[(.cell 2 3,.int .i64),(.cell 0 1,.int .i64)]⟩),(17,⟨bl 130099,[1],[(2,(59,6)),(0,(104,2))],[sI 6,sI 7,(.cell 2 5,.own 197 C.cool),(.cell 0 1,.int .i64)]⟩)] fun a K=>by kernel_rfl
theorem v74:MT 62 (j8p z4x):=v73 q1r Zc q6i ⟨j6u,Gt,w3y,trivial⟩
def w2e(X:z66):Con Sg:=conS [.int .i64] [.bool] fun a K=>X a.1 (fun q0=>K (q0,()))
theorem v3x:MT 149 (w2e z03):=mS (l:=[]) trivial (by kernel_rfl) [] fun a K=>by kernel_rfl
def q6q(X:Vv):Con Sg:=conS [.el C.env,.str] [.int .i64] fun a K=>X a.1 a.2.1 (fun q0=>K (q0,()))
theorem z2x:MT 41 (q6q Vw):=mS (l:=[]) trivial (by kernel_rfl) [(5,⟨[0,1,2],[0],[],[sI 5]⟩)] fun a K=>by kernel_rfl
def z5o(X:q1u):Con Sg:=conS [.sl C.cool,.int .i64] [.vec 3 C.i64] fun a K=>X a.1 a.2.1 (fun q0=>K (q0,()))
theorem j8q:MT 95 (z5o Ra):=mS (l:=[]) trivial (by kernel_rfl) [(7,⟨bl 563,[],[],[sI 6,(.obj 0,.own 3 C.i64)]⟩),(15,⟨bl 15987,[],[],[sI 7,(.obj 0,.own 3 C.i64)]⟩),(21,⟨bl 4243603187,[],[],[sI 8,(.obj 0,.own 3 C.i64)]⟩)] fun _ _=>by kernel_rfl
end Go.En
end
noncomputable section
set_option maxRecDepth 100000
open Go Go.RowKit Go.Fl Go.Fl.Lk Go.Fx
namespace Go.En
def q36(X:Wk):Con Sg:=conS [.sl C.bool] [.vec 95 C.span] fun a K=>X a.1 (fun q0=>K (q0,()))
theorem q8y:MT 150 (q36 J3):=mS (l:=[]) trivial (by kernel_rfl) [(7,⟨[0,2],[],[],[(.slot 3,.own 95 C.span),sI 4]⟩)] fun a K=>by kernel_rfl
def z9k(X:q7v):Con Sg:=conS [.sl C.i64,.int .i64] [.vec 95 C.span] fun a K=>X a.1 a.2.1 (fun q0=>K (q0,()))
theorem w9k(Q5:Wk)(h:AL [(150,q36 Q5)]):MT 151 (z9k (z82 Q5)):=mS h (by kernel_rfl) [(7,⟨bl 947,[],[],[sI 6,(.obj 0,.own 4 C.bool)]⟩)] fun a K=>by kernel_rfl
theorem w9l:MT 151 (z9k q7w):=w9k J3 ⟨q8y,trivial⟩
def z5p(X:B3):Con Sg:=conS [.sl C.span] [.vec 4 C.bool] fun a K=>X a.1 (fun q0=>K (q0,()))
theorem j1d:MT 96 (z5p Rb):=mS (l:=[]) trivial (by kernel_rfl) [(7,⟨bl 77,[],[],[sI 4,(.obj 0,.own 4 C.bool)]⟩),(13,⟨bl 518109,[],[],[sI 5,(.obj 0,.own 4 C.bool)]⟩)] fun a K=>by kernel_rfl
def z9l(X:q7x):Con Sg:=conS [.sl C.span,.sl C.span] [.vec 95 C.span] fun a K=>X a.1 a.2.1 (fun q0=>K (q0,()))
theorem w9m(Jc:B3)(Q5:Wk)(h:AL [(96,z5p Jc),(150,q36 Q5)]):MT 90 (z9l (z83 Jc Q5)):=mS h (by kernel_rfl) [(7,⟨bl 3955,[1],[],[sI 7,(.obj 0,.own 4 C.bool)]⟩)] fun a K=>by kernel_rfl
theorem w9n:MT 90 (z9l q7y):=w9m Rb J3 ⟨j1d,q8y,trivial⟩
def z9m(X:q7z):Con Sg:=conS [.el C.env,.str,.str,.int .i64] [.vec 95 C.span] fun a K=>X a.1 a.2.1 a.2.2.1 a.2.2.2.1 (fun q0=>K (q0,()))
theorem w9o(Zt:Vv)(q07:q7x)(R1:q1u)(q4e:q7v)(h:AL [(41,q6q Zt),(90,z9l q07),(95,z5o R1),(151,z9k q4e)]):MT 94 (z9m (z84 Zt q07 R1 q4e)):=mS h (by kernel_rfl) [(10,⟨bl 254751,[0],[],[(.slot 10,.own 95 C.span)]⟩),(13,⟨bl 254751,[0],[],[(.slot 10,.own 95 C.span),sI 11]⟩)] fun a K=>by kernel_rfl
theorem w9p:MT 94 (z9m q70):=w9o Vw q7y Ra q7w ⟨z2x,w9n,j8q,w9l,trivial⟩
def z2y(X:q0u):Con Sg:=conS [.sl C.span,.sl C.span] [.vec 95 C.span] fun a K=>X a.1 a.2.1 (fun q0=>K (q0,()))
theorem w9q(Jc:B3)(Q5:Wk)(h:AL [(96,z5p Jc),(150,q36 Q5)]):MT 118 (z2y (z86 Jc Q5)):=mS h (by kernel_rfl) [(7,⟨bl 3955,[1],[],[sI 7,(.obj 0,.own 4 C.bool)]⟩)] fun a K=>by kernel_rfl
theorem j8r:MT 118 (z2y q0v):=w9q Rb J3 ⟨j1d,q8y,trivial⟩
def j3z(X:z04):Con Sg:=conS [.el C.env,.str,.int .i64] [.vec 95 C.span,.int .i64] fun a K=>X a.1 a.2.1 a.2.2.1 (fun q0 q1=>K (q0,q1,()))
theorem v3y(z7m:z66)(Zt:Vv)(z3s:q7z)(Gx:q0u)(h:AL [(149,w2e z7m),(41,q6q Zt),(94,z9m z3s),(118,z2y Gx)]):MT 88 (j3z (j3g z7m Zt z3s Gx)):=mS h (by kernel_rfl) [] fun a K=>by kernel_rfl
theorem v3z:MT 88 (j3z z05):=v3y z03 Vw q70 q0v ⟨v3x,z2x,w9p,j8r,trivial⟩
def z9n(X:q71):Con Sg:=conS [.sl C.span,.int .i64] [.vec 95 C.span] fun a K=>X a.1 a.2.1 (fun q0=>K (q0,()))
theorem w9r(Jc:B3)(Q5:Wk)(h:AL [(96,z5p Jc),(150,q36 Q5)]):MT 91 (z9n (z87 Jc Q5)):=mS h (by kernel_rfl) [(7,⟨bl 433,[],[],[sI 1,sI 6,(.obj 0,.own 4 C.bool)]⟩)] fun a K=>by kernel_rfl
theorem w9s:MT 91 (z9n q72):=w9r Rb J3 ⟨j1d,q8y,trivial⟩
def q2v(X:Vx):Con Sg:=conV [.v] [.str] [.bool] [.same] fun a K=>X a.1 (fun q0=>K (q0,()) ((),()))
theorem q9q:MT 246 (q2v Js):=⟨entB (by kernel_rfl),j08⟩
def Bg(X:Jp):Con Sg:=conS [.str] [.bool] fun a K=>X a.1 (fun q0=>K (q0,()))
theorem v30(Zu:Vx)(h:AL [(246,q2v Zu)]):MT 209 (Bg (z67 Zu)):=mS h (by kernel_rfl) [(9,⟨bl 4081,[],[],[sI 3]⟩)] fun a K=>by kernel_rfl
theorem q37:MT 209 (Bg Z2):=v30 Js ⟨q9q,trivial⟩
def w6x(X:j01):Con Sg:=conS [.str] [.bool] fun a K=>X a.1 (fun q0=>K (q0,()))
theorem v77:MT 247 (w6x z4y):=mS (l:=[]) trivial (by kernel_rfl) [(5,⟨[0],[],[],[sI 3]⟩)] fun a K=>by kernel_rfl
def j1e(X:q6j):Con Sg:=conS [] [.vec 9 C.str] fun _ K=>X (fun q0=>K (q0,()))
theorem w33:MT 248 (j1e q1v):=mS (l:=[]) trivial (by kernel_rfl) [] fun a K=>by kernel_rfl
def Bh(X:Jk):Con Sg:=conS [.str] [.bool] fun a K=>X a.1 (fun q0=>K (q0,()))
theorem y1w(j2n:j01)(q6x:q6j)(h:AL [(247,w6x j2n),(248,j1e q6x)]):MT 210 (Bh (w3r j2n q6x)):=mS h (by kernel_rfl) [(11,⟨bl 16361,[0],[],[sI 4]⟩)] fun a K=>by kernel_rfl
theorem q2w:MT 210 (Bh Jl):=y1w z4y q1v ⟨v77,w33,trivial⟩
def z2z(X:q1w):Con Sg:=conS [.el C.settings] [.int .i64] fun a K=>X a.1 (fun q0=>K (q0,()))
theorem w34(Qs:Jp)(Qk:Jk)(h:AL [(209,Bg Qs),(210,Bh Qk)]):MT 152 (z2z (z2f Qs Qk)):=mS h (by kernel_rfl) [] fun _ _=>by kernel_rfl
theorem w35:MT 152 (z2z q1x):=w34 Z2 Jl ⟨q37,q2w,trivial⟩
end Go.En
end
noncomputable section
set_option maxRecDepth 100000
open Go Go.RowKit Go.Fl Go.Fl.Lk Go.Fx
namespace Go.En
def z22(X:q1y):Con Sg:=conS [.sl C.decl] [.int .i64] fun a K=>X a.1 (fun q0=>K (q0,()))
theorem w36(Qk:Jk)(h:AL [(210,Bh Qk)]):MT 153 (z22 (z2g Qk)):=mS h (by kernel_rfl) [(9,⟨bl 113,[],[],[sI 3]⟩)] fun a K=>by kernel_rfl
theorem w37:MT 153 (z22 q1z):=w36 Jl ⟨q2w,trivial⟩
def q9r(X:Rd):Con Sg:=conS [.sl C.str] [.int .i64] fun a K=>X a.1 (fun q0=>K (q0,()))
theorem w6y(Qs:Jp)(h:AL [(209,Bg Qs)]):MT 249 (q9r (z4z Qs)):=mS h (by kernel_rfl) [(9,⟨bl 113,[],[],[sI 3]⟩)] fun a K=>by kernel_rfl
theorem j42:MT 249 (q9r Re):=w6y Z2 ⟨q37,trivial⟩
def w6z(X:j02):Con Sg:=conS [.el C.ex] [.bool] fun a K=>X a.1 (fun q0=>K (q0,()))
theorem v78:MT 250 (w6z z40):=mS (l:=[]) trivial (by kernel_rfl) [] fun a K=>by kernel_rfl
def z9o(X:q73):Con Sg:=conS [.el C.ex] [.bool] fun a K=>X a.1 (fun q0=>K (q0,()))
theorem w9t(Qv:Wi)(h:AL [(143,Rz Qv)]):MT 301 (z9o (z88 Qv)):=mS h (by kernel_rfl) [(20,⟨bl 16327,[0],[],[sB 3,sB 4]⟩)] fun a K=>by kernel_rfl
theorem w9u:MT 301 (z9o q74):=w9t Jd ⟨q8v,trivial⟩
def w2f(X:z68):Con Sg:=conS [.el C.val] [.bool] fun a K=>X a.1 (fun q0=>K (q0,()))
theorem v32:MT 243 (w2f q3o):=mS (l:=[]) trivial (by kernel_rfl) [] fun a K=>by kernel_rfl
def z39(X:q0j):Con Sg:=conS [.str] [.int .i64,.int .i64] fun a K=>X a.1 (fun q0 q1=>K (q0,q1,()))
theorem j5r:MT 245 (z39 Jy):=mS (l:=[]) trivial (by kernel_rfl) [(8,⟨bl 269,[],[],[(.slot 4,.str)]⟩),(11,⟨[0,4,8],[],[],[sI 5]⟩),(31,⟨bl 562915601547569,[],[],[sI 6,sI 7]⟩)] fun a K=>by kernel_rfl
def z7f(X:q3p):Con Sg:=conS [.str] [.el C.a3,.bool] fun a K=>X a.1 (fun q0 q1=>K (q0,q1,()))
theorem v33(Hj:q0j)(h:AL [(245,z39 Hj)]):MT 207 (z7f (z69 Hj)):=mS h (by kernel_rfl) [(9,⟨[0,2,4],[],[(1,(257,3)),(0,(257,3))],[sI 5,sI 6,(.cell 1 0,.int .i64),(.cell 1 1,.int .i64),(.cell 1 2,.int .i64),(.cell 0 0,.int .i64),(.cell 0 1,.int .i64),(.cell 0 2,.int .i64)]⟩),(15,⟨bl 19669,[1,0],[],[sI 5]⟩)] fun a K=>by kernel_rfl
theorem w2g:MT 207 (z7f R9):=v33 Jy ⟨j5r,trivial⟩
def j8s(X:z41):Con Sg:=conS [.sl C.str] [.int .i64] fun a K=>X a.1 (fun q0=>K (q0,()))
theorem v79(Qs:Jp)(h:AL [(209,Bg Qs)]):MT 244 (j8s (j03 Qs)):=mS h (by kernel_rfl) [(9,⟨bl 225,[],[],[sI 3]⟩),(19,⟨bl 4073,[],[],[sI 4]⟩)] fun a K=>by kernel_rfl
theorem v8a:MT 244 (j8s q75):=v79 Z2 ⟨q37,trivial⟩
def z1v(X:Ba):Con Sg:=conS [.el C.val] [.int .i64] fun a K=>X a.1 (fun q0=>K (q0,()))
theorem v34(z7n:z68)(Qs:Jp)(Hr:q3p)(j2o:z41)(h:AL [(243,w2f z7n),(209,Bg Qs),(207,z7f Hr),(244,j8s j2o)]):MT 205 (z1v (z7a z7n Qs Hr j2o)):=mS h (by kernel_rfl) [] fun a K=>by kernel_rfl
theorem j30:MT 205 (z1v Ux):=v34 q3o Z2 R9 q75 ⟨v32,q37,w2g,v8a,trivial⟩
def j1f(X:z42):Con Sg:=conS [.el C.ex] [.int .i64] fun a K=>X a.1 (fun q0=>K (q0,()))
theorem v8b(z3t:q73)(Qv:Wi)(Qk:Jk)(Zw:Ba)(h:AL [(301,z9o z3t),(143,Rz Qv),(210,Bh Qk),(205,z1v Zw)]):MT 292 (j1f (j75 z3t Qv Qk Zw)):=mS h (by kernel_rfl) [(17,⟨bl 134217667,[0],[],[sI 3]⟩),(31,⟨bl 9412450882139616968651,[0],[],[sI 4]⟩)] fun a K=>by kernel_rfl
theorem v8c:MT 292 (j1f z06):=v8b q74 Jd Jl Ux ⟨w9u,q8v,q2w,j30,trivial⟩
def j8t(X:q46):Con Sg:=conV [.el C.ex,.v,.ptr 3 [.v]] [.el C.ex,.int .i64,.ptr 3 [.int .i64]] [.int .i64] [.same,.same,.ptr 3 [.int .i64]] fun a K=>X a.1 a.2.1 a.2.2.1.1 (fun q0 q1=>K (q0,()) ((),(),(q1,()),()))
def w2h:PT:=Q4 ([(21,⟨bl 33553551,[1],[(0,(3,1))],[sI 8,(.cell 0 0,.int .i64)]⟩)]:LS)
theorem w9v(j2p:z42)(X:q46)(e:Ex)(depth:Int)(n:Int)(K:Int->Int->Prop):j76 j2p X e depth n K=fnV (((WL [(292,j1f j2p)]).with 277 (j8t X)).pl w2h) 4 277 ([.el C.ex,.v,.ptr 3 [.v]]:LP) ([.v]:LP) ([.el C.ex,.int .i64,.ptr 3 [.int .i64]]:LV) ([.int .i64]:LV) ([.same,.same,.ptr 3 [.int .i64]]:LV) (e,depth,(n,()),()) (fun r o=>K r.1 o.2.2.1.1):=by kernel_rfl
theorem v8d:MT 277 (j8t z43):=by
 show MT _ (conV ([.el C.ex,.v,.ptr 3 [.v]]:LP) ([.el C.ex,.int .i64,.ptr 3 [.int .i64]]:LV) ([.int .i64]:LV) ([.same,.same,.ptr 3 [.int .i64]]:LV) fun a K=>z43 a.1 a.2.1 a.2.2.1.1 (fun q0 q1=>K (q0,()) ((),(),(q1,()),())))
 refine mR (l:=[(292,j1f z06)]) (u:=4) (rk:=[.v]) (p:=w2h) ⟨v8c,trivial⟩ (by kernel_rfl) fun a K h X hX=> ?_
 exact h (fun e depth n K=>X (e,depth,(n,()),()) fun r o=>K r.1 o.2.2.1.1) (fun e depth n K hs=>hX (e,depth,(n,()),()) (fun r o=>K r.1 o.2.2.1.1) (Eq.mp (w9v z06 (fun e depth n K=>X (e,depth,(n,()),()) fun r o=>K r.1 o.2.2.1.1) e depth n K) hs))
def z5q(X:q10):Con Sg:=conS [.el C.ex] [.int .i64] fun a K=>X a.1 (fun q0=>K (q0,()))
theorem v8e(j2q:q46)(h:AL [(277,j8t j2q)]):MT 251 (z5q (j77 j2q)):=mS h (by kernel_rfl) [] fun a K=>by kernel_rfl
theorem j8u:MT 251 (z5q q11):=v8e z43 ⟨v8d,trivial⟩
def z5r(X:q47):Con Sg:=conS [.el C.seg] [.int .i64] fun a K=>X a.1 (fun q0=>K (q0,()))
theorem w60(Qk:Jk)(W8:Rd)(j2r:j02)(V9:q10)(h:AL [(210,Bh Qk),(249,q9r W8),(250,w6z j2r),(251,z5q V9)]):MT 211 (z5r (z44 Qk W8 j2r V9)):=mS h (by kernel_rfl) [] fun a K=>by kernel_rfl
theorem w61:MT 211 (z5r q48):=w60 Jl Re z40 q11 ⟨q2w,j42,v78,j8u,trivial⟩
def z23(X:q12):Con Sg:=conS [.sl C.seg] [.int .i64] fun a K=>X a.1 (fun q0=>K (q0,()))
theorem w38(q9z:q47)(h:AL [(211,z5r q9z)]):MT 154 (z23 (z2h q9z)):=mS h (by kernel_rfl) [(9,⟨bl 225,[],[],[sI 3]⟩)] fun _ _=>by kernel_rfl
theorem w39:MT 154 (z23 q13):=w38 q48 ⟨w61,trivial⟩
end Go.En
end
noncomputable section
set_option maxRecDepth 100000
open Go Go.RowKit Go.Fl Go.Fl.Lk Go.Fx
namespace Go.En
def q8z(X:Rf):Con Sg:=conS [.el C.flag] [.int .i64] fun a K=>X a.1 (fun q0=>K (q0,()))
theorem j8v(Zw:Ba)(h:AL [(205,z1v Zw)]):MT 252 (q8z (q76 Zw)):=mS h (by kernel_rfl) [(15,⟨bl 8139,[0],[],[sI 4]⟩)] fun a K=>by kernel_rfl
theorem j8w:MT 252 (q8z Rg):=j8v Ux ⟨j30,trivial⟩
def q2x(X:Vy):Con Sg:=conS [.sl C.prereq] [.int .i64] fun a K=>X a.1 (fun q0=>K (q0,()))
theorem j1g(Qk:Jk)(h:AL [(210,Bh Qk)]):MT 253 (q2x (q14 Qk)):=mS h (by kernel_rfl) [(9,⟨bl 113,[],[],[sI 3]⟩)] fun a K=>by kernel_rfl
theorem j1h:MT 253 (q2x Vz):=j1g Jl ⟨q2w,trivial⟩
def z5s(X:q49):Con Sg:=conS [.sl C.target,.int .i64] [.int .i64] fun a K=>X a.1 a.2.1 (fun q0=>K (q0,()))
theorem w62(Qk:Jk)(W8:Rd)(h:AL [(210,Bh Qk),(249,q9r W8)]):MT 254 (z5s (z45 Qk W8)):=mS h (by kernel_rfl) [(9,⟨bl 899,[],[],[sI 5]⟩)] fun a K=>by kernel_rfl
theorem w63:MT 254 (z5s q5a):=w62 Jl Re ⟨q2w,j42,trivial⟩
def j31(X:q7d):Con Sg:=conS [.sl C.range,.int .i64] [.int .i64] fun a K=>X a.1 a.2.1 (fun q0=>K (q0,()))
theorem w2i:MT 258 (j31 q3q):=mS (l:=[]) trivial (by kernel_rfl) [(11,⟨bl 899,[],[],[sI 5,sI 6]⟩)] fun a K=>by kernel_rfl
def z7g(X:q3r):Con Sg:=conS [.el C.serve,.int .i64] [.int .i64] fun a K=>X a.1 a.2.1 (fun q0=>K (q0,()))
theorem v35(Qk:Jk)(Qs:Jp)(Bl:q7d)(h:AL [(210,Bh Qk),(209,Bg Qs),(258,j31 Bl)]):MT 256 (z7g (j3h Qk Qs Bl)):=mS h (by kernel_rfl) [] fun a K=>by kernel_rfl
theorem w2j:MT 256 (z7g q3s):=v35 Jl Z2 q3q ⟨q2w,q37,w2i,trivial⟩
def j32(X:z07):Con Sg:=conS [.sl C.rule,.int .i64] [.int .i64] fun a K=>X a.1 a.2.1 (fun q0=>K (q0,()))
theorem v36(Qk:Jk)(V9:q10)(Bm:q3r)(h:AL [(210,Bh Qk),(251,z5q V9),(256,z7g Bm)]):MT 255 (j32 (j3i Qk V9 Bm)):=mS h (by kernel_rfl) [(9,⟨bl 3587,[],[],[sI 5]⟩),(19,⟨bl 33357347,[],[],[sI 6]⟩)] fun a K=>by kernel_rfl
theorem v38:MT 255 (j32 z08):=v36 Jl q11 q3s ⟨q2w,j8u,w2j,trivial⟩
def j8x(X:z47):Con Sg:=conS [.el C.flag] [.int .i64] fun a K=>X a.1 (fun q0=>K (q0,()))
theorem v8f(Qk:Jk)(q3c:Rf)(Hy:Vy)(q90:q49)(z7o:z07)(Bm:q3r)(h:AL [(210,Bh Qk),(252,q8z q3c),(253,q2x Hy),(254,z5s q90),(255,j32 z7o),(256,z7g Bm)]):MT 212 (j8x (j78 Qk q3c Hy q90 z7o Bm)):=mS h (by kernel_rfl) [] fun a K=>by kernel_rfl
theorem v8g:MT 212 (j8x z48):=v8f Jl Rg Vz q5a z08 q3s ⟨q2w,j8w,j1h,w63,v38,w2j,trivial⟩
def j33(X:z09):Con Sg:=conS [.sl C.flag] [.int .i64] fun a K=>X a.1 (fun q0=>K (q0,()))
theorem v39(j2t:z47)(h:AL [(212,j8x j2t)]):MT 155 (j33 (j3j j2t)):=mS h (by kernel_rfl) [(9,⟨bl 225,[],[],[sI 3]⟩)] fun a K=>by kernel_rfl
theorem v4a:MT 155 (j33 z1a):=v39 z48 ⟨v8g,trivial⟩
def j34(X:z1b):Con Sg:=conS [.el C.layer] [.int .i64] fun a K=>X a.1 (fun q0=>K (q0,()))
theorem v4b(Qk:Jk)(Qs:Jp)(h:AL [(210,Bh Qk),(209,Bg Qs)]):MT 213 (j34 (j3k Qk Qs)):=mS h (by kernel_rfl) [(21,⟨bl 2199023255523,[0],[],[sI 3]⟩)] fun a K=>by kernel_rfl
theorem v4c:MT 213 (j34 z1c):=v4b Jl Z2 ⟨q2w,q37,trivial⟩
def z9p(X:q77):Con Sg:=conS [.sl C.layer] [.int .i64] fun a K=>X a.1 (fun q0=>K (q0,()))
theorem w9w(z7p:z1b)(h:AL [(213,j34 z7p)]):MT 156 (z9p (z89 z7p)):=mS h (by kernel_rfl) [(9,⟨bl 225,[],[],[sI 3]⟩)] fun a K=>by kernel_rfl
theorem w9x:MT 156 (z9p q78):=w9w z1c ⟨v4c,trivial⟩
def w2k(X:z7b):Con Sg:=conS [.sl C.span] [.int .i64] fun a K=>X a.1 (fun q0=>K (q0,()))
theorem v4d:MT 257 (w2k z1d):=mS (l:=[]) trivial (by kernel_rfl) [(9,⟨bl 113,[],[],[sI 3]⟩)] fun a K=>by kernel_rfl
def q80(X:Rh):Con Sg:=conS [.el C.exper] [.int .i64] fun a K=>X a.1 (fun q0=>K (q0,()))
theorem j8y(Qk:Jk)(Qs:Jp)(z7q:z7b)(Bl:q7d)(V9:q10)(h:AL [(210,Bh Qk),(209,Bg Qs),(257,w2k z7q),(258,j31 Bl),(251,z5q V9)]):MT 214 (q80 (q79 Qk Qs z7q Bl V9)):=mS h (by kernel_rfl) [] fun a K=>by kernel_rfl
theorem j8z:MT 214 (q80 Ri):=j8y Jl Z2 z1d q3q q11 ⟨q2w,q37,v4d,w2i,j8u,trivial⟩
def q55(X:G6):Con Sg:=conS [.sl C.exper] [.int .i64] fun a K=>X a.1 (fun q0=>K (q0,()))
theorem j5s(q3d:Rh)(h:AL [(214,q80 q3d)]):MT 157 (q55 (q50 q3d)):=mS h (by kernel_rfl) [(9,⟨bl 225,[],[],[sI 3]⟩)] fun a K=>by kernel_rfl
theorem j5t:MT 157 (q55 G7):=j5s Ri ⟨j8z,trivial⟩
def q56(X:G8):Con Sg:=conS [.el C.env] [.int .i64] fun a K=>X a.1 (fun q0=>K (q0,()))
theorem j5u(q6y:q1w)(q6z:q1y)(q60:q12)(z7r:z09)(z3u:q77)(q0o:G6)(h:AL [(152,z2z q6y),(153,z22 q6z),(154,z23 q60),(155,j33 z7r),(156,z9p z3u),(157,q55 q0o)]):MT 99 (q56 (q51 q6y q6z q60 z7r z3u q0o)):=mS h (by kernel_rfl) [] fun _ _=>by kernel_rfl
theorem j5v:MT 99 (q56 G9):=j5u q1x q1z q13 z1a q78 G7 ⟨w35,w37,w39,v4a,w9x,j5t,trivial⟩
end Go.En
end
noncomputable section
set_option maxRecDepth 100000
open Go Go.RowKit Go.Fl Go.Fl.Lk Go.Fx
namespace Go.En
def z1w(X:Ho):Con Sg:=conS [.sl C.seg] [.vec 9 C.str] fun a K=>X a.1 (fun q0=>K (q0,()))
theorem z7h:MT 100 (z1w Hp):=mS (l:=[]) trivial (by kernel_rfl) [(7,⟨[0,2],[],[],[(.slot 3,.own 9 C.str),sI 4]⟩)] fun a K=>by kernel_rfl
def q2y(X:Vl):Con Sg:=conS [.sl C.str,.str] [.bool] fun a K=>X a.1 a.2.1 (fun q0=>K (q0,()))
theorem q9s:MT 81 (q2y J8):=mS (l:=[]) trivial (by kernel_rfl) [(5,⟨[0,1],[],[],[sI 5]⟩)] fun a K=>by kernel_rfl
def j1i(X:z1e):Con Sg:=conS [.sl C.decl,.str,.str] [.int .i64] fun a K=>X a.1 a.2.1 a.2.2.1 (fun q0=>K (q0,()))
theorem w65:MT 158 (j1i q15):=mS (l:=[]) trivial (by kernel_rfl) [(5,⟨[0,1,2],[],[],[sI 7]⟩)] fun a K=>by kernel_rfl
def j80(X:j04):Con Sg:=conS [.int .i64,.el C.ex] [.bool] fun a K=>X a.1 a.2.1 (fun q0=>K (q0,()))
theorem v8h:MT 159 (j80 q8a):=mS (l:=[]) trivial (by kernel_rfl) [(11,⟨bl 8075,[0],[],[sI 5]⟩),(36,⟨bl 8795019288539,[0],[],[sB 46]⟩)] fun a K=>by kernel_rfl
def z5t(X:Ha):Con Sg:=conV [.sl C.decl,.sl C.str,.el C.ex] [.sl C.decl,.sl C.str,.el C.ex] [.int .i64] [.same,.same,.same] fun a K=>X a.1 a.2.1 a.2.2.1 (fun q0=>K (q0,()) ((),(),(),()))
def w2l:PT:=Q4 ([(18,⟨bl 1047591,[0],[],[]⟩),(21,⟨bl 1047591,[0],[],[sI 8]⟩)]:LS)
theorem w9y(Qx:Vl)(Qv:Wi)(q0e:z1e)(z6r:j04)(X:Ha)(l:List (Decl))(segments:List (ByteArray))(e:Ex)(K:Int->Prop):j79 Qx Qv q0e z6r X l segments e K=fnV (((WL [(81,q2y Qx),(143,Rz Qv),(158,j1i q0e),(159,j80 z6r)]).with 101 (z5t X)).pl w2l) 4 101 ([.sl C.decl,.sl C.str,.el C.ex]:LP) ([.v]:LP) ([.sl C.decl,.sl C.str,.el C.ex]:LV) ([.int .i64]:LV) ([.same,.same,.same]:LV) (l,segments,e,()) (fun r _=>K r.1):=by kernel_rfl
theorem j81:MT 101 (z5t q16):=by
 show MT _ (conV ([.sl C.decl,.sl C.str,.el C.ex]:LP) ([.sl C.decl,.sl C.str,.el C.ex]:LV) ([.int .i64]:LV) ([.same,.same,.same]:LV) fun a K=>q16 a.1 a.2.1 a.2.2.1 (fun q0=>K (q0,()) ((),(),(),())))
 refine mR (l:=[(81,q2y J8),(143,Rz Jd),(158,j1i q15),(159,j80 q8a)]) (u:=4) (rk:=[.v]) (p:=w2l) ⟨q9s,q8v,w65,v8h,trivial⟩ (by kernel_rfl) fun a K h X hX=> ?_
 exact h (fun l segments e K=>X (l,segments,e,()) fun r _=>K r.1) (fun l segments e K hs=>hX (l,segments,e,()) (fun r _=>K r.1) (Eq.mp (w9y J8 Jd q15 q8a (fun l segments e K=>X (l,segments,e,()) fun r _=>K r.1) l segments e K) hs))
def z7i(X:q4h):Con Sg:=conS [.sl C.str,.str] [.sl C.str] fun a K=>X a.1 a.2.1 (fun q0=>K (q0,()))
theorem j6y:MT 85 (z7i q0k):=mS (l:=[]) trivial (by kernel_rfl) [(5,⟨[0,1,4],[],[],[sI 5]⟩)] fun a K=>by kernel_rfl
def z5u(X:Gb):Con Sg:=conV [.sl C.str,.el C.ex] [.sl C.str,.el C.ex] [.sl C.str] [.same,.same] fun a K=>X a.1 a.2.1 (fun q0=>K (q0,()) ((),(),()))
def j1j:PT:=Q4 ([(6,⟨[1,3,4],[0],[],[(.slot 0,.sl C.str)]⟩),(9,⟨[1,3,4],[0],[],[(.slot 0,.sl C.str),sI 5]⟩)]:LS)
theorem w0r(Ww:q4h)(X:Gb)(l:List (ByteArray))(e:Ex)(K:List (ByteArray)->Prop):q9l Ww X l e K=fnV (((WL [(85,z7i Ww)]).with 216 (z5u X)).pl j1j) 4 216 ([.sl C.str,.el C.ex]:LP) ([.sl C.str]:LP) ([.sl C.str,.el C.ex]:LV) ([.sl C.str]:LV) ([.same,.same]:LV) (l,e,()) (fun r _=>K r.1):=by kernel_rfl
theorem w66:MT 216 (z5u q1c):=by
 show MT _ (conV ([.sl C.str,.el C.ex]:LP) ([.sl C.str,.el C.ex]:LV) ([.sl C.str]:LV) ([.same,.same]:LV) fun a K=>q1c a.1 a.2.1 (fun q0=>K (q0,()) ((),(),())))
 refine mR (l:=[(85,z7i q0k)]) (u:=4) (rk:=[.sl C.str]) (p:=j1j) ⟨j6y,trivial⟩ (by kernel_rfl) fun a K h X hX=> ?_
 exact h (fun l e K=>X (l,e,()) fun r _=>K r.1) (fun l e K hs=>hX (l,e,()) (fun r _=>K r.1) (Eq.mp (w0r q0k (fun l e K=>X (l,e,()) fun r _=>K r.1) l e K) hs))
def z5v(X:q5b):Con Sg:=conS [.el C.ex] [.sl C.str] fun a K=>X a.1 (fun q0=>K (q0,()))
theorem w67(q91:Gb)(h:AL [(216,z5u q91)]):MT 161 (z5v (q9m q91)):=mS h (by kernel_rfl) [] fun a K=>by kernel_rfl
theorem w68:MT 161 (z5v Rj):=w67 q1c ⟨w66,trivial⟩
def z25(X:q0w):Con Sg:=conS [.sl C.seg] [.vec 217 C.edge] fun a K=>X a.1 (fun q0=>K (q0,()))
theorem w9z(q92:q5b)(h:AL [(161,z5v q92)]):MT 103 (z25 (z2i q92)):=mS h (by kernel_rfl) [(7,⟨[0,2],[],[],[(.slot 3,.own 217 C.edge),sI 4]⟩),(15,⟨bl 518069,[],[],[(.slot 3,.own 217 C.edge),sI 6]⟩)] fun a K=>by kernel_rfl
theorem j82:MT 103 (z25 Gf):=w9z Rj ⟨w68,trivial⟩
def j35(X:z1f):Con Sg:=conS [.sl C.edge,.str] [.sl C.str] fun a K=>X a.1 a.2.1 (fun q0=>K (q0,()))
theorem v4e(Qx:Vl)(Ww:q4h)(h:AL [(81,q2y Qx),(85,z7i Ww)]):MT 215 (j35 (j3l Qx Ww)):=mS h (by kernel_rfl) [(7,⟨bl 1555,[],[],[(.slot 5,.sl C.str),(.slot 6,.sl C.str)]⟩),(15,⟨bl 522899,[],[],[(.slot 5,.sl C.str),(.slot 6,.sl C.str),sI 8]⟩)] fun a K=>by kernel_rfl
theorem v4f:MT 215 (j35 z1g):=v4e J8 q0k ⟨q9s,j6y,trivial⟩
def z9q(X:q8b):Con Sg:=conS [.sl C.str,.sl C.edge] [.sl C.str] fun a K=>X a.1 a.2.1 (fun q0=>K (q0,()))
theorem w90(z7s:z1f)(Qx:Vl)(Ww:q4h)(h:AL [(215,j35 z7s),(81,q2y Qx),(85,z7i Ww)]):MT 160 (z9q (z9a z7s Qx Ww)):=mS h (by kernel_rfl) [(7,⟨[0,1,4],[],[],[(.slot 5,.sl C.str),sI 6]⟩)] fun a K=>by kernel_rfl
theorem w91:MT 160 (z9q q8c):=w90 z1g J8 q0k ⟨v4f,q9s,j6y,trivial⟩
def z9r(X:q8d):Con Sg:=conS [.sl C.str,.sl C.edge] [.str,.bool] fun a K=>X a.1 a.2.1 (fun q0 q1=>K (q0,q1,()))
theorem w92(z3v:q8b)(h:AL [(160,z9q z3v)]):MT 102 (z9r (z9b z3v)):=mS h (by kernel_rfl) [] fun a K=>by kernel_rfl
theorem w93:MT 102 (z9r q8e):=w92 q8c ⟨w91,trivial⟩
def z5w(X:q1d):Con Sg:=conS [.el C.env,.str] [.int .i64] fun a K=>X a.1 a.2.1 (fun q0=>K (q0,()))
theorem j43:MT 162 (z5w q1e):=mS (l:=[]) trivial (by kernel_rfl) [(5,⟨[0,1,2],[0],[],[sI 5]⟩)] fun a K=>by kernel_rfl
def j36(X:z1h):Con Sg:=conS [.sl C.decl,.el C.serve] [.int .i64] fun a K=>X a.1 a.2.1 (fun q0=>K (q0,()))
theorem v4g(q0e:z1e)(h:AL [(158,j1i q0e)]):MT 163 (j36 (j3m q0e)):=mS h (by kernel_rfl) [] fun _ _=>by kernel_rfl
theorem v4h:MT 163 (j36 z1i):=v4g q15 ⟨w65,trivial⟩
end Go.En
end
noncomputable section
set_option maxRecDepth 100000
open Go Go.RowKit Go.Fl Go.Fl.Lk Go.Fx
namespace Go.En
def q81(X:Rk):Con Sg:=conS [.el C.env,.el C.flag] [.int .i64] fun a K=>X a.1 a.2.1 (fun q0=>K (q0,()))
theorem j83(Z5:Ho)(Ua:q1d)(Ub:Ha)(z1z:z1h)(Z6:J1)(h:AL [(100,z1w Z5),(162,z5w Ua),(101,z5t Ub),(163,j36 z1z),(116,Bf Z6)]):MT 104 (q81 (q8f Z5 Ua Ub z1z Z6)):=mS h (by kernel_rfl) [(7,⟨bl 229423,[1,0],[],[sI 6,(.obj 2,.own 9 C.str)]⟩),(23,⟨bl 8355951,[1,0],[],[sI 8,(.obj 2,.own 9 C.str)]⟩)] fun a K=>by kernel_rfl
theorem j84:MT 104 (q81 Rl):=j83 Hp q1e q16 z1i J2 ⟨z7h,j43,j81,v4h,z1u,trivial⟩
def z8g(X:q4i):Con Sg:=conS [.el C.env] [.vec 9 C.str] fun a K=>X a.1 (fun q0=>K (q0,()))
theorem w0s:MT 105 (z8g q4j):=mS (l:=[]) trivial (by kernel_rfl) [(7,⟨[0,1,2],[0],[],[(.slot 3,.own 9 C.str),sI 4]⟩)] fun a K=>by kernel_rfl
def z5x(X:q17):Con Sg:=conS [.el C.env] [.vec 217 C.edge] fun a K=>X a.1 (fun q0=>K (q0,()))
theorem j85:MT 106 (z5x Rm):=mS (l:=[]) trivial (by kernel_rfl) [(7,⟨[0,1,2],[0],[],[(.slot 3,.own 217 C.edge),sI 4]⟩),(13,⟨bl 2007,[],[],[(.slot 3,.own 217 C.edge),sI 5]⟩)] fun a K=>by kernel_rfl
def z5y(X:q5c):Con Sg:=conS [.sl C.span,.sl C.span] [.vec 95 C.span] fun a K=>X a.1 a.2.1 (fun q0=>K (q0,()))
theorem w69(Jc:B3)(Q5:Wk)(h:AL [(96,z5p Jc),(150,q36 Q5)]):MT 93 (z5y (z49 Jc Q5)):=mS h (by kernel_rfl) [(7,⟨bl 3955,[1],[],[sI 7,(.obj 0,.own 4 C.bool)]⟩)] fun a K=>by kernel_rfl
theorem w7a:MT 93 (z5y q5d):=w69 Rb J3 ⟨j1d,q8y,trivial⟩
def R0(X:Wf):Con Sg:=conS [.el C.env,.int .i64] [.int .i64] fun a K=>X a.1 a.2.1 (fun q0=>K (q0,()))
theorem z5z(Zt:Vv)(Ua:q1d)(Z5:Ho)(Ub:Ha)(q93:q5c)(h:AL [(41,q6q Zt),(162,z5w Ua),(100,z1w Z5),(101,z5t Ub),(93,z5y q93)]):MT 107 (R0 (Rn Zt Ua Z5 Ub q93)):=mS h (by kernel_rfl) [(13,⟨bl 17179836647,[1,0],[],[sI 8]⟩),(35,⟨bl 151078797935433964553191,[1,0],[],[(.slot 10,.own 95 C.span),sI 11,(.obj 4,.own 9 C.str)]⟩),(51,⟨bl 159723976762087930960904772882407,[1,0],[],[sI 13,(.obj 9,.own 95 C.span),(.obj 6,.own 95 C.span),(.obj 4,.own 9 C.str)]⟩)] fun a K=>by kernel_rfl
theorem z50:MT 107 (R0 Wg):=z5z Vw q1e Hp q16 q5d ⟨z2x,j43,z7h,j81,w7a,trivial⟩
def q38(X:Uy):Con Sg:=conS [.el C.env] [.str,.int .i64] fun a K=>X a.1 (fun q0 q1=>K (q0,q1,()))
theorem j37(q0p:G8)(Z5:Ho)(Ub:Ha)(Gy:q0w)(q9e:q8d)(q3e:Rk)(q4w:q4i)(q3f:q17)(Uc:Wf)(h:AL [(99,q56 q0p),(100,z1w Z5),(101,z5t Ub),(103,z25 Gy),(102,z9r q9e),(104,q81 q3e),(105,z8g q4w),(106,z5x q3f),(107,R0 Uc)]):MT 54 (q38 (q3t q0p Z5 Ub Gy q9e q3e q4w q3f Uc)):=mS h (by kernel_rfl) [(13,⟨bl 15663155,[0],[],[sI 6,(.obj 1,.own 9 C.str)]⟩),(33,⟨bl 294571444427585160051,[0],[],[sI 10,(.obj 1,.own 9 C.str),(.obj 4,.own 217 C.edge)]⟩),(51,⟨bl 10121397798090180814242575234931,[0],[],[sI 14,(.obj 8,.own 9 C.str),(.obj 9,.own 217 C.edge),(.obj 4,.own 217 C.edge),(.obj 1,.own 9 C.str)]⟩)] fun a K=>by kernel_rfl
theorem j38:MT 54 (q38 Uz):=j37 G9 Hp q16 Gf q8e Rl q4j Rm Wg ⟨j5v,z7h,j81,j82,w93,j84,w0s,j85,z50,trivial⟩
def z9s(X:q8g):Con Sg:=conS [.el C.env] [.bool] fun a K=>X a.1 (fun q0=>K (q0,()))
theorem w94(Bn:Uy)(h:AL [(54,q38 Bn)]):MT 26 (z9s (z9c Bn)):=mS h (by kernel_rfl) [] fun a K=>by kernel_rfl
theorem w95:MT 26 (z9s Rp):=w94 Uz ⟨j38,trivial⟩
def q82(X:Rq):Con Sg:=conV [.ptr 104 [.c,.v],.v] [.ptr 104 [.sl C.u8,.int .i64],.int .i64] [.el C.env] [.ptr 104 [.same,.int .i64],.same] fun a K=>X a.1.1 a.1.2.1 a.2.1 (fun q0 q1=>K (q0,()) (((),q1,()),(),()))
theorem j86(Q3:W2)(q94:q44)(Qb:Zg)(q27:z63)(Jj:q1s)(q4r:z2b)(z6s:z4s)(R2:q1t)(q4s:q4g)(Z6:J1)(j2u:z4w)(Wh:q1q)(q28:q7q)(z7t:z04)(Wu:q6h)(Gx:q0u)(z3w:q71)(q08:q8g)(h:AL [(57,q5r Q3),(59,z5k q94),(49,Vm Qb),(60,w3z q27),(109,z5j Jj),(112,j6v q4r),(115,j8g z6s),(114,z5l R2),(113,j6x q4s),(116,Bf Z6),(62,j8p j2u),(58,z7d Wh),(117,j1b q28),(88,j3z z7t),(51,j1a Wu),(118,z2y Gx),(91,z9n z3w),(26,z9s q08)]):MT 31 (q82 (q8h Q3 q94 Qb q27 Jj q4r z6s R2 q4s Z6 j2u Wh q28 z7t Wu Gx z3w q08)):=mP (rk:=[.el C.env]) h (by kernel_rfl) [(8,⟨bl 3123,[1],[(3,(36,8)),(0,(104,2))],[(.cell 3 0,.str),(.cell 3 1,.str),(.cell 3 2,.int .i64),(.cell 0 1,.int .i64),(.obj 2,.own 177 C.decl)]⟩),(15,⟨bl 98569331,[2,1],[(0,(104,2)),(3,(36,8))],[sI 7,(.cell 0 1,.int .i64),(.cell 3 5,.own 122 C.flag),(.obj 10,.own 147 C.seg),(.obj 12,.own 59 C.layer),(.obj 13,.own 68 C.exper)]⟩),(62000009,⟨bl 1073218007,[22,21],[(0,(104,2)),(23,(122,13))],[sI 9,(.cell 0 1,.int .i64),(.cell 23 2,.own 115 C.val),(.obj 13,.own 68 C.exper),(.obj 12,.own 59 C.layer),(.obj 17,.own 122 C.flag),(.obj 10,.own 147 C.seg)]⟩),(62000019,⟨bl 545366356788183,[22,21],[(23,(122,13)),(0,(104,2))],[sI 10,(.cell 23 5,.own 188 C.prereq),(.cell 0 1,.int .i64),(.obj 10,.own 147 C.seg),(.obj 17,.own 122 C.flag),(.obj 12,.own 59 C.layer),(.obj 13,.own 68 C.exper),(.obj 27,.own 115 C.val)]⟩),(62000029,⟨bl 17996814912849879,[22,21],[(23,(122,13)),(0,(104,2))],[sI 11,(.cell 23 6,.own 190 C.target),(.cell 0 1,.int .i64),(.obj 27,.own 115 C.val),(.obj 13,.own 68 C.exper),(.obj 12,.own 59 C.layer),(.obj 17,.own 122 C.flag),(.obj 10,.own 147 C.seg),(.obj 34,.own 188 C.prereq)]⟩),(62000038,⟨bl 19688565898261847554177638359,[23],[(51,(190,3)),(0,(104,2))],[(.cell 51 0,.str),(.cell 0 1,.int .i64),(.obj 50,.own 9 C.str),(.obj 34,.own 188 C.prereq),(.obj 10,.own 147 C.seg),(.obj 17,.own 122 C.flag),(.obj 12,.own 59 C.layer),(.obj 13,.own 68 C.exper),(.obj 27,.own 115 C.val),(.obj 42,.own 190 C.target)]⟩),(62000060,⟨bl 324518589926201333218846174621655,[22,21],[(0,(104,2)),(23,(122,13))],[(.cell 0 1,.int .i64),(.cell 23 7,.own 193 C.rule),(.obj 50,.own 9 C.str),(.obj 34,.own 188 C.prereq),(.obj 10,.own 147 C.seg),(.obj 17,.own 122 C.flag),(.obj 12,.own 59 C.layer),(.obj 13,.own 68 C.exper),(.obj 27,.own 115 C.val),(.obj 42,.own 190 C.target)]⟩),(62000047,⟨bl 324518589926201333218846174621655,[],[(0,(104,2)),(23,(122,13))],[sI 14,(.cell 0 1,.int .i64),(.cell 23 7,.own 193 C.rule),(.obj 50,.own 9 C.str),(.obj 34,.own 188 C.prereq),(.obj 10,.own 147 C.seg),(.obj 17,.own 122 C.flag),(.obj 12,.own 59 C.layer),(.obj 13,.own 68 C.exper),(.obj 27,.own 115 C.val),(.obj 42,.own 190 C.target)]⟩),(25,⟨bl 387030204812531,[2,1],[(0,(104,2)),(3,(36,8))],[sI 8,(.cell 0 1,.int .i64),(.cell 3 6,.own 59 C.layer),(.obj 13,.own 68 C.exper),(.obj 10,.own 147 C.seg),(.obj 17,.own 122 C.flag)]⟩),(35,⟨bl 811665570522726403571,[2,1],[(0,(104,2)),(3,(36,8))],[sI 9,(.cell 0 1,.int .i64),(.cell 3 7,.own 68 C.exper),(.obj 17,.own 122 C.flag),(.obj 10,.own 147 C.seg),(.obj 24,.own 59 C.layer)]⟩),(64000010,⟨bl 140737488348975,[37,36,35],[(40,(68,12)),(0,(104,2))],[(.cell 40 4,.int .i64),(.cell 0 1,.int .i64),(.obj 39,.own 70 C.range),(.obj 31,.own 68 C.exper),(.obj 24,.own 59 C.layer),(.obj 17,.own 122 C.flag),(.obj 10,.own 147 C.seg)]⟩),(64000014,⟨bl 140737488348975,[37,36,35],[(40,(68,12)),(0,(104,2))],[(.cell 40 7,.int .i64),(.cell 40 8,.str),(.cell 40 9,.str),(.cell 40 10,.sl C.val),(.cell 40 11,.sl C.ex),(.cell 0 1,.int .i64),(.obj 10,.own 147 C.seg),(.obj 17,.own 122 C.flag),(.obj 24,.own 59 C.layer),(.obj 31,.own 68 C.exper),(.obj 39,.own 70 C.range)]⟩)] fun a K=>by kernel_rfl
theorem j87:MT 31 (q82 Rr):=j86 Jx q45 Zc z64 Ur z2c z4t H5 z2d J2 z4x q1r q7r z05 q6i q0v q72 Rp ⟨q9o,w6t,Gt,v2d,j8e,v2e,v70,j8f,v2f,z1u,v74,j6u,w6u,v3z,w3y,j8r,w9s,w95,trivial⟩
def z8h(X:q4k):Con Sg:=conS [] [.el C.env] fun _ K=>X (fun q0=>K (q0,()))
theorem w0t:MT 30 (z8h q4l):=mS (l:=[]) trivial (by kernel_rfl) [] fun a K=>by kernel_rfl
def q83(X:U0):Con Sg:=conS [.el C.subj,.str] [.int .i64] fun a K=>X a.1 a.2.1 (fun q0=>K (q0,()))
theorem z52:MT 64 (q83 Vc):=mS (l:=[]) trivial (by kernel_rfl) [(120000005,⟨bl 195,[1],[],[sI 8]⟩)] fun a K=>by kernel_rfl
def q2z(X:V0):Con Sg:=conS [.el C.val] [.el C.val] fun a K=>X a.1 (fun q0=>K (q0,()))
theorem z27:MT 170 (q2z J9):=mS (l:=[]) trivial (by kernel_rfl) [] fun a K=>by kernel_rfl
def q39(X:U1):Con Sg:=conS [.el C.attr] [.el C.attr] fun a K=>X a.1 (fun q0=>K (q0,()))
theorem j39(Zv:V0)(h:AL [(170,q2z Zv)]):MT 122 (q39 (q3u Zv)):=mS h (by kernel_rfl) [] fun a K=>by kernel_rfl
theorem j4a:MT 122 (q39 U2):=j39 J9 ⟨z27,trivial⟩
def q84(X:Rs):Con Sg:=conS [.el C.ctx] [.el C.ctx] fun a K=>X a.1 (fun q0=>K (q0,()))
theorem j88(Bo:U1)(h:AL [(122,q39 Bo)]):MT 65 (q84 (q8i Bo)):=mS h (by kernel_rfl) [(122000007,⟨bl 7955,[],[],[(.slot 5,.own 180 C.attr),sI 13]⟩)] fun a K=>by kernel_rfl
theorem j89:MT 65 (q84 Rt):=j88 U2 ⟨j4a,trivial⟩
def q0d(X:Wa):Con Sg:=conS [.el C.subj,.str] [.el C.ctx,.bool] fun a K=>X a.1 a.2.1 (fun q0 q1=>K (q0,q1,()))
theorem w0u(Jv:U0)(q3g:Rs)(h:AL [(64,q83 Jv),(65,q84 q3g)]):MT 35 (q0d (z0e Jv q3g)):=mS h (by kernel_rfl) [] fun _ _=>by kernel_rfl
theorem z0n:MT 35 (q0d Wb):=w0u Vc Rt ⟨z52,j89,trivial⟩
end Go.En
end
noncomputable section
set_option maxRecDepth 100000
open Go Go.RowKit Go.Fl Go.Fl.Lk Go.Fx
namespace Go.En
def z8i(X:q4m):Con Sg:=conS [.sl C.bytes] [.vec 5 C.u8] fun a K=>X a.1 (fun q0=>K (q0,()))
theorem w0v:MT 124 (z8i B4):=mS (l:=[]) trivial (by kernel_rfl) [(7,⟨bl 389,[],[],[(.slot 3,.own 5 C.u8),sI 9]⟩),(13,⟨bl 8101,[],[],[(.slot 3,.own 5 C.u8),sI 6]⟩)] fun a K=>by kernel_rfl
def q85(X:Gg):Con Sg:=conS [.int .u64,.int .i64] [.int .u64] fun a K=>X a.1 a.2.1 (fun q0=>K (q0,()))
theorem z9t:MT 225 (q85 Vd):=mS (l:=[]) trivial (by kernel_rfl) [] fun a K=>by kernel_rfl
def Uo(X:Je):Con Sg:=conV [.ptr 251 [.v,.v,.v,.v],.v] [.ptr 251 [.int .u64,.int .u64,.int .u64,.int .u64],.int .i64] [] [.ptr 251 [.int .u64,.int .u64,.int .u64,.int .u64],.same] fun a K=>X a.1.1 a.1.2.1 a.1.2.2.1 a.1.2.2.2.1 a.2.1 (fun q0 q1 q2 q3=>K () ((q0,q1,q2,q3,()),(),()))
theorem z72(Zq:Gg)(h:AL [(225,q85 Zq)]):MT 172 (Uo (Bu Zq)):=mP (rk:=[]) h (by kernel_rfl) [(3,⟨[0,1,4],[],[(0,(251,4))],[sI 5,(.cell 0 0,.int IntKind.u64),(.cell 0 1,.int IntKind.u64),(.cell 0 2,.int IntKind.u64),(.cell 0 3,.int IntKind.u64)]⟩)] fun a K=>by kernel_rfl
theorem q6c:MT 172 (Uo Q8):=z72 Vd ⟨z9t,trivial⟩
def q20(X:V1):Con Sg:=conV [.ptr 251 [.v,.v,.v,.v],.v] [.ptr 251 [.int .u64,.int .u64,.int .u64,.int .u64],.int .u64] [] [.ptr 251 [.int .u64,.int .u64,.int .u64,.int .u64],.same] fun a K=>X a.1.1 a.1.2.1 a.1.2.2.1 a.1.2.2.2.1 a.2.1 (fun q0 q1 q2 q3=>K () ((q0,q1,q2,q3,()),(),()))
theorem j1k(Zj:Je)(h:AL [(172,Uo Zj)]):MT 171 (q20 (q18 Zj)):=mP (rk:=[]) h (by kernel_rfl) [] fun a K=>by kernel_rfl
theorem j1l:MT 171 (q20 V2):=j1k Q8 ⟨q6c,trivial⟩
def z54(X:q5e):Con Sg:=conS [.int .u64,.int .u64,.sl C.u8] [.int .u64] fun a K=>X a.1 a.2.1 a.2.2.1 (fun q0=>K (q0,()))
theorem w7b(Ud:V1)(Zj:Je)(h:AL [(171,q20 Ud),(172,Uo Zj)]):MT 123 (z54 (z5a Ud Zj)):=mS h (by kernel_rfl) [(9,⟨bl 67101127,[],[(0,(251,4))],[sI 9,(.cell 0 0,.int IntKind.u64),(.cell 0 1,.int IntKind.u64),(.cell 0 2,.int IntKind.u64),(.cell 0 3,.int IntKind.u64)]⟩),(17,⟨bl 2147476423,[0],[],[(.slot 10,.int IntKind.u64),sI 33]⟩),(29,⟨bl 15762600843272903,[0],[],[(.slot 8,.int IntKind.u64),sI 54]⟩)] fun a K=>by kernel_rfl
theorem w7c:MT 123 (z54 q5f):=w7b V2 Q8 ⟨j1l,q6c,trivial⟩
def z29(X:q19):Con Sg:=conS [.int .u64,.sl C.bytes] [.int .u64] fun a K=>X a.1 a.2.1 (fun q0=>K (q0,()))
theorem w4a(q4x:q4m)(q95:q5e)(h:AL [(124,z8i q4x),(123,z54 q95)]):MT 66 (z29 (z2j q4x q95)):=mS h (by kernel_rfl) [] fun a K=>by kernel_rfl
theorem w4b:MT 66 (z29 q2a):=w4a B4 q5f ⟨w0v,w7c,trivial⟩
def z3a(X:q0x):Con Sg:=conS [.str,.str] [.int .i64] fun a K=>X a.1 a.2.1 (fun q0=>K (q0,()))
theorem w96(q61:q19)(h:AL [(66,z29 q61)]):MT 36 (z3a (z9d q61)):=mS h (by kernel_rfl) [] fun a K=>by kernel_rfl
theorem j9a:MT 36 (z3a Gh):=w96 q2a ⟨w4b,trivial⟩
def q86(X:U3):Con Sg:=conS [.sl C.forced,.str] [.el C.forced,.bool] fun a K=>X a.1 a.2.1 (fun q0 q1=>K (q0,q1,()))
theorem z55:MT 20 (q86 Ve):=mS (l:=[]) trivial (by kernel_rfl) [(5,⟨bl 787,[],[(0,(54,3))],[sI 10,(.cell 0 0,.str),(.cell 0 1,.str),(.cell 0 2,.int .i64)]⟩)] fun a K=>by kernel_rfl
def j1m(X:q6k):Con Sg:=conS [.el C.env,.el C.forced] [.bool] fun a K=>X a.1 a.2.1 (fun q0=>K (q0,()))
theorem w4c:MT 37 (j1m q2b):=mSg 8 (l:=[]) trivial (by kernel_rfl) [(126000005,⟨bl 195,[1],[],[sI 8]⟩),(127000005,⟨bl 195,[],[],[sI 8]⟩)] fun a K=>by kernel_rfl
def q6r(X:Gi):Con Sg:=conS [.el C.env,.el C.subj] [.bool] fun a K=>X a.1 a.2.1 (fun q0=>K (q0,()))
theorem w4d(Zm:Wa)(Um:q0x)(h:AL [(35,q0d Zm),(36,z3a Um)]):MT 16 (q6r (z2k Zm Um)):=mS h (by kernel_rfl) [] fun a K=>by kernel_rfl
theorem j1n:MT 16 (q6r Gj):=w4d Wb Gh ⟨z0n,j9a,trivial⟩
def q6s(X:Bb):Con Sg:=conS [.int .i64] [.bool] fun a K=>X a.1 (fun q0=>K (q0,()))
theorem j1o:MT 130 (q6s V3):=mS (l:=[]) trivial (by kernel_rfl) [] fun a K=>by kernel_rfl
def Wl(X:Za):Con Sg:=conS [.sl C.str,.sl C.str] [.bool] fun a K=>X a.1 a.2.1 (fun q0=>K (q0,()))
theorem Hg:MT 174 (Wl Q2):=mS (l:=[]) trivial (by kernel_rfl) [(9,⟨bl 8131,[],[],[sI 13]⟩)] fun a K=>by kernel_rfl
def q9t(X:q5g):Con Sg:=conS [.el C.val,.el C.val] [.bool] fun a K=>X a.1 a.2.1 (fun q0=>K (q0,()))
theorem w7d(Qo:Za)(h:AL [(174,Wl Qo)]):MT 290 (q9t (z5b Qo)):=mS h (by kernel_rfl) [] fun a K=>by kernel_rfl
theorem w7e:MT 290 (q9t q1f):=w7d Q2 ⟨Hg,trivial⟩
def z3b(X:Ru):Con Sg:=conV [.el C.ex,.el C.ex] [.el C.ex,.el C.ex] [.bool] [.same,.same] fun a K=>X a.1 a.2.1 (fun q0=>K (q0,()) ((),(),()))
def j44:PT:=Q4 ([(290000009,⟨bl 130055,[],[],[sI 17]⟩),(292000009,⟨bl 130055,[],[],[sI 17]⟩)]:LS)
theorem w4e(q96:q5g)(X:Ru)(a:Ex)(b:Ex)(K:Bool->Prop):z9e q96 X a b K=fnV (((WL [(290,q9t q96)]).with 272 (z3b X)).pl j44) 4 272 ([.el C.ex,.el C.ex]:LP) ([.v]:LP) ([.el C.ex,.el C.ex]:LV) ([.bool]:LV) ([.same,.same]:LV) (a,b,()) (fun r _=>K r.1):=by kernel_rfl
theorem w97:MT 272 (z3b q0y):=by
 show MT _ (conV ([.el C.ex,.el C.ex]:LP) ([.el C.ex,.el C.ex]:LV) ([.bool]:LV) ([.same,.same]:LV) fun a K=>q0y a.1 a.2.1 (fun q0=>K (q0,()) ((),(),())))
 refine mR (l:=[(290,q9t q1f)]) (u:=4) (rk:=[.v]) (p:=j44) ⟨w7e,trivial⟩ (by kernel_rfl) fun a K h X hX=> ?_
 exact h (fun a b K=>X (a,b,()) fun r _=>K r.1) (fun a b K hs=>hX (a,b,()) (fun r _=>K r.1) (Eq.mp (w4e q1f (fun a b K=>X (a,b,()) fun r _=>K r.1) a b K) hs))
end Go.En
end
noncomputable section
set_option maxRecDepth 100000
open Go Go.RowKit Go.Fl Go.Fl.Lk Go.Fx
namespace Go.En
def z0o(X:W6):Con Sg:=conV [.own 66 C.ex,.el C.ex] [.vec 66 C.ex,.el C.ex] [.vec 66 C.ex] [.same,.same] fun a K=>X a.1 a.2.1 (fun q0=>K (q0,()) ((),(),()))
def z56:PT:=Q4 ([(6,⟨[1,3,4],[1],[],[(.slot 0,.own 66 C.ex)]⟩),(9,⟨bl 234881050,[1],[],[(.slot 0,.own 66 C.ex),sI 28]⟩),(128000005,⟨bl 195,[0],[],[sI 8]⟩)]:LS)
theorem j5w(Wx:Bb)(q9f:Ru)(X:W6)(l:List (Ex))(e:Ex)(K:List (Ex)->Prop):z0f Wx q9f X l e K=fnV (((WL [(130,q6s Wx),(272,z3b q9f)]).with 234 (z0o X)).pl z56) 4 234 ([.own 66 C.ex,.el C.ex]:LP) ([.own 66 C.ex]:LP) ([.vec 66 C.ex,.el C.ex]:LV) ([.vec 66 C.ex]:LV) ([.same,.same]:LV) (l,e,()) (fun r _=>K r.1):=by kernel_rfl
theorem w0w:MT 234 (z0o B5):=by
 show MT _ (conV ([.own 66 C.ex,.el C.ex]:LP) ([.vec 66 C.ex,.el C.ex]:LV) ([.vec 66 C.ex]:LV) ([.same,.same]:LV) fun a K=>B5 a.1 a.2.1 (fun q0=>K (q0,()) ((),(),())))
 refine mR (l:=[(130,q6s V3),(272,z3b q0y)]) (u:=4) (rk:=[.own 66 C.ex]) (p:=z56) ⟨j1o,w97,trivial⟩ (by kernel_rfl) fun a K h X hX=> ?_
 exact h (fun l e K=>X (l,e,()) fun r _=>K r.1) (fun l e K hs=>hX (l,e,()) (fun r _=>K r.1) (Eq.mp (j5w V3 q0y (fun l e K=>X (l,e,()) fun r _=>K r.1) l e K) hs))
def z57(X:Gc):Con Sg:=conV [.el C.ex] [.el C.ex] [.el C.ex] [.same] fun a K=>X a.1 (fun q0=>K (q0,()) ((),()))
def j1p:PT:=Q4 ([(274000007,⟨bl 7955,[],[],[(.slot 5,.own 115 C.val),sI 13]⟩),(234000007,⟨bl 7955,[],[],[(.slot 5,.own 66 C.ex),sI 13]⟩)]:LS)
theorem w0x(Zv:V0)(X:Gc)(e:Ex)(K:Ex->Prop):z5c Zv X e K=fnV (((WL [(170,q2z Zv)]).with 235 (z57 X)).pl j1p) 4 235 ([.el C.ex]:LP) ([.el C.ex]:LP) ([.el C.ex]:LV) ([.el C.ex]:LV) ([.same]:LV) (e,()) (fun r _=>K r.1):=by kernel_rfl
theorem w7f:MT 235 (z57 q5h):=by
 show MT _ (conV ([.el C.ex]:LP) ([.el C.ex]:LV) ([.el C.ex]:LV) ([.same]:LV) fun a K=>q5h a.1 (fun q0=>K (q0,()) ((),())))
 refine mR (l:=[(170,q2z J9)]) (u:=4) (rk:=[.el C.ex]) (p:=j1p) ⟨z27,trivial⟩ (by kernel_rfl) fun a K h X hX=> ?_
 exact h (fun e K=>X (e,()) fun r _=>K r.1) (fun e K hs=>hX (e,()) (fun r _=>K r.1) (Eq.mp (w0x J9 (fun e K=>X (e,()) fun r _=>K r.1) e K) hs))
def z0p(X:B6):Con Sg:=conS [.el C.ex] [.vec 66 C.ex] fun a K=>X a.1 (fun q0=>K (q0,()))
theorem w0y(q4y:W6)(q97:Gc)(h:AL [(234,z0o q4y),(235,z57 q97)]):MT 183 (z0p (z0g q4y q97)):=mS h (by kernel_rfl) [(234000007,⟨bl 7955,[1],[],[(.slot 5,.own 66 C.ex),sI 13]⟩)] fun a K=>by kernel_rfl
theorem w0z:MT 183 (z0p q4n):=w0y B5 q5h ⟨w0w,w7f,trivial⟩
def Ws(X:Zs):Con Sg:=conV [.own 9 C.str] [.vec 9 C.str] [] [.vec 9 C.str] fun a K=>X a.1 (fun q0=>K () (q0,()))
theorem Hx:MT 80 (Ws Zd):=⟨entB (by kernel_rfl),q6o⟩
def U9(X:J4):Con Sg:=conV [.own 9 C.str] [.vec 9 C.str] [.vec 9 C.str] [.same] fun a K=>X a.1 (fun q0=>K (q0,()) ((),()))
theorem q4a:MT 184 (U9 Z3):=⟨entB (by kernel_rfl),q31⟩
def q57(X:Hb):Con Sg:=conS [.el C.ex] [.sl C.str] fun a K=>X a.1 (fun q0=>K (q0,()))
theorem j5x(q4z:B6)(Qr:Zs)(Z7:J4)(h:AL [(183,z0p q4z),(80,Ws Qr),(184,U9 Z7)]):MT 138 (q57 (q52 q4z Qr Z7)):=mS h (by kernel_rfl) [(7,⟨bl 455,[1,0],[],[(.slot 3,.own 9 C.str),sI 9]⟩)] fun a K=>by kernel_rfl
theorem j5y:MT 138 (q57 Hc):=j5x q4n Zd Z3 ⟨w0z,Hx,q4a,trivial⟩
def j1q(X:z2l):Con Sg:=conV [.sl C.str,.sl C.edge] [.sl C.str,.sl C.edge] [.vec 9 C.str,.int .i64] [.same,.same] fun a K=>X a.1 a.2.1 (fun q0 q1=>K (q0,q1,()) ((),(),()))
theorem w4f:MT 139 (j1q P_graph_Order):=⟨entB (by kernel_rfl),w3x⟩
def q87(X:Rv):Con Sg:=conS [.sl C.seg] [.vec 9 C.str,.int .i64] fun a K=>X a.1 (fun q0 q1=>K (q0,q1,()))
theorem j9b(q0q:Hb)(q62:z2l)(h:AL [(138,q57 q0q),(139,j1q q62)]):MT 78 (q87 (q8j q0q q62)):=mS h (by kernel_rfl) [(9,⟨bl 3085,[],[],[(.slot 4,.own 9 C.str),(.slot 5,.own 217 C.edge),sI 12]⟩),(17,⟨bl 33488029,[6,5,3],[],[(.slot 5,.own 217 C.edge),sI 25]⟩)] fun a K=>by kernel_rfl
theorem j9c:MT 78 (q87 Rw):=j9b Hc P_graph_Order ⟨j5y,w4f,trivial⟩
def q58(X:Hd):Con Sg:=conS [.el C.subj,.str,.str] [.el C.val,.bool] fun a K=>X a.1 a.2.1 a.2.2.1 (fun q0 q1=>K (q0,q1,()))
theorem j5z(Jv:U0)(Zv:V0)(h:AL [(64,q83 Jv),(170,q2z Zv)]):MT 129 (q58 (q53 Jv Zv)):=mS h (by kernel_rfl) [(17,⟨bl 1912468303,[2,0],[(1,(115,4))],[sI 31,(.cell 1 0,.int .i64),(.cell 1 1,.int .i64),(.cell 1 2,.str),(.cell 1 3,.sl C.str)]⟩)] fun a K=>by kernel_rfl
theorem j50:MT 129 (q58 He):=j5z Vc J9 ⟨z52,z27,trivial⟩
def z3c(X:q2c):Con Sg:=conS [.el C.val,.el C.val] [.bool] fun a K=>X a.1 a.2.1 (fun q0=>K (q0,()))
theorem w4g(Qo:Za)(h:AL [(174,Wl Qo)]):MT 133 (z3c (z2m Qo)):=mS h (by kernel_rfl) [] fun a K=>by kernel_rfl
theorem w4h:MT 133 (z3c Bc):=w4g Q2 ⟨Hg,trivial⟩
def Gu(X:Z4):Con Sg:=conS [.str,.str] [.bool] fun a K=>X a.1 a.2.1 (fun q0=>K (q0,()))
theorem q21:MT 175 (Gu Zo):=mS (l:=[]) trivial (by kernel_rfl) [] fun a K=>by kernel_rfl
def q02(X:Vf):Con Sg:=conS [.str,.str] [.bool] fun a K=>X a.1 a.2.1 (fun q0=>K (q0,()))
theorem z9u(Q6:Z4)(h:AL [(175,Gu Q6)]):MT 134 (q02 (q0z Q6)):=mS h (by kernel_rfl) [] fun a K=>by kernel_rfl
theorem z9v:MT 134 (q02 Vg):=z9u Zo ⟨q21,trivial⟩
def q22(X:Wp):Con Sg:=conS [.str,.str] [.bool] fun a K=>X a.1 a.2.1 (fun q0=>K (q0,()))
theorem z3d:MT 176 (q22 Wq):=mS (l:=[]) trivial (by kernel_rfl) [] fun a K=>by kernel_rfl
def q03(X:Vh):Con Sg:=conS [.str,.str] [.bool] fun a K=>X a.1 a.2.1 (fun q0=>K (q0,()))
theorem z9w(Wy:Wp)(h:AL [(176,q22 Wy)]):MT 135 (q03 (q00 Wy)):=mS h (by kernel_rfl) [] fun _ _=>by kernel_rfl
theorem z9x:MT 135 (q03 Vi):=z9w Wq ⟨z3d,trivial⟩
end Go.En
end
noncomputable section
set_option maxRecDepth 100000
open Go Go.RowKit Go.Fl Go.Fl.Lk Go.Fx
namespace Go.En
def q9u(X:q2d):Con Sg:=conV [.v,.v] [.str,.str] [.bool] [.same,.same] fun a K=>X a.1 a.2.1 (fun q0=>K (q0,()) ((),(),()))
theorem j1r:MT 136 (q9u Hu):=⟨entB (by kernel_rfl),j09⟩
def j1s(X:q6l):Con Sg:=conS [.el C.val] [.bool] fun a K=>X a.1 (fun q0=>K (q0,()))
theorem w4i:MT 227 (j1s q2e):=mS (l:=[]) trivial (by kernel_rfl) [(8,⟨bl 31,[0],[],[sB 5]⟩),(14,⟨bl 63,[0],[],[sB 17]⟩)] fun a K=>by kernel_rfl
def z58(X:q5i):Con Sg:=conS [.str] [.bool] fun a K=>X a.1 (fun q0=>K (q0,()))
theorem w7g(Zu:Vx)(h:AL [(246,q2v Zu)]):MT 228 (z58 (z5d Zu)):=mS h (by kernel_rfl) [(9,⟨bl 32737,[],[],[(.obj 0,.siter)]⟩)] fun a K=>by kernel_rfl
theorem w7h:MT 228 (z58 q5j):=w7g Js ⟨q9q,trivial⟩
def z59(X:q8k):Con Sg:=conV [.v,.v] [.str,.str] [.vec 9 C.str] [.same,.same] fun a K=>X a.1 a.2.1 (fun q0=>K (q0,()) ((),(),()))
theorem j9d:MT 231 (z59 q2f):=⟨entB (by kernel_rfl),j8d⟩
def Gv(X:Jt):Con Sg:=conS [.str,.str] [.str,.bool] fun a K=>X a.1 a.2.1 (fun q0 q1=>K (q0,q1,()))
theorem z3e(Q6:Z4)(h:AL [(175,Gu Q6)]):MT 286 (Gv (Gk Q6)):=mS h (by kernel_rfl) [] fun a K=>by kernel_rfl
theorem z3f:MT 286 (Gv Wr):=z3e Zo ⟨q21,trivial⟩
def q04(X:Vj):Con Sg:=conS [.str,.str] [.str,.bool] fun a K=>X a.1 a.2.1 (fun q0 q1=>K (q0,q1,()))
theorem z9y(Wz:Jt)(h:AL [(286,Gv Wz)]):MT 269 (q04 (q01 Wz)):=mS h (by kernel_rfl) [] fun a K=>by kernel_rfl
theorem z9z:MT 269 (q04 Vk):=z9y Wr ⟨z3f,trivial⟩
def z8j(X:z0h):Con Sg:=conV [.v] [.str] [.int .i64,.ifc] [.same] fun a K=>X a.1 (fun q0 q1=>K (q0,q1,()) ((),()))
theorem w00:MT 270 (z8j B7):=⟨entB (by kernel_rfl),w0l⟩
def q23(X:V4):Con Sg:=conS [.str] [.int .i64,.int .i64] fun a K=>X a.1 (fun q0 q1=>K (q0,q1,()))
theorem j1t(Gz:Vj)(q0f:z0h)(h:AL [(269,q04 Gz),(270,z8j q0f)]):MT 232 (q23 (q2g Gz q0f)):=mS h (by kernel_rfl) [(11,⟨bl 4294966321,[],[],[(.obj 0,.siter)]⟩)] fun a K=>by kernel_rfl
theorem j1u:MT 232 (q23 V5):=j1t Vk B7 ⟨z9z,w00,trivial⟩
def q6t(X:Gl):Con Sg:=conS [.str] [.el C.a3,.bool] fun a K=>X a.1 (fun q0 q1=>K (q0,q1,()))
theorem w4j(q3h:q8k)(Hz:V4)(h:AL [(231,z59 q3h),(232,q23 Hz)]):MT 181 (q6t (z2n q3h Hz)):=mS h (by kernel_rfl) [(13,⟨bl 228405,[2],[(1,(257,3)),(0,(257,3))],[sI 18,(.cell 1 0,.int .i64),(.cell 1 1,.int .i64),(.cell 1 2,.int .i64),(.cell 0 0,.int .i64),(.cell 0 1,.int .i64),(.cell 0 2,.int .i64)]⟩)] fun a K=>by kernel_rfl
theorem j1v:MT 181 (q6t Gm):=w4j q2f V5 ⟨j9d,j1u,trivial⟩
def z3g(X:q2h):Con Sg:=conS [.el C.val] [.int .i64] fun a K=>X a.1 (fun q0=>K (q0,()))
theorem w4k(q63:q6l)(q5v:q5i)(Wd:Gl)(h:AL [(227,j1s q63),(228,z58 q5v),(181,q6t Wd)]):MT 178 (z3g (z2o q63 q5v Wd)):=mS h (by kernel_rfl) [(47,⟨bl 73643289922748022531,[0],[],[sI 66]⟩),(59,⟨bl 132521265739157328625411,[0],[],[sI 77]⟩)] fun a K=>by kernel_rfl
theorem w4l:MT 178 (z3g q2i):=w4k q2e q5j Gm ⟨w4i,w7h,j1v,trivial⟩
def q88(X:Rx):Con Sg:=conS [.el C.val,.el C.val] [.int .i64,.int .i64] fun a K=>X a.1 a.2.1 (fun q0 q1=>K (q0,q1,()))
theorem j9e(q3i:q2h)(Wd:Gl)(h:AL [(178,z3g q3i),(181,q6t Wd)]):MT 137 (q88 (q8l q3i Wd)):=mS h (by kernel_rfl) [(183000005,⟨bl 1539,[],[],[sI 11]⟩)] fun a K=>by kernel_rfl
theorem j9f:MT 137 (q88 U4):=j9e q2i Gm ⟨w4l,j1v,trivial⟩
def q6u(X:q2j):Con Sg:=conS [.el C.subj,.el C.ex] [.bool] fun a K=>X a.1 a.2.1 (fun q0=>K (q0,()))
theorem w4m(q0r:Hd)(Wx:Bb)(Bp:q2c)(G0:Vf)(G1:Vh)(H0:q2d)(R3:Rx)(h:AL [(129,q58 q0r),(130,q6s Wx),(133,z3c Bp),(134,q02 G0),(135,q03 G1),(136,q9u H0),(137,q88 R3)]):MT 77 (q6u (z2p q0r Wx Bp G0 G1 H0 R3)):=mS h (by kernel_rfl) [(174000005,⟨bl 195,[2],[],[sI 8]⟩),(129000005,⟨bl 195,[],[],[sI 8]⟩)] fun a K=>by kernel_rfl
theorem w4n:MT 77 (q6u Bd):=w4m He V3 Bc Vg Vi Hu U4 ⟨j50,j1o,w4h,z9v,z9x,j1r,j9f,trivial⟩
def q6v(X:Wc):Con Sg:=conV [.el C.subj,.sl C.str,.el C.ex] [.el C.subj,.sl C.str,.el C.ex] [.bool] [.same,.same,.same] fun a K=>X a.1 a.2.1 a.2.2.1 (fun q0=>K (q0,()) ((),(),(),()))
def z8k:PT:=Q4 ([(128000005,⟨bl 195,[1,0],[],[sI 8]⟩),(129000005,⟨bl 195,[],[],[sI 8]⟩)]:LS)
theorem j9g(q64:q2j)(X:Wc)(s:Subj)(in_:List (ByteArray))(e:Ex)(K:Bool->Prop):z2q q64 X s in_ e K=fnV (((WL [(77,q6u q64)]).with 45 (q6v X)).pl z8k) 4 45 ([.el C.subj,.sl C.str,.el C.ex]:LP) ([.v]:LP) ([.el C.subj,.sl C.str,.el C.ex]:LV) ([.bool]:LV) ([.same,.same,.same]:LV) (s,in_,e,()) (fun r _=>K r.1):=by kernel_rfl
theorem j1w:MT 45 (q6v Gn):=by
 show MT _ (conV ([.el C.subj,.sl C.str,.el C.ex]:LP) ([.el C.subj,.sl C.str,.el C.ex]:LV) ([.bool]:LV) ([.same,.same,.same]:LV) fun a K=>Gn a.1 a.2.1 a.2.2.1 (fun q0=>K (q0,()) ((),(),(),())))
 refine mR (l:=[(77,q6u Bd)]) (u:=4) (rk:=[.v]) (p:=z8k) ⟨w4n,trivial⟩ (by kernel_rfl) fun a K h X hX=> ?_
 exact h (fun s in_ e K=>X (s,in_,e,()) fun r _=>K r.1) (fun s in_ e K hs=>hX (s,in_,e,()) (fun r _=>K r.1) (Eq.mp (j9g Bd (fun s in_ e K=>X (s,in_,e,()) fun r _=>K r.1) s in_ e K) hs))
def q24(X:V6):Con Sg:=conS [.el C.seg,.el C.subj,.sl C.str] [.bool] fun a K=>X a.1 a.2.1 a.2.2.1 (fun q0=>K (q0,()))
theorem j1x(Zm:Wa)(Jm:Wc)(h:AL [(35,q0d Zm),(45,q6v Jm)]):MT 79 (q24 (q2k Zm Jm)):=mS h (by kernel_rfl) [(129000005,⟨bl 195,[],[],[sI 8]⟩)] fun _ _=>by kernel_rfl
theorem j1y:MT 79 (q24 V7):=j1x Wb Gn ⟨z0n,j1w,trivial⟩
end Go.En
end
noncomputable section
set_option maxRecDepth 100000
open Go Go.RowKit Go.Fl Go.Fl.Lk Go.Fx
namespace Go.En
def q4b(X:U5):Con Sg:=conS [.sl C.seg,.el C.subj] [.vec 9 C.str] fun a K=>X a.1 a.2.1 (fun q0=>K (q0,()))
theorem j4b(q3j:Rv)(H1:V6)(Qr:Zs)(h:AL [(78,q87 q3j),(79,q24 H1),(80,Ws Qr)]):MT 46 (q4b (q3v q3j H1 Qr)):=mS h (by kernel_rfl) [(13,⟨bl 8380667,[1,0],[],[sI 23,(.obj 2,.map C.str C.seg)]⟩),(25,⟨bl 12918448379,[2,1,0],[],[(.slot 10,.own 9 C.str),sI 34]⟩)] fun a K=>by kernel_rfl
theorem j4c:MT 46 (q4b U6):=j4b Rw V7 Zd ⟨j9c,j1y,Hx,trivial⟩
def Bi(X:J5):Con Sg:=conS [.el C.env,.el C.subj,.str] [.bool] fun a K=>X a.1 a.2.1 a.2.2.1 (fun q0=>K (q0,()))
theorem j4d(Bq:U5)(Jm:Wc)(h:AL [(46,q4b Bq),(45,q6v Jm)]):MT 18 (Bi (q3w Bq Jm)):=mS h (by kernel_rfl) [(5,⟨bl 3615,[1,0],[],[sI 12]⟩)] fun a K=>by kernel_rfl
theorem z1x:MT 18 (Bi J6):=j4d U6 Gn ⟨j4c,j1w,trivial⟩
def j1z(X:q6m):Con Sg:=conS [.sl C.range,.int .i64] [.int .i64] fun a K=>X a.1 a.2.1 (fun q0=>K (q0,()))
theorem w4o:MT 40 (j1z q2l):=mS (l:=[]) trivial (by kernel_rfl) [(5,⟨bl 387,[],[],[sI 9]⟩)] fun a K=>by kernel_rfl
def q4q(X:Uh):Con Sg:=conS [.el C.env,.el C.subj,.sl C.forced,.str] [.el C.asg,.int .i64] fun a K=>X a.1 a.2.1 a.2.2.1 a.2.2.2.1 (fun q0 q1=>K (q0,q1,()))
theorem w01(Zm:Wa)(Jw:U3)(Um:q0x)(q65:q6m)(Z8:J5)(W0:Gi)(q66:q6k)(h:AL [(35,q0d Zm),(20,q86 Jw),(36,z3a Um),(40,j1z q65),(18,Bi Z8),(16,q6r W0),(37,j1m q66)]):MT 14 (q4q (z0i Zm Jw Um q65 Z8 W0 q66)):=mS h (by kernel_rfl) [(4,⟨bl 959,[3,2,1,0],[],[sI 10]⟩),(18,⟨bl 2198939402175,[9,5,3,2,1,0],[(7,(46,5))],[(.cell 7 2,.int .i64)]⟩),(22,⟨bl 17735122472271807,[12,7,9,5,3,2,1,0],[],[sB 64]⟩),(30,⟨bl 18464479196181823423,[12,7,9,5,3,2,1,0],[],[sB 87]⟩),(41,⟨bl 73193204841212587949592543167,[12,9,5,3,2,1,0],[(7,(46,5))],[sI 96,(.cell 7 1,.str),(.cell 7 3,.int .i64)]⟩),(46,⟨bl 1261615642555177651852752060351,[19,7],[],[sB 19]⟩),(48,⟨bl 1261615642555177651852752584639,[19,7],[],[sB 122]⟩),(72000005,⟨bl 195,[],[],[sI 8]⟩),(34000005,⟨bl 195,[],[],[sI 8]⟩)] fun a K=>by kernel_rfl
theorem z8l:MT 14 (q4q Ui):=w01 Wb Ve Gh q2l J6 Gj q2b ⟨z0n,z55,j9a,w4o,z1x,j1n,w4c,trivial⟩
def w2m(X:z7c):Con Sg:=conS [.sl C.bytes] [.vec 5 C.u8] fun a K=>X a.1 (fun q0=>K (q0,()))
theorem v4i:MT 111 (w2m z1j):=mS (l:=[]) trivial (by kernel_rfl) [(7,⟨[0,2],[],[],[(.slot 3,.own 5 C.u8),sI 4]⟩),(15,⟨bl 518069,[],[],[(.slot 3,.own 5 C.u8),sI 6]⟩)] fun a K=>by kernel_rfl
def j9h(X:z2r):Con Sg:=conS [.int .u64,.int .u64] [.int .u64] fun a K=>X a.1 a.2.1 (fun q0=>K (q0,()))
theorem w98:MT 217 (j9h q8m):=mS (l:=[]) trivial (by kernel_rfl) [] fun a K=>by kernel_rfl
def q59(X:Hf):Con Sg:=conS [.el C.sip,.int .i64] [.el C.sip] fun a K=>X a.1 a.2.1 (fun q0=>K (q0,()))
theorem j51(G2:z2r)(h:AL [(217,j9h G2)]):MT 164 (q59 (q54 G2)):=mS h (by kernel_rfl) [(5,⟨bl 23,[1],[(0,(238,4))],[sI 5,(.cell 0 0,.int IntKind.u64),(.cell 0 1,.int IntKind.u64),(.cell 0 2,.int IntKind.u64),(.cell 0 3,.int IntKind.u64)]⟩)] fun a K=>by kernel_rfl
theorem j52:MT 164 (q59 Zz):=j51 q8m ⟨w98,trivial⟩
def w4p(X:j05):Con Sg:=conS [.int .u64,.int .u64,.sl C.u8] [.int .u64] fun a K=>X a.1 a.2.1 a.2.2.1 (fun q0=>K (q0,()))
theorem y1x(Vq:Hf)(h:AL [(164,q59 Vq)]):MT 110 (w4p (w3s Vq)):=mS h (by kernel_rfl) [(7,⟨bl 1046727,[],[(0,(238,4))],[sI 8,(.cell 0 0,.int IntKind.u64),(.cell 0 1,.int IntKind.u64),(.cell 0 2,.int IntKind.u64),(.cell 0 3,.int IntKind.u64)]⟩),(15,⟨bl 33552839,[0],[],[(.slot 9,.int IntKind.u64),sI 10]⟩),(24,⟨bl 274777243079,[0],[],[(.slot 9,.int IntKind.u64)]⟩)] fun a K=>by kernel_rfl
theorem y1y:MT 110 (w4p j06):=y1x Zz ⟨j52,trivial⟩
def j9i(X:z5e):Con Sg:=conS [.int .u64,.sl C.bytes] [.int .u64] fun a K=>X a.1 a.2.1 (fun q0=>K (q0,()))
theorem v8i(z7u:z7c)(j66:j05)(h:AL [(111,w2m z7u),(110,w4p j66)]):MT 56 (j9i (j8a z7u j66)):=mS h (by kernel_rfl) [] fun a K=>by kernel_rfl
theorem v8j:MT 56 (j9i z5f):=v8i z1j j06 ⟨v4i,y1y,trivial⟩
def j6z(X:z2s):Con Sg:=conS [.str,.str] [.int .i64] fun a K=>X a.1 a.2.1 (fun q0=>K (q0,()))
theorem y1z(j2v:z5e)(h:AL [(56,j9i j2v)]):MT 29 (j6z (w3t j2v)):=mS h (by kernel_rfl) [] fun a K=>by kernel_rfl
theorem v2g:MT 29 (j6z q6n):=y1z z5f ⟨v8j,trivial⟩
def z6a(X:q5k):Con Sg:=conS [.el C.env,.el C.subj,.sl C.forced] [.vec 46 C.asg] fun a K=>X a.1 a.2.1 a.2.2.1 (fun q0=>K (q0,()))
theorem w7i(Jq:Uh)(h:AL [(14,q4q Jq)]):MT 12 (z6a (z5g Jq)):=mS h (by kernel_rfl) [(7,⟨bl 28767,[1,0],[],[(.slot 7,.own 46 C.asg),sI 15]⟩)] fun a K=>by kernel_rfl
theorem w7j:MT 12 (z6a q5l):=w7i Ui ⟨z8l,trivial⟩
def z3h(X:q2m):Con Sg:=conS [] [.bool] fun _ K=>X (fun q0=>K (q0,()))
theorem w4q(q0g:q4k)(Jq:Uh)(q67:z2s)(q98:q5k)(h:AL [(30,z8h q0g),(14,q4q Jq),(29,j6z q67),(12,z6a q98)]):MT 9 (z3h (z2t q0g Jq q67 q98)):=mS h (by kernel_rfl) [] fun a K=>by kernel_rfl
theorem w4r:MT 9 (z3h q2n):=w4q q4l Ui q6n q5l ⟨w0t,z8l,v2g,w7j,trivial⟩
def v8k(X:w3u):Con Sg:=conV [.sl C.u8,.v] [.sl C.u8,.int .i64] [.ptr 104 [.sl C.u8,.int .i64]] [.same,.same] fun a K=>X a.1 a.2.1 (fun q0 q1=>K ((q0,q1,()),()) ((),(),()))
theorem y5t:MT 23 (v8k j8b):=mP (rk:=[.ptr 104 [.c,.v]]) (l:=[]) trivial (by kernel_rfl) [(6,⟨[1,4],[],[],[(.slot 0,.sl C.u8)]⟩)] fun a K=>by kernel_rfl
def z90(X:q8n):Con Sg:=conV [.ptr 104 [.c,.v],.v] [.ptr 104 [.sl C.u8,.int .i64],.str] [.el C.ctx] [.ptr 104 [.same,.int .i64],.same] fun a K=>X a.1.1 a.1.2.1 a.2.1 (fun q0 q1=>K (q0,()) (((),q1,()),(),()))
theorem w99(z3r:z8y)(Q3:W2)(Qb:Zg)(Jj:q1s)(h:AL [(108,w30 z3r),(57,q5r Q3),(49,Vm Qb),(109,z5j Jj)]):MT 55 (z90 (z9f z3r Q3 Qb Jj)):=mP (rk:=[.el C.ctx]) h (by kernel_rfl) [(9,⟨bl 8051,[4,1],[(2,(82,3)),(0,(104,2))],[sI 7,(.cell 2 2,.own 180 C.attr),(.cell 0 1,.int .i64)]⟩)] fun _ _=>by kernel_rfl
theorem v0a:MT 55 (z90 q3x):=w99 z8z Jx Zc Ur ⟨v7w,q9o,Gt,j8e,trivial⟩
end Go.En
end
noncomputable section
set_option maxRecDepth 100000
open Go Go.RowKit Go.Fl Go.Fl.Lk Go.Fx
namespace Go.En
def z91(X:q8o):Con Sg:=conV [.ptr 104 [.c,.v]] [.ptr 104 [.sl C.u8,.int .i64]] [.el C.subj] [.ptr 104 [.same,.int .i64]] fun a K=>X a.1.1 a.1.2.1 (fun q0 q1=>K (q0,()) (((),q1,()),()))
theorem v0b(Qb:Zg)(q09:q8n)(h:AL [(49,Vm Qb),(55,z90 q09)]):MT 27 (z91 (z9g Qb q09)):=mP (rk:=[.el C.subj]) h (by kernel_rfl) [(10,⟨bl 125,[1],[(0,(104,2)),(2,(25,1))],[(.cell 0 1,.int .i64),(.cell 2 0,.own 82 C.ctx)]⟩)] fun a K=>by kernel_rfl
theorem v0c:MT 27 (z91 q8p):=v0b Zc q3x ⟨Gt,v0a,trivial⟩
def j4e(X:z1k):Con Sg:=conV [.ptr 104 [.c,.v],.el C.env] [.ptr 104 [.sl C.u8,.int .i64],.el C.env] [.vec 54 C.forced] [.ptr 104 [.same,.int .i64],.same] fun a K=>X a.1.1 a.1.2.1 a.2.1 (fun q0 q1=>K (q0,()) (((),q1,()),(),()))
theorem v4j(Qb:Zg)(h:AL [(49,Vm Qb)]):MT 32 (j4e (j3n Qb)):=mP (rk:=[.own 54 C.forced]) h (by kernel_rfl) [(7,⟨bl 27,[1],[(0,(104,2))],[(.slot 5,.own 54 C.forced),sI 6,(.cell 0 1,.int .i64)]⟩),(16,⟨bl 998651,[2],[(5,(54,3)),(0,(104,2))],[(.cell 5 0,.str),(.cell 0 1,.int .i64)]⟩),(32,⟨bl 998651,[2],[(5,(54,3)),(0,(104,2))],[(.cell 5 0,.str),(.cell 5 1,.str),(.cell 5 2,.int .i64),(.cell 0 1,.int .i64)]⟩),(26,⟨bl 274862128603,[],[(5,(54,3)),(0,(104,2))],[(.cell 5 0,.str),(.cell 0 1,.int .i64)]⟩)] fun a K=>by kernel_rfl
theorem v4k:MT 32 (j4e z1l):=v4j Zc ⟨Gt,trivial⟩
def z3i(X:q2o):Con Sg:=conS [.sl C.u8,.sl C.u8] [.el C.env,.el C.subj,.sl C.forced] fun a K=>X a.1 a.2.1 (fun q0 q1 q2=>K (q0,q1,q2,()))
theorem w4s(w0g:w3u)(q3k:Rq)(z3y:q8o)(z7v:z1k)(h:AL [(23,v8k w0g),(31,q82 q3k),(27,z91 z3y),(32,j4e z7v)]):MT 10 (z3i (z2u w0g q3k z3y z7v)):=mS h (by kernel_rfl) [] fun a K=>by kernel_rfl
theorem w4t:MT 10 (z3i Be):=w4s j8b Rr q8p z1l ⟨y5t,j87,v0c,v4k,trivial⟩
def j10(X:q5m):Con Sg:=conS [.el C.subj,.str] [.el C.ctx,.bool] fun a K=>X a.1 a.2.1 (fun q0 q1=>K (q0,q1,()))
theorem j9j:MT 28 (j10 q2p):=mS (l:=[]) trivial (by kernel_rfl) [(5,⟨bl 23,[0],[(1,(82,3))],[sI 6,(.cell 1 0,.str),(.cell 1 1,.str),(.cell 1 2,.sl C.attr)]⟩)] fun a K=>by kernel_rfl
def j45(X:q9n):Con Sg:=conS [.sl C.forced,.str] [.el C.forced,.bool] fun a K=>X a.1 a.2.1 (fun q0 q1=>K (q0,q1,()))
theorem w7k:MT 21 (j45 q5n):=mS (l:=[]) trivial (by kernel_rfl) [(5,⟨[0,1,4],[],[(0,(54,3))],[sI 6,(.cell 0 0,.str),(.cell 0 1,.str),(.cell 0 2,.int .i64)]⟩)] fun a K=>by kernel_rfl
def q9v(X:Hw):Con Sg:=conS [.el C.env,.str] [.int .i64] fun a K=>X a.1 a.2.1 (fun q0=>K (q0,()))
theorem j11:MT 22 (q9v V8):=mS (l:=[]) trivial (by kernel_rfl) [(5,⟨[0,1,2],[0],[],[sI 5]⟩)] fun a K=>by kernel_rfl
def j4f(X:z1m):Con Sg:=conS [.el C.env,.el C.subj] [.bool] fun a K=>X a.1 a.2.1 (fun q0=>K (q0,()))
theorem v4l(Ue:q5m)(q67:z2s)(h:AL [(28,j10 Ue),(29,j6z q67)]):MT 17 (j4f (j3o Ue q67)):=mS h (by kernel_rfl) [] fun a K=>by kernel_rfl
theorem v4m:MT 17 (j4f z1n):=v4l q2p q6n ⟨j9j,v2g,trivial⟩
def j4g(X:z1o):Con Sg:=conS [.sl C.str,.sl C.edge,.str] [.bool] fun a K=>X a.1 a.2.1 a.2.2.1 (fun q0=>K (q0,()))
theorem v4n(Qx:Vl)(h:AL [(81,q2y Qx)]):MT 208 (j4g (j3p Qx)):=mS h (by kernel_rfl) [(5,⟨[0,1,2],[],[],[sI 7]⟩)] fun a K=>by kernel_rfl
theorem v4o:MT 208 (j4g z1p):=v4n J8 ⟨q9s,trivial⟩
def j4h(X:z1q):Con Sg:=conS [.sl C.str,.sl C.edge] [.vec 9 C.str,.int .i64] fun a K=>X a.1 a.2.1 (fun q0 q1=>K (q0,q1,()))
theorem v4p(Qx:Vl)(z7w:z1o)(h:AL [(81,q2y Qx),(208,j4g z7w)]):MT 148 (j4h (j3q Qx z7w)):=mS h (by kernel_rfl) [(5,⟨[0,1],[],[],[sI 6]⟩),(15,⟨bl 61507,[],[],[sI 7]⟩),(25,⟨bl 1006694595,[],[],[(.slot 8,.own 9 C.str)]⟩),(31,⟨bl 34902898118816195,[],[],[(.slot 9,.str),sB 10,sI 11,(.obj 2,.own 9 C.str)]⟩)] fun a K=>by kernel_rfl
theorem v4q:MT 148 (j4h z1r):=v4p J8 z1p ⟨q9s,v4o,trivial⟩
def z92(X:q8q):Con Sg:=conS [.sl C.seg] [.vec 9 C.str,.int .i64] fun a K=>X a.1 (fun q0 q1=>K (q0,q1,()))
theorem v0d(Z5:Ho)(Gy:q0w)(z7x:z1q)(h:AL [(100,z1w Z5),(103,z25 Gy),(148,j4h z7x)]):MT 83 (z92 (z9h Z5 Gy z7x)):=mS h (by kernel_rfl) [] fun a K=>by kernel_rfl
theorem v0e:MT 83 (z92 q8r):=v0d Hp Gf z1r ⟨z7h,j82,v4q,trivial⟩
def z93(X:q8s):Con Sg:=conS [.el C.subj,.str,.str] [.el C.val,.bool] fun a K=>X a.1 a.2.1 a.2.2.1 (fun q0 q1=>K (q0,q1,()))
theorem v0f(Ue:q5m)(h:AL [(28,j10 Ue)]):MT 142 (z93 (z9i Ue)):=mS h (by kernel_rfl) [(15,⟨bl 3668815,[2,0],[(1,(115,4))],[sI 10,(.cell 1 0,.int .i64),(.cell 1 1,.int .i64),(.cell 1 2,.str),(.cell 1 3,.sl C.str)]⟩)] fun _ _=>by kernel_rfl
theorem v0g:MT 142 (z93 q8t):=v0f q2p ⟨j9j,trivial⟩
end Go.En
end
noncomputable section
set_option maxRecDepth 100000
open Go Go.RowKit Go.Fl Go.Fl.Lk Go.Fx
namespace Go.En
def z6b(X:q1g):Con Sg:=conS [.str,.str,.int .i64] [.bool] fun a K=>X a.1 a.2.1 a.2.2.1 (fun q0=>K (q0,()))
theorem j46:MT 145 (z6b Ry):=mS (l:=[]) trivial (by kernel_rfl) [] fun a K=>by kernel_rfl
def z0q(X:B8):Con Sg:=conS [.el C.val,.el C.val] [.bool] fun a K=>X a.1 a.2.1 (fun q0=>K (q0,()))
theorem w02(Qx:Vl)(W9:q1g)(h:AL [(81,q2y Qx),(145,z6b W9)]):MT 146 (z0q (z0j Qx W9)):=mS h (by kernel_rfl) [(13,⟨bl 4047,[1,0],[],[sI 5]⟩)] fun a K=>by kernel_rfl
theorem w03:MT 146 (z0q B9):=w02 J8 Ry ⟨q9s,j46,trivial⟩
def w7l(X:j07):Con Sg:=conS [.bool,.bool] [.int .i64] fun a K=>X a.1 a.2.1 (fun q0=>K (q0,()))
theorem v8l:MT 206 (w7l q8u):=mS (l:=[]) trivial (by kernel_rfl) [] fun a K=>by kernel_rfl
def z6c(X:q5o):Con Sg:=conS [.el C.val,.el C.val] [.int .i64,.int .i64] fun a K=>X a.1 a.2.1 (fun q0 q1=>K (q0,q1,()))
theorem w7m(Zw:Ba)(Qc:j07)(Hr:q3p)(h:AL [(205,z1v Zw),(206,w7l Qc),(207,z7f Hr)]):MT 147 (z6c (z5h Zw Qc Hr)):=mS h (by kernel_rfl) [(35,⟨bl 302157694953358261874639,[4,2,1,0],[],[sI 12]⟩)] fun a K=>by kernel_rfl
theorem w7n:MT 147 (z6c q1h):=w7m Ux q8u R9 ⟨j30,v8l,w2g,trivial⟩
def z7j(X:z1s):Con Sg:=conS [.el C.subj,.el C.ex] [.bool] fun a K=>X a.1 a.2.1 (fun q0=>K (q0,()))
theorem v4r(z3z:q8s)(Qv:Wi)(Ga:q3m)(W9:q1g)(q0h:B8)(q5w:q5o)(h:AL [(142,z93 z3z),(143,Rz Qv),(144,z7e Ga),(145,z6b W9),(146,z0q q0h),(147,z6c q5w)]):MT 82 (z7j (j3r z3z Qv Ga W9 q0h q5w)):=mS h (by kernel_rfl) [(17,⟨bl 34359734383,[2,1,0],[],[sI 7]⟩)] fun a K=>by kernel_rfl
theorem v4s:MT 82 (z7j q7e):=v4r q8t Jd q1b Ry B9 q1h ⟨v0g,q8v,w2d,j46,w03,w7n,trivial⟩
def z7k(X:Hq):Con Sg:=conV [.el C.subj,.sl C.str,.el C.ex] [.el C.subj,.sl C.str,.el C.ex] [.bool] [.same,.same,.same] fun a K=>X a.1 a.2.1 a.2.2.1 (fun q0=>K (q0,()) ((),(),(),()))
def j9k:PT:=Q4 ([(13,⟨bl 32303,[1,0],[],[sI 7]⟩),(27,⟨bl 6442483247,[1,0],[],[sI 8]⟩)]:LS)
theorem w7o(Qx:Vl)(z7y:z1s)(X:Hq)(s:Subj)(in_:List (ByteArray))(e:Ex)(K:Bool->Prop):j3s Qx z7y X s in_ e K=fnV (((WL [(81,q2y Qx),(82,z7j z7y)]).with 47 (z7k X)).pl j9k) 4 47 ([.el C.subj,.sl C.str,.el C.ex]:LP) ([.v]:LP) ([.el C.subj,.sl C.str,.el C.ex]:LV) ([.bool]:LV) ([.same,.same,.same]:LV) (s,in_,e,()) (fun r _=>K r.1):=by kernel_rfl
theorem w2n:MT 47 (z7k q3y):=by
 show MT _ (conV ([.el C.subj,.sl C.str,.el C.ex]:LP) ([.el C.subj,.sl C.str,.el C.ex]:LV) ([.bool]:LV) ([.same,.same,.same]:LV) fun a K=>q3y a.1 a.2.1 a.2.2.1 (fun q0=>K (q0,()) ((),(),(),())))
 refine mR (l:=[(81,q2y J8),(82,z7j q7e)]) (u:=4) (rk:=[.v]) (p:=j9k) ⟨q9s,v4s,trivial⟩ (by kernel_rfl) fun a K h X hX=> ?_
 exact h (fun s in_ e K=>X (s,in_,e,()) fun r _=>K r.1) (fun s in_ e K hs=>hX (s,in_,e,()) (fun r _=>K r.1) (Eq.mp (w7o J8 q7e (fun s in_ e K=>X (s,in_,e,()) fun r _=>K r.1) s in_ e K) hs))
def z6d(X:q5p):Con Sg:=conS [.el C.seg,.el C.subj,.sl C.str] [.bool] fun a K=>X a.1 a.2.1 a.2.2.1 (fun q0=>K (q0,()))
theorem w7p(Ue:q5m)(Qx:Vl)(Br:Hq)(h:AL [(28,j10 Ue),(81,q2y Qx),(47,z7k Br)]):MT 84 (z6d (z5i Ue Qx Br)):=mS h (by kernel_rfl) [] fun a K=>by kernel_rfl
theorem w7q:MT 84 (z6d q5q):=w7p q2p J8 q3y ⟨j9j,q9s,w2n,trivial⟩
def z3j(X:q2q):Con Sg:=conS [.sl C.seg,.el C.subj] [.sl C.str] fun a K=>X a.1 a.2.1 (fun q0=>K (q0,()))
theorem w4u(z30:q8q)(q99:q5p)(Ww:q4h)(h:AL [(83,z92 z30),(84,z6d q99),(85,z7i Ww)]):MT 48 (z3j (z2v z30 q99 Ww)):=mS h (by kernel_rfl) [(9,⟨bl 31867,[1,0],[],[(.slot 7,.sl C.str),sI 8]⟩),(15,⟨bl 449883,[],[],[(.slot 7,.sl C.str),sI 9]⟩)] fun a K=>by kernel_rfl
theorem w4v:MT 48 (z3j q2r):=w4u q8r q5q q0k ⟨v0e,w7q,j6y,trivial⟩
def z0r(X:q0a):Con Sg:=conS [.el C.env,.el C.subj,.str] [.bool] fun a K=>X a.1 a.2.1 a.2.2.1 (fun q0=>K (q0,()))
theorem w04(H2:Hw)(q68:q2q)(Br:Hq)(h:AL [(22,q9v H2),(48,z3j q68),(47,z7k Br)]):MT 19 (z0r (z0k H2 q68 Br)):=mS h (by kernel_rfl) [] fun a K=>by kernel_rfl
theorem w05:MT 19 (z0r q0b):=w04 V8 q2r q3y ⟨j11,w4v,w2n,trivial⟩
end Go.En
end
noncomputable section
set_option maxRecDepth 100000
open Go Go.RowKit Go.Fl Go.Fl.Lk Go.Fx
namespace Go.En
def Wt(X:Gq):Con Sg:=conS [.sl C.u8,.sl C.u8,.el C.subj,.sl C.forced,.str] [.bool] fun a K=>X a.1 a.2.1 a.2.2.1 a.2.2.2.1 a.2.2.2.2.1 (fun q0=>K (q0,()))
theorem z3k(q69:q2m)(q7a:q2o)(W0:Gi)(z7z:z1m)(Z8:J5)(q40:q0a)(Jw:U3)(z0a:q9n)(h:AL [(9,z3h q69),(10,z3i q7a),(16,q6r W0),(17,j4f z7z),(18,Bi Z8),(19,z0r q40),(20,q86 Jw),(21,j45 z0a)]):MT 4 (Wt (Gs q69 q7a W0 z7z Z8 q40 Jw z0a)):=mS h (by kernel_rfl) [(15,⟨bl 281474909616287,[5,2,1,0],[],[sI 48]⟩),(25,⟨bl 4611615649616148639,[9,7],[],[sI 62]⟩),(39,⟨bl 2266735912903329542322335,[7,5,2,1,0],[],[sI 81]⟩),(45,⟨bl 308729431185141456586684575,[9],[],[sI 88]⟩)] fun a K=>by kernel_rfl
theorem z3l:MT 4 (Wt Zp):=z3k q2n Be Gj z1n J6 q0b Ve q5n ⟨w4r,w4t,j1n,v4m,z1x,w05,z55,w7k,trivial⟩
end Go.En
end
noncomputable section
set_option maxRecDepth 100000
namespace Go.En
open Go Go.Fl Go.Fl.Lk Go.Fx
theorem Cnd.mk{c A B:Prop}(h:c->A)(k: ¬c->B):Cnd c A B:=⟨h,k⟩
structure DS(list:List Int)(at_:Int):Prop where
 len:list.length<=1000
 lo:0<=at_
 hi:at_<=list.length
 byte: ∀x∈list,0<=x/\x<256
theorem getm{α:Type}{l:List α}{k:Nat}{x:α}(h:l[k]? =some x):x∈l:=List.mem_of_getElem? h
theorem z94(n:Int):(Go.Utf8.encode n).size<=4:=by
 unfold Go.Utf8.encode
 generalize (if Go.Utf8.valid n then n.toNat else Go.Utf8.runeError)=c
 show (if c<0x80 then _ else if c<0x800 then _ else if c<0x10000 then _ else _:ByteArray).size<=4
 have h1: ∀a:UInt8,(ByteArray.mk #[a]).size<=4:=fun _=>(by decide:1<=4)
 have h2: ∀a b:UInt8,(ByteArray.mk #[a,b]).size<=4:=fun _ _=>(by decide:2<=4)
 have h3: ∀a b c:UInt8,(ByteArray.mk #[a,b,c]).size<=4:=fun _ _ _=>(by decide:3<=4)
 have h4: ∀a b c d:UInt8,(ByteArray.mk #[a,b,c,d]).size<=4:=fun _ _ _ _=>(by decide:4<=4)
 split
 ·exact h1 _
 ·split
  ·exact h2 _ _
  ·split
   ·exact h3 _ _ _
   ·exact h4 _ _ _ _
theorem Qh{list:List Int}{at_ n:Int}{K:Int->Int->Prop}(hD:DS list at_)(hn:1<=n)(h: ∀r a,0<=r->r<n->DS list a->K r a):Zc list at_ n K:=by
 obtain⟨h1,h2,h3,h4⟩:=hD
 unfold Zc w3m j6r
 refine fun _=>Cnd.mk (fun hl=> ?_) (fun _=>h _ _ (by omega) (by omega) ⟨h1,h2,h3,h4⟩)
 have hl:=of_decide_eq_true hl
 refine⟨by unfold InI;omega,by unfold InI;omega,by omega,fun y hy=>⟨by unfold InI;have:=h4 _ (getm hy);omega,by omega,?_⟩⟩
 obtain⟨a,b⟩:=h4 _ (getm hy)
 exact h _ _ (Int.tmod_nonneg _ a) (by have:=Int.tmod_lt_of_pos y (b:=n) (by omega);omega) ⟨h1,by omega,by omega,h4⟩
theorem q5s{list:List Int}{at_ n:Int}{K:Int->Int->Prop}(hD:DS list at_)(hn:1<=n)(h: ∀r a,0<=r->r<n->DS list a->K r a):q6i list at_ n K:=by
 unfold q6i w3o
 refine Qh hD (by decide) fun r a r0 r1 hD=>⟨by unfold InI;omega,Qh hD (by decide) fun s b s0 s1 hD=>⟨by unfold InI;omega,by omega,?_⟩⟩
 exact h _ _ (Int.tmod_nonneg _ (by omega)) (by have:=Int.tmod_lt_of_pos (256*r+s) (b:=n) (by omega);omega) hD
theorem j12{n:Int}{l:List ByteArray}{K:List ByteArray->Prop}(h0:0<=n)(h1:n<=l.length)(h:K (l.take n.toNat)):z64 n l K:=⟨⟨h0,h1⟩,h⟩
theorem z1y{list:List Int}{at_:Int}{K:ByteArray->Int->Prop}(hD:DS list at_)(h: ∀r a,r∈j0v->DS list a->K r a):q1r list at_ K:=by
 unfold q1r w3n
 exact Qh hD (by decide) fun r a r0 r1 hD=>⟨⟨r0,r1⟩,fun y hy=>h _ _ (getm hy) hD⟩
theorem sz_k(n:Int):(ByteArray.mk (Array.mk [107])++Go.Utf8.encode n).size<=5:=by
 rw[ByteArray.size_append];have:=z94 n;show 1+_<=5;omega
theorem v2h{list:List Int}{at_:Int}{K:ByteArray->Int->Prop}(hD:DS list at_)(h: ∀r a,r.size<=5->DS list a->K r a):z8z list at_ K:=by
 unfold z8z w9f
 refine Qh hD (by decide) fun r a r0 r1 hD=>⟨by unfold InI;omega,?_,h _ _ (sz_k _) hD⟩
 have:=z94 (Go.IntKind.i32.wrap (48+r));have e:(ByteArray.mk (Array.mk [107])).size=1:=rfl;omega
theorem j9l{list:List Int}{at_:Int}{K:List ByteArray->Int->Prop}(hD:DS list at_)(h: ∀r a,r.length<=3->(∀s∈r,s.size<=5)->DS list a->K r a):z2c list at_ K:=by
 unfold z2c w3p
 refine Qh hD (by decide) fun n a n0 n1 hD=> ?_
 refine Lp3.ind (fun l i a=>DS list a/\0<=i/\i<=3/\(l.length:Int)=i/\ ∀s∈l,s.size<=5) (fun _ i _=>(3 - i).toNat) ?_ ⟨hD,by decide,by decide,rfl,by simp⟩
 rintro l i a ⟨hD,i0,i3,hl,hs⟩
 refine Qh hD (by decide) fun r a r0 r1 hD=>Cnd.mk (fun hc=> ?_) (fun hc=> ?_)
 ·have:=z94 (Go.IntKind.i32.wrap ((48:Int)+(n+i).tmod 10));have e:(ByteArray.mk (Array.mk [107])).size=1:=rfl
  have m0:=Int.tmod_nonneg 10 (show 0<=n+i by omega);have m1:=Int.tmod_lt_of_pos (n+i) (b:=10) (by decide)
  refine⟨by unfold InI;omega,by decide,by unfold InI;omega,by omega,by unfold Sml;simp;omega,by unfold InI;omega,⟨hD,by omega,by omega,by simp;omega,fun s hm=> ?_⟩,by omega⟩
  rcases List.mem_append.1 hm with hm|hm
  ·exact hs s hm
  ·rw[List.mem_singleton.1 hm];exact sz_k _
 ·refine Lp2.ind (fun (i:Int) (m:List ByteArray)=>m=l/\1<=i/\i<=1+l.length) (fun (i:Int) _=>(1+l.length - i).toNat) ?_ ⟨rfl,by decide,by omega⟩
  rintro i m ⟨rfl,i0,i1⟩ _
  refine Cnd.mk (fun hc=>⟨by omega,fun y hy=>⟨by unfold InI;omega,by omega,fun z hz=>Cnd.mk (fun _=>⟨by unfold InI;omega,⟨rfl,by omega,by omega⟩,by omega⟩) (fun _=>⟨by omega,h _ _ (by simp;omega) (fun s hm=>hs s (List.mem_of_mem_take hm)) hD⟩)⟩⟩) (fun _=>h _ _ (by omega) hs hD)
theorem sz0:(ByteArray.mk (Array.mk ([]:List UInt8))).size<=100:=by decide
structure ValS(v:Val):Prop where
 num:InI v.number
 txt:v.text.size<=100
 len:v.list.length<=10
 txs: ∀s∈v.list,s.size<=100
theorem q7f{list:List Int}{at_ kind:Int}{K:Val->Int->Prop}(hD:DS list at_)(h: ∀r a,ValS r->DS list a->K r a):Ur list at_ kind K:=by
 unfold Ur j0w
 have tt: ∀s∈j0v,s.size<=100:=by decide
 have tv: ∀s∈z4q,s.size<=100:=by decide
 have tl: ∀l∈j7z,l.length<=10/\ ∀s∈l,s.size<=100:=by decide
 refine Cnd.mk (fun _=> ?_) fun _=>Cnd.mk (fun _=>fun _=> ?_) fun _=>Cnd.mk (fun _=> ?_) fun _=>Cnd.mk (fun _=> ?_) fun _=> ?_
 ·exact Qh hD (by decide) fun r a r0 r1 hD=>h _ _ ⟨by unfold InI;simp only;omega,sz0,by simp,by simp⟩ hD
 ·refine Qh hD (by decide) fun r a r0 r1 hD=>⟨⟨r0,r1⟩,fun y hy=>h _ _ ⟨?_,sz0,by simp,by simp⟩ hD⟩
  have:=getm hy
  have k: ∀y∈[(0:Int),(1:Int),(17:Int),(18:Int),(19:Int),(-5:Int),(64:Int),(1099511627776:Int),(-1099511627776:Int)], -9223372036854775808<=y/\y<=9223372036854775807:=by decide
  exact k y this
 ·exact z1y hD fun r a hr hD=>h _ _ ⟨by unfold InI;simp,tt _ hr,by simp,by simp⟩ hD
 ·exact Qh hD (by decide) fun r a r0 r1 hD=>⟨⟨r0,r1⟩,fun y hy=>h _ _ ⟨by unfold InI;simp,tv _ (getm hy),by simp,by simp⟩ hD⟩
 ·refine Qh hD (by decide) fun r a r0 r1 hD=>⟨⟨r0,r1⟩,fun y hy=> ?_⟩
  obtain⟨a1,a2⟩:=tl _ (getm hy)
  exact⟨by unfold Sml;simp;omega,h _ _ ⟨by unfold InI;simp,sz0,by simpa using a1,by simpa using a2⟩ hD⟩
structure VsS(l:List Val):Prop where
 len:l.length<=4
 all: ∀v∈l,ValS v
theorem VsS.nil:VsS []:=⟨by simp,by simp⟩
theorem VsS.one{v:Val}(h:ValS v):VsS [v]:=⟨by simp,by simpa using h⟩
def ExS:Nat->Ex->Prop
 |0,e=>VsS e.values/\(e.name.size<=100/\e.kind.size<=100)/\(InI e.op/\(2<=e.op->e.op<=4->e.kids≠[]))/\e.kids=[]
 |n+1,e=>VsS e.values/\(e.name.size<=100/\e.kind.size<=100)/\(InI e.op/\(2<=e.op->e.op<=4->e.kids≠[]))/\e.kids.length<=3/\ ∀k∈e.kids,ExS n k
theorem ExS.up: ∀{n:Nat} {e:Ex},ExS n e->ExS (n+1) e
 |0,e,h=>⟨h.1,h.2.1,h.2.2.1,by rw[h.2.2.2];simp,by rw[h.2.2.2];simp⟩
 |n+1,e,h=>⟨h.1,h.2.1,h.2.2.1,h.2.2.2.1,fun k hk=>(h.2.2.2.2 k hk).up⟩
theorem ExS.le{n m:Nat}{e:Ex}(h:ExS n e)(hm:n<=m):ExS m e:=by
 induction hm with
 |refl=>exact h
 |step _ ih=>exact ih.up
theorem ExS.kids{n:Nat}{e:Ex}(h:ExS n e):e.kids.length<=3:=by
 cases n with
 |zero=>rw[h.2.2.2];simp
 |succ n=>exact h.2.2.2.1
theorem ExS.kid{n:Nat}{e k:Ex}(h:ExS n e)(hk:k∈e.kids): ∃m,m+1=n/\ExS m k:=by
 cases n with
 |zero=>rw[h.2.2.2] at hk;simp at hk
 |succ n=>exact⟨n,rfl,h.2.2.2.2 k hk⟩
theorem ExS.vals{n:Nat}{e:Ex}(h:ExS n e):VsS e.values:=by cases n<;>exact h.1
theorem ExS.nm{n:Nat}{e:Ex}(h:ExS n e):e.name.size<=100:=by cases n<;>exact h.2.1.1
theorem ExS.kd{n:Nat}{e:Ex}(h:ExS n e):e.kind.size<=100:=by cases n<;>exact h.2.1.2
theorem ExS.opK{n:Nat}{e:Ex}(h:ExS n e):2<=e.op->e.op<=4->e.kids≠[]:=by cases n<;>exact h.2.2.1.2
def OpL(op:Int):Prop:=InI op/\ ¬(2<=op/\op<=4)
theorem OpL.ok{op:Int}(h:OpL op){l:List Ex}:InI op/\(2<=op->op<=4->l≠[]):=⟨h.1,fun a b=>absurd ⟨a,b⟩ h.2⟩
theorem opl{op:Int}(h:(6<=op/\op<=100)∨op=0∨op=1∨op=5){l:List Ex}:InI op/\(2<=op->op<=4->l≠[]):=⟨by unfold InI;omega,fun a b=>by omega⟩
theorem q25{K:List Decl->Prop}(h: ∀l,l.length=8->(∀d∈l,d.kind.size<=100/\d.name.size<=100/\1<=d.type/\d.type<=5)->K l):Jx K:=by
 unfold Jx
 exact h _ rfl (by decide)
theorem w7r{list:List Int}{at_:Int}{K:Ex->Int->Prop}(hD:DS list at_)(h: ∀r a,ExS 0 r->6<=r.op->DS list a->K r a):z65 list at_ K:=by
 unfold z65 w3q
 refine q25 fun l hl hd _=>⟨by unfold InI;omega,Qh hD (by omega) fun r a r0 r1 hD _=>Cnd.mk (fun _=> ?_) fun hc=>⟨by omega,fun y hy=> ?_⟩⟩
 ·exact v2h hD fun s a hs hD=>h _ _ ⟨.one ⟨by unfold InI;simp,by show s.size<=100;omega,by simp,by simp⟩,⟨(by decide:(ByteArray.mk (Array.mk [107,101,121])).size<=100),(by decide:(ByteArray.mk (Array.mk [117,115,101,114])).size<=100)⟩,opl (by simp),rfl⟩ (by simp) hD
 obtain⟨hy0,hy1,hy2,hy3⟩:=hd y (getm hy)
 have one: ∀{op:Int} {v:Val},OpL op->ValS v->ExS 0 (Ex.mk op y.kind y.name [v] []):=fun ho hv=>⟨.one hv,⟨hy1,hy0⟩,ho.ok,rfl⟩
 refine Jn1.mk (fun x=>(∃b,x=(b,y.kind,y.name,([]:List Val),([]:List Ex),x.2.2.2.2.2.1,0,ByteArray.mk (Array.mk []),ByteArray.mk (Array.mk []),[],[],()))/\DS list x.2.2.2.2.2.1) ?_ ?_
 case refine_2=>
  rintro x ⟨⟨b,hx⟩,hD⟩
  refine q7f hD fun v a hv hD=>h _ _ ?_ (by simp) hD
  rw[hx]
  exact one ⟨by unfold InI;simp,by decide⟩ hv
 refine Qh hD (by decide) fun q a q0 q1 hD=> ?_
 refine Jn1.mk (fun x=>(∃b,x=(x.1,b,y.kind,y.name,([]:List Val),([]:List Ex),0,ByteArray.mk (Array.mk []),ByteArray.mk (Array.mk []),[],[],()))/\DS list x.1) ?_ ?_
 case refine_2=>
  rintro x ⟨⟨b,hx⟩,hD⟩
  have cmp:Zc list x.1 4 fun r a=>InI (12+r)/\Ur list a y.3 fun v a=>K (Ex.mk (12+r) x.2.2.1 x.2.2.2.1 [v] x.2.2.2.2.2.1) a:=by
   refine Qh hD (by decide) fun r a r0 r1 hD=>⟨by unfold InI;omega,q7f hD fun v a hv hD=>h _ _ ?_ (by simp only;omega) hD⟩
   rw[hx]
   exact one ⟨by unfold InI;omega,by omega⟩ hv
  refine Cnd.mk (fun _=>cmp) fun _=>Cnd.mk (fun _=>cmp) fun _=>Cnd.mk (fun _=>cmp) fun _=> ?_
  refine⟨⟨b,?_⟩,hD⟩
  rw[hx]
 have nx: ∀{a:Int},DS list a->(fun x:Int×ByteArray×ByteArray×List Val×List Ex×Int×Int×ByteArray×ByteArray×List Val×List Ex×Unit=>(∃b,x=(b,y.kind,y.name,([]:List Val),([]:List Ex),x.2.2.2.2.2.1,0,ByteArray.mk (Array.mk []),ByteArray.mk (Array.mk []),[],[],()))/\DS list x.2.2.2.2.2.1) ((0:Int),y.1,y.2,[],[],a,(0:Int),ByteArray.mk (Array.mk []),ByteArray.mk (Array.mk []),[],[],()):=fun hD=>⟨⟨0,rfl⟩,hD⟩
 refine Cnd.mk (fun _=>h _ _ ⟨.nil,⟨hy1,hy0⟩,opl (by simp),rfl⟩ (by simp) hD) fun _=>Cnd.mk (fun _=> ?_) fun _=>Cnd.mk (fun _=> ?_) fun _=>Cnd.mk (fun _=> ?_) fun _=>Cnd.mk (fun _=> ?_) fun _=>nx hD
 ·refine Cnd.mk (fun _=>nx hD) fun _=> ?_
  refine Lp3.ind (fun i l a=>DS list a/\0<=i/\i<=3/\(l.length:Int)=i/\ ∀v∈l,ValS v) (fun i _ _=>(3 - i).toNat) ?_ ⟨hD,by decide,by decide,rfl,by simp⟩
  rintro i l a ⟨hD,i0,i3,hl,hv⟩
  refine Qh hD (by decide) fun r a r0 r1 hD=>Cnd.mk (fun hc=>q7f hD fun v a hv' hD=>⟨by unfold Sml;simp;omega,by unfold InI;omega,⟨hD,by omega,by omega,by simp;omega,fun u hu=> ?_⟩,by omega⟩) (fun hc=>h _ _ ⟨⟨by simp only;omega,hv⟩,⟨hy1,hy0⟩,opl (by simp),rfl⟩ (by simp) hD)
  rcases List.mem_append.1 hu with hu|hu
  ·exact hv u hu
  ·rw[List.mem_singleton.1 hu];exact hv'
 ·have c:Ur list a 3 fun v a=>K (Ex.mk 11 y.1 y.2 [v] []) a:=q7f hD fun v a hv hD=>h _ _ (one ⟨by unfold InI;simp,by decide⟩ hv) (by simp) hD
  exact Cnd.mk (fun _=>c) fun _=>Cnd.mk (fun _=>c) fun _=>nx hD
 ·exact Cnd.mk (fun _=>Qh hD (by decide) fun r a r0 r1 hD=>⟨by unfold InI;omega,q7f hD fun v a hv hD=>h _ _ (one ⟨by unfold InI;omega,by omega⟩ hv) (by simp only;omega) hD⟩) fun _=>⟨⟨0,rfl⟩,hD⟩
 ·exact⟨⟨0,rfl⟩,hD⟩
theorem ExS.eta{n:Nat}{e:Ex}(h:ExS n e):ExS n (Ex.mk e.op e.kind e.name e.values e.kids):=by cases e;exact h
theorem y8g{n:Nat}{e:Ex}(h:ExS n e){k m:ByteArray}(hm:m.size<=100)(hk:k.size<=100):ExS (n+1) (Ex.mk 4 k m [] [e]):=⟨.nil,⟨hm,hk⟩,⟨InI.mk (by simp) (by simp),fun _ _=>by simp⟩,by simp,by simpa using h⟩
structure SegS(g:Seg):Prop where
 key:g.key.size<=100
 kind:g.kind.size<=100
 incl:g.incl.length<=3
 excl:g.excl.length<=3
 cond:ExS 4 g.cond
theorem Zr{α:Type}{P:α->Prop}{l:List α}{x:α}(h: ∀y∈l,P y)(hx:P x): ∀y∈l++[x],P y:=fun y hy=>by
 rcases List.mem_append.1 hy with hy|hy
 ·exact h y hy
 ·rw[List.mem_singleton.1 hy];exact hx
theorem z4a{v:Envt}{K:List ByteArray->Prop}(hl:v.segments.length<=1000)(h:K (v.segments.map Seg.key)):H5 v K:=by
 unfold H5
 refine Lp2.ind (fun (l:List ByteArray) (i:Int)=>0<=i/\i<=v.segments.length/\l=(v.segments.take i.toNat).map Seg.key) (fun _ (i:Int)=>(v.segments.length - i).toNat) ?_ ⟨Int.le_refl 0,by omega,by simp⟩
 rintro l i ⟨i0,i1,rfl⟩ _
 refine Cnd.mk (fun hc=>⟨by omega,fun y hy=>⟨by unfold Sml;simp;omega,by unfold InI;omega,⟨by omega,by omega,?_⟩,by omega⟩⟩) fun hc=> ?_
 ·rw[show (i+1).toNat=i.toNat+1 by omega,List.take_add_one,hy];simp
 ·rw[List.take_of_length_le (by omega)];exact h
def SplS(n:Int)(l:List Rng):Prop:=l.length<=4/\ ∀r∈l,0<=r.lo/\r.hi<=10000/\1<=r.variation/\r.variation<=n
structure SrvS(n:Int)(s:Srv):Prop where
 kind:s.kind.size<=100
 var:0<=s.variation/\s.variation<=n
 split:SplS n s.split
 by_:s.by_.size<=100
 salt:s.salt.size<=100
structure LayS(l:Lay_):Prop where
 key:l.key.size<=100
 kind:l.kind.size<=100
 salt:l.salt.size<=100
 hold:0<=l.holdout/\l.holdout<=10000
 cool:0<=l.cool/\l.cool<=100
theorem v4t{list:List Int}{at_:Int}{key:ByteArray}{K:Lay_->Int->Prop}(hD:DS list at_)(hk:key.size<=100)(h: ∀l a,LayS l->l.key=key->DS list a->K l a):z4x list at_ key K:=by
 unfold z4x j74
 have tt: ∀s∈j0v,s.size<=100:=by decide
 refine z1y hD fun t a ht hD=>Qh hD (by decide) fun c a c0 c1 hD=>⟨by unfold InI;omega,?_⟩
 refine Jn2.mk (fun k a=>k.size<=100/\DS list a) (Qh hD (by decide) fun r a r0 r1 hD=>Cnd.mk (fun _=>⟨by decide,hD⟩) fun _=>⟨by decide,hD⟩) fun kind a hx=> ?_
 obtain⟨hkd,hD⟩:=hx
 refine Jn2.mk (fun x a=>DS list a/\0<=x/\x<=10000) (Qh hD (by decide) fun r a r0 r1 hD=>Cnd.mk (fun _=>q5s hD (by decide) fun w a w0 w1 hD=>⟨hD,by omega,by omega⟩) fun _=>⟨hD,by omega,by omega⟩) fun hold a hx=> ?_
 obtain⟨hD,x0,x1⟩:=hx
 have ok: ∀{cs:List Col},LayS (Lay_.mk key kind t hold (c*50) cs):=⟨hk,hkd,tt _ ht,⟨x0,x1⟩,⟨by simp only;omega,by simp only;omega⟩⟩
 refine Lp4.ind (fun at_ i cs a=>DS list a/\0<=i/\i<=2/\(cs.length:Int)=i/\0<=at_/\at_<=10000/\ ∀c∈cs,0<=c.lo/\c.hi<=10000/\0<=c.until_/\c.until_<=200) (fun _ i _ _=>(2 - i).toNat) ?_ ⟨hD,by omega,by omega,rfl,by omega,by omega,by simp⟩
 rintro at_ i cs a ⟨hD,i0,i1,hl,a0,a1,hc⟩
 refine Qh hD (by decide) fun q a q0 q1 hD=>Cnd.mk (fun _=>q5s hD (by decide) fun w a w0 w1 hD=>⟨by unfold InI;omega,by unfold InI;omega,q5s hD (by decide) fun w' a w0' w1' hD=>⟨by unfold InI;omega,Cnd.mk (fun _=>h _ _ ok rfl hD) fun _=> ?_⟩⟩) fun _=>h _ _ ok rfl hD
 refine Qh hD (by decide) fun u a u0 u1 hD=>⟨by unfold Sml;simp;omega,by unfold InI;omega,⟨hD,by omega,by omega,by simp;omega,by omega,by omega,Zr hc ⟨by simp only;omega,by simp only;omega,by simp only;omega,by simp only;omega⟩⟩,by omega⟩
structure SpsS(l:List Spn):Prop where
 len:l.length<=10000
 all: ∀s∈l,0<=s.lo/\s.lo<s.hi/\s.hi<=10000
structure RulS(n:Int)(r:Rul):Prop where
 name:r.name.size<=100
 cond:ExS 4 r.cond
 serve:SrvS n r.serve
structure FlgS(f:Flg):Prop where
 key:f.key.size<=100
 vlen:1<=f.variations.length/\f.variations.length<=4
 vals: ∀v∈f.variations,ValS v
 nlen:f.needs.length<=4
 needs: ∀q∈f.needs,q.flag.size<=100
 tlen:f.targets.length<=3
 tgts: ∀t∈f.targets,t.kind.size<=100
 rlen:f.rules.length<=4
 rules: ∀r∈f.rules,RulS f.variations.length r
 dflt:SrvS f.variations.length f.dflt
structure ExpS(x:Exper):Prop where
 key:x.key.size<=100
 layer:x.layer.size<=100
 flag:x.flag.size<=100
 claims:SpsS x.claims
 arms:SplS 4 x.arms
 cond:ExS 4 x.cond
structure EnvS(v:Envt):Prop where
 hkind:v.settings.holdoutKind.size<=100
 attrs: ∀d∈v.attributes,d.kind.size<=100/\d.name.size<=100
 slen:v.segments.length<=3
 segs: ∀g∈v.segments,SegS g
 flen:v.flags.length<=4
 flags: ∀f∈v.flags,FlgS f
 llen:v.layers.length<=2
 layers: ∀l∈v.layers,LayS l
 xlen:v.experiments.length<=3
 exps: ∀x∈v.experiments,ExpS x
end Go.En
end
noncomputable section
set_option maxRecDepth 100000
namespace Go.En
open Go Go.Fl Go.Fl.Lk Go.Fx
abbrev S4:=Int×Int×Int×Int
def w64(x:Int):Int:=Go.IntKind.u64.wrap x
def xr(a b:Int):Int:=Go.IntKind.u64.wrap ((BitVec.ofInt 64 a ^^^ BitVec.ofInt 64 b).toNat:Int)
def rot(x n:Int):Int:=Go.IntKind.u64.wrap ((BitVec.ofInt 64 (Go.IntKind.u64.wrap (x*2 ^ Min.min n.toNat 64))|||BitVec.ofInt 64 (x.fdiv (2 ^ Min.min (Go.IntKind.u64.wrap (64 - n)).toNat 64))).toNat:Int)
def rnd(s:S4):S4:=
  (w64 (rot (w64 (s.1+s.2.1)) 32+xr (rot s.2.2.2 16) (w64 (s.2.2.1+s.2.2.2))),
   xr (rot (xr (rot s.2.1 13) (w64 (s.1+s.2.1))) 17) (w64 (w64 (s.2.2.1+s.2.2.2)+xr (rot s.2.1 13) (w64 (s.1+s.2.1)))),
   rot (w64 (w64 (s.2.2.1+s.2.2.2)+xr (rot s.2.1 13) (w64 (s.1+s.2.1)))) 32,
   xr (rot (xr (rot s.2.2.2 16) (w64 (s.2.2.1+s.2.2.2))) 21) (w64 (rot (w64 (s.1+s.2.1)) 32+xr (rot s.2.2.2 16) (w64 (s.2.2.1+s.2.2.2)))))
def rn:Nat->S4->S4
  |0,s=>s
  |k+1,s=>rnd (rn k s)
def tm(y:Int)(k:Nat):BitVec 64:=BitVec.ofInt 64 (Go.IntKind.u64.wrap (Go.IntKind.u64.wrap y*2 ^ Min.min (8*k) 64))
def wv(b:List Int)(o:Nat)(v:BitVec 64):Nat->BitVec 64
  |0=>v
  |k+1=>wv b o v k|||tm (b.getD (o+k) 0) k
def s0(k0 k1:Int):S4:=(xr k0 8317987319222330741,xr k1 7237128888997146477,xr k0 7816392313619706465,xr k1 8387220255154660723)
def topV(n:Nat):BitVec 64:=BitVec.ofInt 64 (Go.IntKind.u64.wrap (Go.IntKind.u64.wrap (n:Int)*2 ^ Min.min (Int.toNat 56) 64))
def y18(b:List Int):BitVec 64:=wv b (8*(b.length / 8)) 0 (b.length % 8)|||topV b.length
theorem j9m(x:Int):Go.IntKind.u64.wrap x=x % 18446744073709551616:=rfl
theorem y5u(x:Int):Go.IntKind.u64.wrap x=((BitVec.ofInt 64 (Go.IntKind.u64.wrap x)).toNat:Int):=by
  rw[BitVec.toNat_ofInt,j9m]
  omega
theorem j13{n:Nat}(h:n<18446744073709551616):Go.IntKind.u64.wrap (n:Int)=n:=by
  show (n:Int) % 18446744073709551616=n
  omega
theorem v8m(v:BitVec 64):BitVec.ofInt 64 ((v.toNat:Nat):Int)=v:=by simp
theorem y2a(v t:BitVec 64):Go.IntKind.u64.wrap ((BitVec.ofInt 64 ((v.toNat:Nat):Int)|||t).toNat:Int)=((v|||t).toNat:Int):=by
  rw[v8m];exact j13 (v|||t).isLt
theorem j4i{x k:Int}{K:Int->Prop}(hk:k=13∨k=16∨k=17∨k=21∨k=32)(h:K (rot x k)):Vd x k K:=by
  have e:Go.IntKind.u64.wrap (↑(BitVec.ofInt 64 (Go.IntKind.u64.wrap k) &&& BitVec.ofInt 64 63).toNat:Int)=k:=by rcases hk with rfl|rfl|rfl|rfl|rfl<;>decide
  have e2:0<=Go.IntKind.u64.wrap (64 - k):=by rcases hk with rfl|rfl|rfl|rfl|rfl<;>decide
  unfold Vd
  rw[e]
  exact⟨by omega,e2,h⟩
theorem z7l{x k:Int}{K:Int->Prop}(hk:k=13∨k=16∨k=17∨k=21∨k=32)(h:K (rot x k)):q8m x k K:=by
  have e2:0<=Go.IntKind.u64.wrap (64 - k):=by rcases hk with rfl|rfl|rfl|rfl|rfl<;>decide
  unfold q8m
  exact⟨by omega,e2,h⟩
theorem v8n(s:S4)(i:Int)(h:0<=i):rnd (rn i.toNat s)=rn (i+1).toNat s:=by
  rw[show (i+1).toNat=i.toNat+1 by omega];rfl
theorem v4u{a b c d n:Int}{q:Nat}{K:Int->Int->Int->Int->Prop}(hn:n=(q:Int))(h1:q<=1000)(h:K (rn q (a,b,c,d)).1 (rn q (a,b,c,d)).2.1 (rn q (a,b,c,d)).2.2.1 (rn q (a,b,c,d)).2.2.2):Q8 a b c d n K:=by
  subst hn
  unfold Q8 Bu
  refine Lp5.ind (fun i a' b' c' d'=>0<=i/\i<=(q:Int)/\(a',b',c',d')=rn i.toNat (a,b,c,d)) (fun i _ _ _ _=>((q:Int) - i).toNat) ?_ ⟨Int.le_refl 0,by omega,rfl⟩
  rintro i a' b' c' d' ⟨i0,i1,hs⟩
  refine Cnd.mk (fun hc=>j4i (by simp) (j4i (by simp) (j4i (by simp) (j4i (by simp) (j4i (by simp) (j4i (by simp) ⟨by unfold InI;omega,⟨by omega,by omega,?_⟩,by omega⟩)))))) fun hc=> ?_
  · rw[←v8n _ _ i0,←hs];simp only[rnd,w64,xr]
  · rw[show q=i.toNat by omega,←hs] at h;exact h
theorem w7s{v:Sip}{n:Int}{q:Nat}{K:Sip->Prop}(hn:n=(q:Int))(h1:q<=1000)(h:K (Sip.mk (rn q (v.1,v.2,v.3,v.4)).1 (rn q (v.1,v.2,v.3,v.4)).2.1 (rn q (v.1,v.2,v.3,v.4)).2.2.1 (rn q (v.1,v.2,v.3,v.4)).2.2.2)):Zz v n K:=by
  subst hn
  unfold Zz q54
  refine Lp5.ind (fun i a' b' c' d'=>0<=i/\i<=(q:Int)/\(a',b',c',d')=rn i.toNat (v.1,v.2,v.3,v.4)) (fun i _ _ _ _=>((q:Int) - i).toNat) ?_ ⟨Int.le_refl 0,by omega,rfl⟩
  rintro i a' b' c' d' ⟨i0,i1,hs⟩
  refine Cnd.mk (fun hc=>z7l (by simp) (z7l (by simp) (z7l (by simp) (z7l (by simp) (z7l (by simp) (z7l (by simp) ⟨by unfold InI;omega,⟨by omega,by omega,?_⟩,by omega⟩)))))) fun hc=> ?_
  · rw[←v8n _ _ i0,←hs];simp only[rnd,w64,xr]
  · rw[show q=i.toNat by omega,←hs] at h;exact h
theorem exR: ∃R:Nat->S4->S4,(∀(a b c d n:Int) (q:Nat) (K:Int->Int->Int->Int->Prop),n=(q:Int)->q<=1000->K (R q (a,b,c,d)).1 (R q (a,b,c,d)).2.1 (R q (a,b,c,d)).2.2.1 (R q (a,b,c,d)).2.2.2->Q8 a b c d n K)/\
    ∀(v:Sip) (n:Int) (q:Nat) (K:Sip->Prop),n=(q:Int)->q<=1000->K (Sip.mk (R q (v.1,v.2,v.3,v.4)).1 (R q (v.1,v.2,v.3,v.4)).2.1 (R q (v.1,v.2,v.3,v.4)).2.2.1 (R q (v.1,v.2,v.3,v.4)).2.2.2)->Zz v n K:=
  ⟨rn,fun _ _ _ _ _ _ _ hn hq h=>v4u hn hq h,fun _ _ _ _ hn hq h=>w7s hn hq h⟩
def RR:Nat->S4->S4:=Classical.choose exR
theorem w7t{a b c d n:Int}{q:Nat}{K:Int->Int->Int->Int->Prop}(hn:n=(q:Int))(h1:q<=1000)(h:K (RR q (a,b,c,d)).1 (RR q (a,b,c,d)).2.1 (RR q (a,b,c,d)).2.2.1 (RR q (a,b,c,d)).2.2.2):Q8 a b c d n K:=(Classical.choose_spec exR).1 a b c d n q K hn h1 h
theorem j9n{v:Sip}{n:Int}{q:Nat}{K:Sip->Prop}(hn:n=(q:Int))(h1:q<=1000)(h:K (Sip.mk (RR q (v.1,v.2,v.3,v.4)).1 (RR q (v.1,v.2,v.3,v.4)).2.1 (RR q (v.1,v.2,v.3,v.4)).2.2.1 (RR q (v.1,v.2,v.3,v.4)).2.2.2)):Zz v n K:=(Classical.choose_spec exR).2 v n q K hn h1 h
def wds(s:S4)(m:Int):S4:=(xr (RR 2 (s.1,s.2.1,s.2.2.1,xr s.2.2.2 m)).1 m,(RR 2 (s.1,s.2.1,s.2.2.1,xr s.2.2.2 m)).2)
def blks(b:List Int)(k0 k1:Int):Nat->S4
  |0=>s0 k0 k1
  |i+1=>wds (blks b k0 k1 i) ((wv b (8*i) 0 8).toNat:Int)
def fin4(s:S4):S4:=RR 4 (s.1,s.2.1,xr s.2.2.1 255,s.2.2.2)
def endV(s:S4):Int:=xr (xr (xr (fin4 s).1 (fin4 s).2.1) (fin4 s).2.2.1) (fin4 s).2.2.2
def sumV(k0 k1:Int)(b:List Int):Int:=
  endV (wds (blks b k0 k1 (b.length / 8)) ((y18 b).toNat:Int))
theorem v8o{a b c d m:Int}{K:Int->Int->Int->Int->Prop}(h:K (wds (a,b,c,d) m).1 (wds (a,b,c,d) m).2.1 (wds (a,b,c,d) m).2.2.1 (wds (a,b,c,d) m).2.2.2):V2 a b c d m K:=by
  unfold V2 q18
  simp only[wds,xr] at h
  exact w7t (q:=2) rfl (by decide) h
theorem y5v{s:S4}{K:Int->Prop}(h:K (endV s)):Q8 s.1 s.2.1 (Go.IntKind.u64.wrap (↑(BitVec.ofInt 64 s.2.2.1 ^^^ BitVec.ofInt 64 255).toNat:Int)) s.2.2.2 4 fun Ja j0d y32 y6n=>K (Go.IntKind.u64.wrap (↑(BitVec.ofInt 64 (Go.IntKind.u64.wrap (↑(BitVec.ofInt 64 (Go.IntKind.u64.wrap (↑(BitVec.ofInt 64 Ja ^^^ BitVec.ofInt 64 j0d).toNat:Int)) ^^^ BitVec.ofInt 64 y32).toNat:Int)) ^^^ BitVec.ofInt 64 y6n).toNat:Int)):=by
  simp only[endV,fin4,xr] at h
  exact w7t (q:=4) rfl (by decide) h
theorem v8p{s:S4}{K:Int->Prop}(h:K (endV s)):Zz (Sip.mk s.1 s.2.1 (Go.IntKind.u64.wrap (↑(BitVec.ofInt 64 s.2.2.1 ^^^ BitVec.ofInt 64 255).toNat:Int)) s.2.2.2) 4 fun x=>K (Go.IntKind.u64.wrap (↑(BitVec.ofInt 64 (Go.IntKind.u64.wrap (↑(BitVec.ofInt 64 (Go.IntKind.u64.wrap (↑(BitVec.ofInt 64 x.1 ^^^ BitVec.ofInt 64 x.2).toNat:Int)) ^^^ BitVec.ofInt 64 x.3).toNat:Int)) ^^^ BitVec.ofInt 64 x.4).toNat:Int)):=by
  simp only[endV,fin4,xr] at h
  exact j9n (q:=4) rfl (by decide) h
theorem v8q{a b c d m:Int}{K:Sip->Prop}(h: ∀x:Sip,(Go.IntKind.u64.wrap (↑(BitVec.ofInt 64 x.1 ^^^ BitVec.ofInt 64 m).toNat:Int),x.2,x.3,x.4)=wds (a,b,c,d) m->K x):Zz (Sip.mk a b c (Go.IntKind.u64.wrap (↑(BitVec.ofInt 64 d ^^^ BitVec.ofInt 64 m).toNat:Int))) 2 K:=by
  refine j9n (q:=2) rfl (by decide) (h _ ?_)
  simp only[wds,xr]
theorem y8h(b:List Int)(o:Nat)(v:BitVec 64): ∀k,wv b o v k=wv b o 0 k|||v
  |0=>by simp[wv]
  |k+1=>by
    rw[wv,wv,y8h b o v k,BitVec.or_assoc,BitVec.or_comm v,←BitVec.or_assoc]
theorem v0h{b:List Int}{o k:Nat}{v:BitVec 64}{y:Int}(hy:b[o+k]? =some y):wv b o v (k+1)=wv b o v k|||tm y k:=by
  rw[wv,List.getD_eq_getElem?_getD,hy];rfl
theorem y5w(n:Nat):topV n=BitVec.ofInt 64 (Go.IntKind.u64.wrap (Go.IntKind.u64.wrap ((n:Int).tmod 256)*2 ^ Min.min (Int.toNat 56) 64)):=by
  have e:(2:Int) ^ Min.min (Int.toNat 56) 64=72057594037927936:=by decide
  have h2:Go.IntKind.u64.wrap (Go.IntKind.u64.wrap (n:Int)*72057594037927936)=Go.IntKind.u64.wrap (Go.IntKind.u64.wrap ((n:Int).tmod 256)*72057594037927936):=by
    rw[j9m,j9m,j9m,j9m,Int.tmod_eq_emod_of_nonneg (by omega)]
    omega
  unfold topV
  rw[e,h2]
theorem w4w{k0 k1:Int}{b:List Int}{K:Int->Prop}(hb:b.length<=1099511627776)(h:K (sumV k0 k1 b)):q5f k0 k1 b K:=by
  unfold q5f z5a
  refine fun _=>⟨by decide,?_⟩
  refine Lp5.ind (fun i a' b' c' d'=> ∃j:Nat,i=8*(j:Int)/\8*j<=b.length/\(a',b',c',d')=blks b k0 k1 j) (fun i _ _ _ _=>(b.length - i).toNat) ?_ ⟨0,rfl,by omega,rfl⟩
  rintro i a' b' c' d' ⟨j,rfl,hj,hs⟩
  refine⟨by unfold InI;omega,fun _=>Cnd.mk (fun hc=> ?_) fun hc=> ?_⟩
  · refine Lp2.ind (fun v k=> ∃q:Nat,k=(q:Int)/\q<=8/\v=((wv b (8*j) 0 q).toNat:Int)) (fun _ k=>(8 - k).toNat) ?_ ⟨0,rfl,by omega,rfl⟩
    rintro v k ⟨q,rfl,hq,rfl⟩
    refine Cnd.mk (fun hk=>⟨by unfold InI;omega,⟨by omega,by omega⟩,fun y hy=>⟨by unfold InI;omega,by omega,by unfold InI;omega,⟨q+1,by omega,by omega,?_⟩,by omega⟩⟩) fun hk=> ?_
    · rw[show (8*(j:Int)+q).toNat=8*j+q by omega] at hy
      rw[v0h hy,show (8*(q:Int)).toNat=8*q by omega]
      exact y2a _ _
    · refine v8o ⟨by unfold InI;omega,⟨j+1,by omega,by omega,?_⟩,by omega⟩
      rw[hs,show q=8 by omega];rfl
  · refine fun _=>⟨by decide,?_⟩
    have hjl:j=b.length / 8:=by omega
    have hm:((b.length:Nat):Int).tmod 8=((b.length % 8:Nat):Int):=by rw[Int.tmod_eq_emod_of_nonneg (by omega)];omega
    rw[hm]
    refine Lp2.ind (fun v k=> ∃q:Nat,k=(q:Int)/\q<=b.length % 8/\v=((wv b (8*j) (topV b.length) q).toNat:Int)) (fun _ k=>(8 - k).toNat) ?_ ⟨0,rfl,by omega,by unfold wv topV;exact y5u _⟩
    rintro v k ⟨q,rfl,hq,rfl⟩
    refine Cnd.mk (fun hk _ _=>⟨by decide,by unfold InI;omega,by unfold InI;omega,⟨by omega,by omega⟩,fun y hy=>⟨by unfold InI;omega,by omega,by unfold InI;omega,⟨q+1,by omega,by omega,?_⟩,by omega⟩⟩) fun hk=> ?_
    · rw[show ((b.length:Int) - ((b.length % 8:Nat):Int)+q).toNat=8*j+q by omega] at hy
      rw[v0h hy,show (8*(q:Int)).toNat=8*q by omega]
      exact y2a _ _
    · refine v8o (y5v (s:=wds (a',b',c',d') _) ?_)
      rw[hs,show q=b.length % 8 by omega,y8h,hjl]
      exact h
theorem v8r{k0 k1:Int}{b:List Int}{K:Int->Prop}(hb:b.length<=1099511627776)(h:K (sumV k0 k1 b)):j06 k0 k1 b K:=by
  unfold j06 w3s
  have hd:((b.length:Nat):Int).tdiv 8=((b.length / 8:Nat):Int):=by rw[Int.tdiv_eq_ediv_of_nonneg (by omega)];omega
  rw[hd]
  refine Lp5.ind (fun i a' b' c' d'=> ∃j:Nat,i=(j:Int)/\j<=b.length / 8+1/\(j<=b.length / 8->(a',b',c',d')=blks b k0 k1 j)/\(j=b.length / 8+1->(a',b',c',d')=wds (blks b k0 k1 (b.length / 8)) ((y18 b).toNat:Int))) (fun i _ _ _ _=>(b.length / 8+1 - i).toNat) ?_ ⟨0,rfl,by omega,fun _=>rfl,fun h=>by omega⟩
  rintro i a' b' c' d' ⟨j,rfl,hj,hs,hf⟩
  refine fun _=>⟨by decide,by unfold InI;omega,Cnd.mk (fun hc=> ?_) fun hc=> ?_⟩
  · have hs:=hs (by omega)
    have done: ∀q:Nat,(q=8∨q=b.length % 8/\j=b.length / 8)->q<=8->(j<b.length / 8->q=8)->(j=b.length / 8->q=b.length % 8)->Jn1 (fun Qe=>Zz (Sip.mk a' b' c' (Go.IntKind.u64.wrap (↑(BitVec.ofInt 64 d' ^^^ BitVec.ofInt 64 Qe).toNat:Int))) 2 fun Qm=>InI ((j:Int)+1)/\(∃j':Nat,(j:Int)+1=(j':Int)/\j'<=b.length / 8+1/\(j'<=b.length / 8->(Go.IntKind.u64.wrap (↑(BitVec.ofInt 64 Qm.1 ^^^ BitVec.ofInt 64 Qe).toNat:Int),Qm.2,Qm.3,Qm.4)=blks b k0 k1 j')/\(j'=b.length / 8+1->(Go.IntKind.u64.wrap (↑(BitVec.ofInt 64 Qm.1 ^^^ BitVec.ofInt 64 Qe).toNat:Int),Qm.2,Qm.3,Qm.4)=wds (blks b k0 k1 (b.length / 8)) ((y18 b).toNat:Int)))/\((b.length / 8:Nat)+1 - ((j:Int)+1)).toNat<((b.length / 8:Nat)+1 - (j:Int)).toNat) fun v5k=>b.length<=(9223372036854775807:Nat)->(8:Int)≠0/\InI ((b.length / 8:Nat):Int)/\Cnd ((j:Int)=((b.length / 8:Nat):Int)) (b.length<=(9223372036854775807:Nat)->(256:Int)≠0/\(0:Int)<=56/\v5k (Go.IntKind.u64.wrap (↑(BitVec.ofInt 64 ((wv b (8*j) 0 q).toNat:Int)|||BitVec.ofInt 64 (Go.IntKind.u64.wrap (Go.IntKind.u64.wrap ((b.length:Int).tmod 256)*2 ^ Min.min (Int.toNat 56) 64))).toNat:Int))) (v5k ((wv b (8*j) 0 q).toNat:Int)):=fun q _ hq h1 h2=>by
      refine Jn1.mk (fun x=>(j<b.length / 8->x=((wv b (8*j) 0 8).toNat:Int))/\(j=b.length / 8->x=((y18 b).toNat:Int))) (fun _=>⟨by decide,by unfold InI;omega,Cnd.mk (fun he=>fun _=>⟨by decide,by decide,fun _=>by omega,fun hjl=> ?_⟩) fun hne=>⟨fun hl=>by rw[h1 hl],fun he=>by omega⟩⟩) fun x hx=>v8q fun s hsw=>⟨by unfold InI;omega,⟨j+1,by omega,by omega,fun hl=> ?_,fun he=> ?_⟩,by omega⟩
      · rw[←y5w,y2a,h2 hjl,hjl];rfl
      · rw[hsw,hx.1 (by omega),blks,←hs]
      · rw[hsw,hx.2 (by omega),←show j=b.length / 8 by omega,←hs]
    refine Lp2.ind (fun v k=> ∃q:Nat,k=(q:Int)/\q<=8/\(j=b.length / 8->q<=b.length % 8)/\v=((wv b (8*j) 0 q).toNat:Int)) (fun _ k=>(8 - k).toNat) ?_ ⟨0,rfl,by omega,fun _=>by omega,rfl⟩
    rintro v k ⟨q,rfl,hq,hq2,rfl⟩
    refine Cnd.mk (fun hk=>⟨by unfold InI;omega,by unfold InI;omega,fun _=>Cnd.mk (fun hl=>⟨by unfold InI;omega,by unfold InI;omega,⟨by omega,by omega⟩,fun y hy=>⟨by unfold InI;omega,?_,by unfold InI;omega,⟨q+1,by omega,by omega,fun _=>by omega,?_⟩,by omega⟩⟩) fun hl=> ?_⟩) fun hk=> ?_
    · rw[show 8*(q:Int)=((8*q:Nat):Int) by omega,j13 (by omega)];omega
    · rw[show (8*(j:Int)+q).toNat=8*j+q by omega] at hy
      rw[v0h hy,show 8*(q:Int)=((8*q:Nat):Int) by omega,j13 (n:=8*q) (by omega),Int.toNat_natCast]
      exact y2a _ _
    · exact done q (by omega) hq (fun h=>by omega) (fun h=>by omega)
    · exact done q (by omega) hq (fun h=>by omega) (fun h=>by omega)
  · have hf:=hf (by omega)
    unfold sumV at h
    rw[←hf] at h
    exact v8p (s:=(a',b',c',d')) h
def fb(n k:Nat):Int:=Go.IntKind.u8.wrap ((Go.IntKind.u64.wrap (n:Int)).fdiv (2 ^ Min.min (8*k) 64))
def hdr(n:Nat)(j:Nat):List Int:=(List.range j).map fun i=>fb n (7 - i)
def frm(l:List (List Int)):List Int:=l.flatMap fun f=>hdr f.length 8++f
theorem v2i(n j:Nat):hdr n (j+1)=hdr n j++[fb n (7 - j)]:=by simp[hdr,List.range_succ]
theorem z95(n j:Nat):(hdr n j).length=j:=by simp[hdr]
theorem j60{l:List (List Int)}{i:Nat}{y:List Int}(hy:l[i]? =some y):frm (l.take (i+1))=frm (l.take i)++(hdr y.length 8++y):=by
  rw[List.take_add_one,hy];simp[frm]
theorem j9o(l:List (List Int))(i:Nat):(frm (l.take i)).length<=(frm l).length:=by
  have h:frm l=frm (l.take i)++frm (l.drop i):=by
    conv=>lhs;rw[←List.take_append_drop i l]
    exact List.flatMap_append
  rw[h,List.length_append];omega
theorem j9p{l:List (List Int)}{K:List Int->Prop}(hl:(frm l).length<=1000000000)(hn:l.length<=1000)(h:K (frm l)):B4 l K:=by
  unfold B4
  refine fun _=>Lp2.ind (fun o i=> ∃j:Nat,i=(j:Int)/\j<=l.length/\o=frm (l.take j)) (fun _ i=>(l.length - i).toNat) ?_ ⟨0,rfl,by omega,rfl⟩
  rintro o i ⟨j,rfl,hj,rfl⟩
  refine Cnd.mk (fun hc=>⟨by omega,fun y hy=> ?_⟩) fun hc=> ?_
  · have hy:l[j]? =some y:=hy
    have hln:=j9o l (j+1)
    rw[j60 hy] at hln
    simp only[List.length_append,z95] at hln
    refine Lp2.ind (fun o k=> ∃q:Nat,k=7 - (q:Int)/\q<=8/\o=frm (l.take j)++hdr y.length q) (fun _ k=>(k+1).toNat) ?_ ⟨0,rfl,by omega,by simp[hdr]⟩
    rintro o k ⟨q,rfl,hq,rfl⟩
    refine Cnd.mk (fun hk _=>⟨by unfold InI;omega,by omega,?_,by unfold InI;omega,⟨q+1,by omega,by omega,?_⟩,by omega⟩) fun hk=>⟨?_,by unfold InI;omega,⟨j+1,by omega,by omega,?_⟩,by omega⟩
    · unfold Sml;simp only[List.length_append,z95,List.length_singleton];omega
    · rw[v2i,←List.append_assoc,show (8*(7 - (q:Int))).toNat=8*(7 - q) by omega];rfl
    · unfold Sml;simp only[List.length_append,z95];omega
    · rw[j60 hy,show q=8 by omega,List.append_assoc]
  · rw[show j=l.length by omega,List.take_length];exact h
theorem v0i{l:List (List Int)}{K:List Int->Prop}(hl:(frm l).length<=1000000000)(hn:l.length<=1000)(h:K (frm l)):z1j l K:=by
  unfold z1j
  refine Lp2.ind (fun o i=> ∃j:Nat,i=(j:Int)/\j<=l.length/\o=frm (l.take j)) (fun _ i=>(l.length - i).toNat) ?_ ⟨0,rfl,by omega,rfl⟩
  rintro o i ⟨j,rfl,hj,rfl⟩
  refine fun _=>Cnd.mk (fun hc=>⟨by omega,fun y hy _=> ?_⟩) fun hc=> ?_
  · have hy:l[j]? =some y:=hy
    have hln:=j9o l (j+1)
    rw[j60 hy] at hln
    simp only[List.length_append,z95] at hln
    refine Lp2.ind (fun o k=> ∃q:Nat,k=56 - 8*(q:Int)/\q<=8/\o=frm (l.take j)++hdr y.length q) (fun _ k=>(k+8).toNat) ?_ ⟨0,rfl,by omega,by simp[hdr]⟩
    rintro o k ⟨q,rfl,hq,rfl⟩
    refine Cnd.mk (fun hk=> ?_) fun hk=>⟨by omega,fun z hz=> ?_⟩
    · have e:56 - 8*(q:Int)=((8*(7 - q):Nat):Int):=by omega
      rw[e,j13 (by omega)]
      refine⟨by omega,?_,by unfold InI;omega,⟨q+1,by omega,by omega,?_⟩,by omega⟩
      · unfold Sml;simp only[List.length_append,z95,List.length_singleton];omega
      · rw[v2i,←List.append_assoc,Int.toNat_natCast];rfl
    · have hz:l[j]? =some z:=hz
      rw[hy] at hz
      cases hz
      refine⟨?_,by unfold InI;omega,⟨j+1,by omega,by omega,?_⟩,by omega⟩
      · unfold Sml;simp only[List.length_append,z95];omega
      · rw[j60 hy,show q=8 by omega,List.append_assoc]
  · rw[show j=l.length by omega,List.take_length];exact h
theorem v8s(a b:Int):0<=xr a b/\xr a b<18446744073709551616:=by
  unfold xr
  rw[j13 (BitVec.isLt _)]
  have:=(BitVec.ofInt 64 a ^^^ BitVec.ofInt 64 b).isLt
  omega
def ofV0(salt key:ByteArray):Int:=(sumV 1 0 (frm [bytesOf salt,bytesOf key])).tmod 10000
theorem w4x(salt key:ByteArray):0<=ofV0 salt key/\ofV0 salt key<10000:=by
  have h: ∀s,0<=endV s:=fun s=>(v8s _ _).1
  have h0:0<=sumV 1 0 (frm [bytesOf salt,bytesOf key]):=h _
  exact⟨Int.tmod_nonneg _ h0,Int.tmod_lt_of_pos _ (by decide)⟩
theorem v2j(a b:ByteArray):(frm [bytesOf a,bytesOf b]).length=a.size+b.size+16:=by
  have h: ∀a:ByteArray,(bytesOf a).length=a.size:=fun a=>by simp[bytesOf]
  simp only[frm,List.flatMap_cons,List.flatMap_nil,List.length_append,z95,h,List.length_nil]
  omega
theorem w4y{salt key:ByteArray}{K:Int->Prop}(hs:salt.size<=10000000)(hk:key.size<=10000000)(h:K (ofV0 salt key)):Gh salt key K:=by
  have hl:=v2j salt key
  have hr:=w4x salt key
  unfold Gh z9d
  refine⟨by unfold Sml;omega,by unfold Sml;omega,?_⟩
  show q2a 1 [bytesOf salt,bytesOf key] _
  unfold q2a z2j
  refine j9p (by omega) (by simp) (w4w (by omega) ⟨by decide,?_,h⟩)
  exact InI.mk (Int.le_trans (by decide) hr.1) (Int.le_trans (Int.le_of_lt hr.2) (by decide))
theorem v4v{salt key:ByteArray}{K:Int->Prop}(hs:salt.size<=10000000)(hk:key.size<=10000000)(h:K (ofV0 salt key)):q6n salt key K:=by
  have hl:=v2j salt key
  have hr:=w4x salt key
  unfold q6n w3t
  refine⟨by unfold Sml;omega,by unfold Sml;omega,?_⟩
  show z5f 1 [bytesOf salt,bytesOf key] _
  unfold z5f j8a
  refine v0i (by omega) (by simp) (v8r (by omega) ⟨by decide,?_,h⟩)
  exact InI.mk (Int.le_trans (by decide) hr.1) (Int.le_trans (Int.le_of_lt hr.2) (by decide))
theorem exOf: ∃F:ByteArray->ByteArray->Int,(∀a b,0<=F a b/\F a b<10000)/\(∀(salt key:ByteArray) (K:Int->Prop),salt.size<=10000000->key.size<=10000000->K (F salt key)->Gh salt key K)/\
    ∀(salt key:ByteArray) (K:Int->Prop),salt.size<=10000000->key.size<=10000000->K (F salt key)->q6n salt key K:=
  ⟨ofV0,w4x,fun _ _ _ h1 h2 h=>w4y h1 h2 h,fun _ _ _ h1 h2 h=>v4v h1 h2 h⟩
def ofV:ByteArray->ByteArray->Int:=Classical.choose exOf
theorem v8t(salt key:ByteArray):0<=ofV salt key/\ofV salt key<10000:=(Classical.choose_spec exOf).1 salt key
theorem z6e{salt key:ByteArray}{K:Int->Prop}(hs:salt.size<=10000000)(hk:key.size<=10000000)(h:K (ofV salt key)):Gh salt key K:=(Classical.choose_spec exOf).2.1 salt key K hs hk h
theorem w7u{salt key:ByteArray}{K:Int->Prop}(hs:salt.size<=10000000)(hk:key.size<=10000000)(h:K (ofV salt key)):q6n salt key K:=(Classical.choose_spec exOf).2.2 salt key K hs hk h
end Go.En
end
noncomputable section
set_option maxRecDepth 100000
namespace Go.En
open Go Go.Fl Go.Fl.Lk Go.Fx
theorem w2o{α:Type}{a b:List α}(hl:a.length=b.length){F:α->α->(Bool->Prop)->Prop}{K:Bool->Prop}(hF: ∀x∈a,∀y∈b,∀K:Bool->Prop,(∀r,(r=true↔x=y)->K r)->F x y K)(h: ∀r,(r=true↔a=b)->K r):
  Lp1 (fun i Y=>a.length<=9223372036854775807->Cnd (i<(a.length:Int)) ((0<=i/\i<(a.length:Int))/\ ∀x,a[i.toNat]? =some x->(0<=i/\i<(b.length:Int))/\ ∀y,b[i.toNat]? =some y->F x y fun r=>Cnd (r=true) (InI (i+1)/\Y (i+1)) (K false)) (K true)) 0:=by
 refine Lp1.ind (fun (i:Int)=>0<=i/\i<=a.length/\a.take i.toNat=b.take i.toNat) (fun (i:Int)=>(a.length - i).toNat) ?_ ⟨by omega,by omega,by simp⟩
 rintro i ⟨i0,i1,he⟩ _
 refine Cnd.mk (fun hc=>⟨by omega,fun x hx=>⟨by omega,fun y hy=>hF x (getm hx) y (getm hy) _ fun r hr=>Cnd.mk (fun hc=>⟨by unfold InI;omega,⟨by omega,by omega,?_⟩,by omega⟩) fun hc=>h _ ⟨fun h=>(by cases h),fun h=> ?_⟩⟩⟩) fun hc=>h _ ⟨fun _=> ?_,fun _=>rfl⟩
 ·rw[show (i+1).toNat=i.toNat+1 by omega,List.take_add_one,List.take_add_one,he,hx,hy,hr.1 hc]
 ·subst h;rw[hx] at hy;exact absurd (hr.2 (by cases hy;rfl)) hc
 ·rwa [List.take_of_length_le (by omega),List.take_of_length_le (by omega)] at he
theorem v4w{a b:List ByteArray}{K:Bool->Prop}(h: ∀r,(r=true↔a=b)->K r):z4u a b K:=by
 unfold z4u
 intro ha hb
 refine Cnd.mk (fun hl=> ?_) fun hl=>h _ ⟨fun h=>(by cases h),fun e=>by rw[e] at hl;exact absurd rfl hl⟩
 refine Lp1.ind (fun (i:Int)=>0<=i/\i<=a.length/\a.take i.toNat=b.take i.toNat) (fun (i:Int)=>(a.length - i).toNat) ?_ ⟨by omega,by omega,by simp⟩
 rintro i ⟨i0,i1,he⟩ _
 refine Cnd.mk (fun hc=>⟨by omega,fun x hx=>⟨by omega,fun y hy=>Cnd.mk (fun hc=>⟨by unfold InI;omega,⟨by omega,by omega,?_⟩,by omega⟩) fun hc=>h _ ⟨fun h=>(by cases h),fun h=> ?_⟩⟩⟩) fun hc=>h _ ⟨fun _=> ?_,fun _=>rfl⟩
 ·rw[show (i+1).toNat=i.toNat+1 by omega,List.take_add_one,List.take_add_one,he,hx,hy,hc]
 ·subst h;rw[hx] at hy;cases hy;exact absurd rfl hc
 ·rwa [List.take_of_length_le (by omega),List.take_of_length_le (by omega)] at he
theorem Hh{l:List ByteArray}{s:ByteArray}{K:Bool->Prop}(h: ∀r,(r=true↔s∈l)->K r):J8 l s K:=by
 unfold J8
 refine Lp1.ind (fun (i:Int)=>0<=i/\i<=l.length/\s∉l.take i.toNat) (fun (i:Int)=>(l.length - i).toNat) ?_ ⟨by omega,by omega,by simp⟩
 rintro i ⟨i0,i1,he⟩ _
 refine Cnd.mk (fun hc=>⟨by omega,fun x hx=>Cnd.mk (fun e=>h _ ⟨fun _=>e▸getm hx,fun _=>rfl⟩) fun e=>⟨by unfold InI;omega,⟨by omega,by omega,?_⟩,by omega⟩⟩) fun hc=>h _ ⟨fun h=>(by cases h),fun hm=> ?_⟩
 ·rw[show (i+1).toNat=i.toNat+1 by omega,List.take_add_one,hx];simp[he,Ne.symm e]
 ·rw[List.take_of_length_le (by omega)] at he;exact absurd hm he
theorem z96{a b:Val}{K:Bool->Prop}(h: ∀r,(r=true↔a=b)->K r):q1b a b K:=by
 unfold q1b j3f
 have no:(a≠b)->K false:=fun hn=>h _ ⟨fun h=>(by cases h),fun e=>absurd e hn⟩
 refine Cnd.mk (fun h1=>Cnd.mk (fun h2=>Cnd.mk (fun h3=>v4w fun r hr=>h r (hr.trans ⟨fun h4=> ?_,fun e=>by rw[e]⟩)) fun h=>no fun e=>h (by rw[e])) fun h=>no fun e=>h (by rw[e])) fun h=>no fun e=>h (by rw[e])
 cases a;cases b;simp_all
theorem j53{a b:List Val}{K:Bool->Prop}(h: ∀r,(r=true↔a=b)->K r):Us a b K:=by
 unfold Us q7s
 intro ha hb
 exact Cnd.mk (fun hl=>w2o (by omega) (fun x _ y _ K hK=>z96 hK) h) fun hl=>h _ ⟨fun h=>(by cases h),fun e=>by rw[e] at hl;exact absurd rfl hl⟩
theorem Jf{e:Ex}:Ex.mk e.op e.kind e.name e.values e.kids=e:=by cases e;rfl
theorem w06: ∀(n:Nat) {a b:Ex} {K:Bool->Prop},ExS n a->(∀r,(r=true↔a=b)->K r)->R8 a b K:=by
 intro n a b K ha h X hX
 induction n using Nat.strongRecOn generalizing a b K with
 |_ n ih=>
 refine hX _ _ _ ?_
 unfold z2e
 have no:(a≠b)->K false:=fun hn=>h _ ⟨fun h=>(by cases h),fun e=>absurd e hn⟩
 refine Cnd.mk (fun h1=>Cnd.mk (fun h2=>Cnd.mk (fun h3=>j53 fun r hr=>Cnd.mk (fun hc _ _=>Cnd.mk (fun hl=> ?_) fun h=>no fun e=>h (by rw[e])) fun hc=>no fun e=>hc (hr.2 (by rw[e]))) fun h=>no fun e=>h (by rw[e])) fun h=>no fun e=>h (by rw[e])) fun h=>no fun e=>h (by rw[e])
 have h4:=hr.1 hc
 refine w2o (by omega) (fun x hx y _ K hK=> ?_) fun r hr=>h r (hr.trans ⟨fun h5=> ?_,fun e=>by rw[e]⟩)
 ·obtain⟨m,hm,hk⟩:=ha.kid hx
  rw[Jf,Jf]
  exact ih m (by omega) hk hK
 ·cases a;cases b;simp_all
theorem j9q(n:Nat){a b:Ex}{K:Bool->Prop}(ha:ExS n a)(h: ∀r,(r=true↔a=b)->K r):R8 (Ex.mk a.1 a.2 a.3 a.4 a.5) (Ex.mk b.1 b.2 b.3 b.4 b.5) K:=by
 rw[Jf,Jf];exact w06 n ha h
theorem j47{n:Nat}{l:List Ex}{e:Ex}{K:Int->Prop}(hl: ∀x∈l,ExS n x)(h: ∀r:Int,(r= -1/\e∉l)∨(0<=r/\l[r.toNat]? =some e/\e∉l.take r.toNat)->K r):Ug l e K:=by
 unfold Ug z81
 refine Lp1.ind (fun (i:Int)=>0<=i/\i<=l.length/\e∉l.take i.toNat) (fun (i:Int)=>(l.length - i).toNat) ?_ ⟨by omega,by omega,by simp⟩
 rintro i ⟨i0,i1,he⟩ _
 refine Cnd.mk (fun hc=>⟨by omega,fun x hx=>j9q n (hl x (getm hx)) fun r hr=>Cnd.mk (fun hc=>h _ (.inr ⟨i0,by rw[hx,hr.1 hc],he⟩)) fun hc=>⟨by unfold InI;omega,⟨by omega,by omega,?_⟩,by omega⟩⟩) fun hc=>h _ (.inl ⟨rfl,?_⟩)
 ·rw[show (i+1).toNat=i.toNat+1 by omega,List.take_add_one,hx]
  have:e≠x:=fun e=>hc (hr.2 e.symm)
  simp[he,this]
 ·rwa [List.take_of_length_le (by omega)] at he
theorem q1i{op:Int}{K:Bool->Prop}(h: ∀r,(r=true↔6<=op/\op<=15)->K r):Jd op K:=by
 unfold Jd
 exact Cnd.mk (fun h6=>h _ ⟨fun a=>⟨h6,of_decide_eq_true a⟩,fun a=>decide_eq_true a.2⟩) fun h6=>h _ ⟨fun a=>(by cases a),fun a=>absurd a.1 h6⟩
theorem v0j{now:Int}{K:Bool->Prop}(h: ∀r,(r=true↔0<=now/\now<=1099511627776)->K r):z03 now K:=by
 unfold z03
 exact Cnd.mk (fun h6=>h _ ⟨fun a=>⟨h6,of_decide_eq_true a⟩,fun a=>decide_eq_true a.2⟩) fun h6=>h _ ⟨fun a=>(by cases a),fun a=>absurd a.1 h6⟩
theorem w7v{α:Type}{l:List α}{f:α->ByteArray}{key:ByteArray}{K:Int->Prop}(h: ∀r:Int,(r= -1/\ ∀x∈l,f x≠key)∨(0<=r/\r<l.length/\(∃x,l[r.toNat]? =some x/\f x=key)/\ ∀x∈l.take r.toNat,f x≠key)->K r):
  Lp1 (fun i Y=>l.length<=9223372036854775807->Cnd (i<(l.length:Int)) ((0<=i/\i<(l.length:Int))/\ ∀y,l[i.toNat]? =some y->Cnd (f y=key) (K i) (InI (i+1)/\Y (i+1))) (K (-1))) 0:=by
 refine Lp1.ind (fun (i:Int)=>0<=i/\i<=l.length/\ ∀x∈l.take i.toNat,f x≠key) (fun (i:Int)=>(l.length - i).toNat) ?_ ⟨by omega,by omega,by simp⟩
 rintro i ⟨i0,i1,he⟩ _
 refine Cnd.mk (fun hc=>⟨by omega,fun x hx=>Cnd.mk (fun e=>h _ (.inr ⟨i0,hc,⟨x,hx,e⟩,he⟩)) fun e=>⟨by unfold InI;omega,⟨by omega,by omega,?_⟩,by omega⟩⟩) fun hc=>h _ (.inl ⟨rfl,?_⟩)
 ·rw[show (i+1).toNat=i.toNat+1 by omega,List.take_add_one,hx]
  exact Zr he e
 ·rwa [List.take_of_length_le (by omega)] at he
def PlcS{α:Type}(l:List α)(f:α->ByteArray)(key:ByteArray)(r:Int):Prop:=(r= -1/\ ∀x∈l,f x≠key)∨(0<=r/\r<l.length/\(∃x,l[r.toNat]? =some x/\f x=key)/\ ∀x∈l.take r.toNat,f x≠key)
theorem z0s{v:Envt}{key:ByteArray}{K:Int->Prop}(h: ∀r,PlcS v.layers Lay_.key key r->K r):Vw v key K:=w7v h
theorem j14{v:Envt}{key:ByteArray}{K:Int->Prop}(h: ∀r,PlcS v.flags Flg.key key r->K r):q1e v key K:=w7v h
theorem q4c{l:List Spn}{K:List Bool->Prop}(h: ∀b:List Bool,b.length=10000->K b):Rb l K:=by
 unfold Rb
 refine⟨⟨by decide,Int.le_refl _,by unfold Sml;decide⟩,Lp2.ind (fun (i:Int) (b:List Bool)=>0<=i/\i<=l.length/\b.length=10000) (fun (i:Int) _=>(l.length - i).toNat) ?_ ⟨by omega,by omega,by rw[List.length_replicate];decide⟩⟩
 rintro i b ⟨i0,i1,hb⟩ _
 refine Cnd.mk (fun hc=>⟨by omega,fun y hy=> ?_⟩) fun _=>h b hb
 refine Lp2.ind (fun (j:Int) (b:List Bool)=>0<=j/\b.length=10000) (fun (j:Int) _=>(10000 - j).toNat) ?_ ⟨by omega,hb⟩
 rintro j b ⟨j0,hb⟩
 refine⟨by omega,fun z hz=>Cnd.mk (fun hc=>⟨by omega,fun u hu=>⟨by unfold InI;omega,⟨by omega,by simpa using hb⟩,by omega⟩⟩) fun _=>⟨by unfold InI;omega,⟨by omega,by omega,hb⟩,by omega⟩⟩
theorem q5t{b:List Bool}{K:List Spn->Prop}(hb:b.length<=10000)(h: ∀l,SpsS l->K l):J3 b K:=by
 unfold J3
 refine Lp2.ind (fun (l:List Spn) (i:Int)=>0<=i/\i<=b.length/\l.length<=i/\(∀s∈l,0<=s.lo/\s.lo<s.hi/\s.hi<=i)/\(0<i->b[(i - 1).toNat]? =some true->l≠[])) (fun _ (i:Int)=>(b.length - i).toNat) ?_ ⟨by omega,by omega,by simp,by simp,by omega⟩
 rintro l i ⟨i0,i1,hl,hs,hn⟩ _
 refine Cnd.mk (fun hc=>⟨by omega,fun y hy=>Cnd.mk (fun ht=> ?_) fun hf=> ?_⟩) fun _=>h l ⟨by omega,fun s hm=>by have:=hs s hm;omega⟩
 ·have snoc:InI (i+1)/\Sml (l++[Spn.mk i (i+1)]).length/\InI (i+1)/\((0<=i+1/\i+1<=b.length/\((l++[Spn.mk i (i+1)]).length:Int)<=i+1/\(∀s∈l++[Spn.mk i (i+1)],0<=s.lo/\s.lo<s.hi/\s.hi<=i+1)/\(0<i+1->b[(i+1 - 1).toNat]? =some true->l++[Spn.mk i (i+1)]≠[]))/\(b.length - (i+1)).toNat<(b.length - i).toNat):=
   ⟨by unfold InI;omega,by unfold Sml;simp;omega,by unfold InI;omega,⟨by omega,by omega,by simp;omega,Zr (fun s hm=>by have:=hs s hm;omega) ⟨i0,by simp only;omega,by simp⟩,fun _ _=>by simp⟩,by omega⟩
  refine Cnd.mk (fun hp=>⟨by unfold InI;omega,by omega,fun z hz=>Cnd.mk (fun hz1=> ?_) fun _=>snoc⟩) fun _=>snoc
  have hne:=hn hp (by rw[hz,hz1])
  have hpos:0<l.length:=List.length_pos_iff.2 hne
  refine fun _=>⟨by unfold InI;omega,by unfold InI;omega,by omega,fun u hu=>⟨by unfold InI;omega,⟨by omega,by omega,by simp;omega,fun s hm=> ?_,fun _ _ hx=> ?_⟩,by omega⟩⟩
  ·have:=hs u (getm hu)
   rcases List.mem_or_eq_of_mem_set hm with hm|rfl
   ·have:=hs s hm;omega
   ·exact⟨this.1,by simp only;omega,by simp⟩
  ·exact hne (by rw[←List.length_eq_zero_iff] at hx⊢;simpa using hx)
 ·refine⟨by unfold InI;omega,⟨by omega,by omega,by omega,fun s hm=>by have:=hs s hm;omega,fun _ hx=> ?_⟩,by omega⟩
  rw[show (i+1 - 1).toNat=i.toNat by omega,hy] at hx
  cases hx;exact absurd rfl hf
theorem z4b{l:List Col}{now:Int}{K:List Int->Prop}(h: ∀b:List Int,b.length=10000->K b):Ra l now K:=by
 unfold Ra
 refine⟨⟨by decide,Int.le_refl _,by unfold Sml;decide⟩,Lp2.ind (fun (i:Int) (b:List Int)=>0<=i/\i<=10000/\b.length=10000) (fun (i:Int) _=>(10000 - i).toNat) ?_ ⟨by omega,by omega,by rw[List.length_replicate];decide⟩⟩
 rintro i b ⟨i0,i1,hb⟩ _
 refine Cnd.mk (fun hc=>⟨by omega,fun y hy=>⟨by unfold InI;omega,⟨by omega,by omega,by simpa using hb⟩,by omega⟩⟩) fun _=> ?_
 refine Lp2.ind (fun (i:Int) (b:List Int)=>0<=i/\i<=l.length/\b.length=10000) (fun (i:Int) _=>(l.length - i).toNat) ?_ ⟨by omega,by omega,hb⟩
 rintro i b ⟨i0,i1,hb⟩ _
 refine Cnd.mk (fun hc=>⟨by omega,fun y hy=> ?_⟩) fun _=>h b hb
 refine Lp2.ind (fun (j:Int) (b:List Int)=>0<=j/\b.length=10000) (fun (j:Int) _=>(10000 - j).toNat) ?_ ⟨by omega,hb⟩
 rintro j b ⟨j0,hb⟩
 refine⟨by omega,fun z hz=>Cnd.mk (fun hc=>⟨by omega,fun u hu=>⟨by omega,fun w hw=>⟨by omega,fun x hx=>⟨by unfold InI;omega,⟨by omega,by simpa using hb⟩,by omega⟩⟩⟩⟩) fun _=>⟨by unfold InI;omega,⟨by omega,by omega,hb⟩,by omega⟩⟩
theorem z6f{u:List Int}{now:Int}{K:List Spn->Prop}(hu:u.length<=10000)(h: ∀l,SpsS l->K l):q7w u now K:=by
 unfold q7w z82
 refine fun _=>⟨⟨by omega,Int.le_refl _,by unfold Sml;omega⟩,Lp2.ind (fun (i:Int) (b:List Bool)=>0<=i/\i<=u.length/\b.length=u.length) (fun (i:Int) _=>(u.length - i).toNat) ?_ ⟨by omega,by omega,by simp⟩⟩
 rintro i b ⟨i0,i1,hb⟩ _
 exact Cnd.mk (fun hc=>⟨by omega,fun y hy=>⟨by omega,fun z hz=>⟨by unfold InI;omega,⟨by omega,by omega,by simpa using hb⟩,by omega⟩⟩⟩) fun _=>q5t (by omega) h
theorem q9w{a b:List Spn}{K:List Spn->Prop}(h: ∀l,SpsS l->K l):q7y a b K:=by
 unfold q7y z83
 refine q4c fun x hx=>q4c fun y hy=>Lp2.ind (fun (i:Int) (b:List Bool)=>0<=i/\i<=10000/\b.length=10000) (fun (i:Int) _=>(10000 - i).toNat) ?_ ⟨by omega,by omega,hx⟩
 rintro i b ⟨i0,i1,hb⟩ _
 exact Cnd.mk (fun hc=>⟨by omega,fun y hy=>Cnd.mk (fun _=>⟨by omega,fun _ _=>⟨by unfold InI;omega,⟨by omega,by omega,by simpa using hb⟩,by omega⟩⟩) fun _=>⟨by omega,fun _ _=>⟨by omega,fun _ _=>⟨by unfold InI;omega,⟨by omega,by omega,by simpa using hb⟩,by omega⟩⟩⟩⟩) fun _=>q5t (by omega) h
theorem j48{a b:List Spn}{K:List Spn->Prop}(h: ∀l,SpsS l->K l):q0v a b K:=by
 unfold q0v z86
 refine q4c fun x hx=>q4c fun y hy=>Lp2.ind (fun (i:Int) (b:List Bool)=>0<=i/\i<=10000/\b.length=10000) (fun (i:Int) _=>(10000 - i).toNat) ?_ ⟨by omega,by omega,hx⟩
 rintro i b ⟨i0,i1,hb⟩ _
 exact Cnd.mk (fun hc=>⟨by omega,fun y hy=>Cnd.mk (fun _=>⟨by omega,fun _ _=>⟨by omega,fun _ _=>⟨by unfold InI;omega,⟨by omega,by omega,by simpa using hb⟩,by omega⟩⟩⟩) fun _=>⟨by omega,fun _ _=>⟨by unfold InI;omega,⟨by omega,by omega,by simpa using hb⟩,by omega⟩⟩⟩) fun _=>q5t (by omega) h
theorem w4z{a b:List Spn}{K:List Spn->Prop}(h: ∀l,SpsS l->K l):q5d a b K:=by
 unfold q5d z49
 refine q4c fun x hx=>q4c fun y hy=>Lp2.ind (fun (i:Int) (b:List Bool)=>0<=i/\i<=10000/\b.length=10000) (fun (i:Int) _=>(10000 - i).toNat) ?_ ⟨by omega,by omega,hx⟩
 rintro i b ⟨i0,i1,hb⟩ _
 exact Cnd.mk (fun hc=>⟨by omega,fun y hy=>Cnd.mk (fun _=>⟨by omega,fun _ _=>⟨by omega,fun _ _=>⟨by unfold InI;omega,⟨by omega,by omega,by simpa using hb⟩,by omega⟩⟩⟩) fun _=>⟨by omega,fun _ _=>⟨by unfold InI;omega,⟨by omega,by omega,by simpa using hb⟩,by omega⟩⟩⟩) fun _=>q5t (by omega) h
theorem w7w{a:List Spn}{n:Int}{K:List Spn->Prop}(hn: -1000000<=n/\n<=1000000)(h: ∀l,SpsS l->K l):q72 a n K:=by
 unfold q72 z87
 refine q4c fun x hx=>Lp3.ind (fun (m i:Int) (b:List Bool)=>0<=i/\i<=10000/\b.length=10000/\ -1000000 - i<=m/\m<=1000000) (fun _ (i:Int) _=>(10000 - i).toNat) ?_ ⟨by omega,by omega,hx,by omega,by omega⟩
 rintro m i b ⟨i0,i1,hb,m0,m1⟩ _
 refine Cnd.mk (fun hc=>⟨by omega,fun y hy=> ?_⟩) fun _=>q5t (by omega) h
 have step:(0<=i/\i<(b.length:Int))/\ ∀y5,b[i.toNat]? =some y5->Cnd (y5=true) (InI (m - 1)/\InI (i+1)/\((0<=i+1/\i+1<=10000/\b.length=10000/\ -1000000 - (i+1)<=m - 1/\m - 1<=1000000)/\(10000 - (i+1)).toNat<(10000 - i).toNat)) (InI (i+1)/\((0<=i+1/\i+1<=10000/\b.length=10000/\ -1000000 - (i+1)<=m/\m<=1000000)/\(10000 - (i+1)).toNat<(10000 - i).toNat)):=
  ⟨by omega,fun _ _=>Cnd.mk (fun _=>⟨by unfold InI;omega,by unfold InI;omega,by omega,by omega⟩) fun _=>⟨by unfold InI;omega,by omega,by omega⟩⟩
 exact Cnd.mk (fun _=>Cnd.mk (fun _=>⟨by omega,fun _ _=>⟨by unfold InI;omega,⟨by omega,by omega,by simpa using hb,by omega,by omega⟩,by omega⟩⟩) fun _=>step) fun _=>step
theorem y5x(n:Int):0<=Go.IntKind.u8.wrap n/\Go.IntKind.u8.wrap n<=255:=by
 have e:Go.IntKind.u8.wrap n=n % 256:=rfl
 rw[e];omega
theorem v4x{s:ByteArray}{K:Bool->Prop}(hs:s.size<=1000)(h: ∀r,K r):z4y s K:=by
 unfold z4y
 refine Lp1.ind (fun (i:Int)=>0<=i/\i<=s.size) (fun (i:Int)=>(s.size - i).toNat) ?_ ⟨by omega,by omega⟩
 rintro i ⟨i0,i1⟩
 (repeat' (first|exact h _|assumption|(unfold InI;omega)|omega|refine Cnd.mk (fun _=> ?_) fun _=> ?_|refine⟨?_,?_⟩|intro _))
theorem v4y{e:Ex}{K:Bool->Prop}(h: ∀r,K r):z40 e K:=by
 unfold z40
 (repeat' (first|exact h _|assumption|(unfold InI;omega)|omega|refine Cnd.mk (fun _=> ?_) fun _=> ?_|refine⟨?_,?_⟩|intro _))
theorem w7x{e:Ex}{K:Bool->Prop}(h: ∀r:Bool,(r=true->9<=e.op->e.op<=11->e.values≠[])->K r):q74 e K:=by
 unfold q74 z88
 intro _ _
 refine Jn2.mk (fun _ v=>v=true->9<=e.op->e.op<=11->e.values.length=1) ?_ fun k v hv=> ?_
 ·refine Cnd.mk (fun _ _ _ _ _=>by omega) fun _=>Cnd.mk (fun _ _ _ _ _=>by omega) fun _=>Cnd.mk (fun _ _ _ _ _=>by omega) fun _=>Cnd.mk (fun _ _ _ _ _=>by omega) fun _=>q1i fun r hr=>Cnd.mk (fun _=>Cnd.mk (fun _ _ _ _=>by omega) fun _ _ hd _ _=>by have:=of_decide_eq_true hd;omega) fun hc _ h1 h2=>absurd (hr.2 ⟨by omega,by omega⟩) hc
 ·have no:K false:=h _ fun h=>by cases h
  refine q1i fun r _=>Cnd.mk (fun _=>Cnd.mk (fun hv'=> ?_) fun _=>no) fun _=>no
  have yes: ∀r,K r:=fun r=>h r fun _ h1 h2 hn=>by have:=hv hv' h1 h2;rw[hn] at this;cases this
  (repeat' (first|exact yes _|exact no|assumption|(unfold InI;omega)|omega|refine Cnd.mk (fun _=> ?_) fun _=> ?_|refine⟨?_,?_⟩|intro _))
theorem v0k{v:Val}{K:Bool->Prop}(h: ∀r,K r):q3o v K:=by
 unfold q3o
 (repeat' (first|exact h _|assumption|(unfold InI;omega)|omega|refine Cnd.mk (fun _=> ?_) fun _=> ?_|refine⟨?_,?_⟩|intro _))
theorem j9r{l:List Rng}{n:Int}{K:Int->Prop}(h: ∀r,0<=r->r<=100->K r):q3q l n K:=by
 unfold q3q
 intro _
 refine Cnd.mk (fun _=>h _ (by omega) (by omega)) fun _=> ?_
 refine Lp2.ind (fun _ (i:Int)=>0<=i/\i<=l.length) (fun _ (i:Int)=>(l.length - i).toNat) ?_ ⟨by omega,by omega⟩
 rintro a i ⟨i0,i1⟩
 (repeat' (first|exact h _ (by omega) (by omega)|assumption|(unfold InI;omega)|omega|refine Cnd.mk (fun _=> ?_) fun _=> ?_|refine⟨?_,?_⟩|intro _))
theorem v0l{l:List Spn}{K:Int->Prop}(h: ∀r,0<=r->r<=100->K r):z1d l K:=by
 unfold z1d
 intro _
 refine Cnd.mk (fun _=>h _ (by omega) (by omega)) fun _=> ?_
 refine Lp1.ind (fun (i:Int)=>0<=i/\i<=l.length) (fun (i:Int)=>(l.length - i).toNat) ?_ ⟨by omega,by omega⟩
 rintro i ⟨i0,i1⟩
 (repeat' (first|exact h _ (by omega) (by omega)|assumption|(unfold InI;omega)|omega|refine Cnd.mk (fun _=> ?_) fun _=> ?_|refine⟨?_,?_⟩|intro _))
theorem w7y{α:Type}{l:List α}{f:α->ByteArray}{K:List ByteArray->Prop}(hl:l.length<=1000000)(h:K (l.map f)):
  Lp2 (fun (r:List ByteArray) (i:Int) Y=>l.length<=9223372036854775807->Cnd (i<(l.length:Int)) ((0<=i/\i<(l.length:Int))/\ ∀y,l[i.toNat]? =some y->Sml (r++[f y]).length/\InI (i+1)/\Y (r++[f y]) (i+1)) (K r)) [] 0:=by
 refine Lp2.ind (fun (r:List ByteArray) (i:Int)=>0<=i/\i<=l.length/\r=(l.take i.toNat).map f) (fun _ (i:Int)=>(l.length - i).toNat) ?_ ⟨Int.le_refl 0,by omega,by simp⟩
 rintro r i ⟨i0,i1,rfl⟩ _
 refine Cnd.mk (fun hc=>⟨by omega,fun y hy=>⟨by unfold Sml;simp;omega,by unfold InI;omega,⟨by omega,by omega,?_⟩,by omega⟩⟩) fun hc=> ?_
 ·rw[show (i+1).toNat=i.toNat+1 by omega,List.take_add_one,hy];simp
 ·rw[List.take_of_length_le (by omega)];exact h
theorem z3m{l:List Seg}{K:List ByteArray->Prop}(hl:l.length<=1000000)(h:K (l.map Seg.key)):Hp l K:=w7y hl h
theorem y2b{i:Nat}:(29:Int)*10 ^ (i+1)=10*(29*10 ^ i):=by rw[Int.pow_succ];omega
theorem j4j{s:ByteArray}{K:Int->Int->Prop}(hs:s.size<=1000)(h: ∀n e,InI n->0<=e->e<=100->K n e):Jy s K:=by
 unfold Jy
 refine Jn1.mk (fun d=>d.size<=1000) ?_ fun d hd=> ?_
 ·(repeat' (first|(show (s.extract _ _).size<=1000;rw[ByteArray.size_extract];omega)|assumption|(unfold InI;omega)|omega|refine Cnd.mk (fun _=> ?_) fun _=> ?_|refine⟨?_,?_⟩|intro _))
 refine Lp1.ind (fun (i:Int)=>0<=i/\i<=d.size) (fun (i:Int)=>(d.size - i).toNat) ?_ ⟨by omega,by omega⟩
 rintro i ⟨i0,i1⟩
 have fin:d.size<=13->Lp2 (fun (Qe Jz:Int) w8m=>Cnd (Jz<(↑d.size:Int)) (InI ((10:Int)*Qe)/\((0:Int)<=Jz/\Jz<(↑d.size:Int))/\ ∀b5,d[Jz.toNat]? =some b5->InI (Go.IntKind.u8.wrap ((↑b5.toNat:Int) - (48:Int)))/\InI ((10:Int)*Qe+Go.IntKind.u8.wrap ((↑b5.toNat:Int) - (48:Int)))/\InI (Jz+(1:Int))/\w8m ((10:Int)*Qe+Go.IntKind.u8.wrap ((↑b5.toNat:Int) - (48:Int))) (Jz+(1:Int))) (Cnd ((1099511627776:Int)<Qe) (K (0:Int) (3:Int)) (Cnd ((↑d.size:Int)<(↑s.size:Int)) (InI ((0:Int) - Qe)/\K ((0:Int) - Qe) (0:Int)) (K Qe (0:Int))))) (0:Int) (0:Int):=fun h13=>by
  refine Lp2.ind (fun (n j:Int)=>0<=j/\j<=d.size/\0<=n/\n+29<=29*10 ^ j.toNat) (fun _ (j:Int)=>(d.size - j).toNat) ?_ ⟨by omega,by omega,by omega,by simp⟩
  rintro n j ⟨j0,j1,n0,n1⟩
  have hp:(10:Int) ^ j.toNat<=10 ^ 13:=by
   have:=Nat.pow_le_pow_right (n:=10) (by decide) (show j.toNat<=13 by omega)
   exact_mod_cast this
  refine Cnd.mk (fun hc=>⟨by unfold InI;omega,by omega,fun b _=> ?_⟩) fun hc=> ?_
  ·obtain⟨w0,w1⟩:=y5x ((b.toNat:Int) - 48)
   refine⟨by unfold InI;omega,by unfold InI;omega,by unfold InI;omega,⟨by omega,by omega,by omega,?_⟩,by omega⟩
   rw[show (j+1).toNat=j.toNat+1 by omega,y2b];omega
  ·exact Cnd.mk (fun _=>h _ _ (by unfold InI;omega) (by omega) (by omega)) fun _=>Cnd.mk (fun _=>⟨by unfold InI;omega,h _ _ (by unfold InI;omega) (by omega) (by omega)⟩) fun _=>h _ _ (by unfold InI;omega) (by omega) (by omega)
 have k1:=h 0 1 (by unfold InI;omega) (by omega) (by omega)
 have k3:=h 0 3 (by unfold InI;omega) (by omega) (by omega)
 refine Cnd.mk (fun hc=>⟨by omega,fun b hb=>Cnd.mk (fun _=>k1) fun _=>⟨by omega,fun b' hb'=>Cnd.mk (fun _=>k1) fun _=>⟨by unfold InI;omega,by omega,by omega⟩⟩⟩) fun _=> ?_
 refine Cnd.mk (fun _=>k1) fun he=>⟨⟨by omega,?_⟩,fun b hb=>Cnd.mk (fun _=>Cnd.mk (fun _=>Cnd.mk (fun _=>k3) fun _=>fin (by omega)) fun _=>k1) fun _=>Cnd.mk (fun _=>k3) fun _=>fin (by omega)⟩
 refine Int.not_le.1 fun hn=>he ?_
 have:d.size=0:=by omega
 exact ByteArray.ext (Array.eq_empty_of_size_eq_zero this)
theorem v4z{t:Int}{e:Ex}{K:Bool->Prop}(h: ∀r,K r):q8a t e K:=by
 unfold q8a
 refine Cnd.mk (fun _=>h _) fun _=>Cnd.mk (fun _=> ?_) fun _ _=>Cnd.mk (fun _=>h _) fun _=>⟨by omega,fun y hy=>Cnd.mk (fun _=>h _) fun _=>Jn1.mk (fun _=>True) ?_ fun x _=> ?_⟩
 ·refine Lp1.ind (fun (i:Int)=>0<=i/\i<=e.values.length) (fun (i:Int)=>(e.values.length - i).toNat) ?_ ⟨by omega,by omega⟩
  rintro i ⟨i0,i1⟩
  (repeat' (first|exact h _|assumption|(unfold InI;omega)|omega|refine Cnd.mk (fun _=> ?_) fun _=> ?_|refine⟨?_,?_⟩|intro _))
 ·(repeat' (first|exact trivial|assumption|(unfold InI;omega)|omega|refine Cnd.mk (fun _=> ?_) fun _=> ?_|refine⟨?_,?_⟩|intro _))
 ·(repeat' (first|exact h _|assumption|(unfold InI;omega)|omega|refine Cnd.mk (fun _=> ?_) fun _=> ?_|refine⟨?_,?_⟩|intro _))
theorem j9s{v:Envt}{K:List ByteArray->Prop}(hl:v.flags.length<=1000000)(h:K (v.flags.map Flg.key)):q4j v K:=w7y hl h
def z3n(f:Flg):List Edg:=f.needs.map fun q=>Edg.mk f.key q.flag
theorem j54{v:Envt}{K:List Edg->Prop}(hl:v.flags.length<=1000)(hn: ∀f∈v.flags,f.needs.length<=1000)(h:K (v.flags.flatMap z3n)):Rm v K:=by
 unfold Rm
 have hb: ∀l:List Flg,(∀f∈l,f.needs.length<=1000)->(l.flatMap z3n).length<=1000*l.length:=by
  intro l
  induction l with
  |nil=>simp
  |cons f l ih=>intro hf;have h1:=hf f (by simp);have h2:=ih fun g hg=>hf g (by simp[hg]);simp only[List.flatMap_cons,List.length_append,z3n,List.length_map,List.length_cons] at*;omega
 refine Lp2.ind (fun (r:List Edg) (i:Int)=>0<=i/\i<=v.flags.length/\r=(v.flags.take i.toNat).flatMap z3n) (fun _ (i:Int)=>(v.flags.length - i).toNat) ?_ ⟨Int.le_refl 0,by omega,by simp⟩
 rintro r i ⟨i0,i1,rfl⟩ _
 refine Cnd.mk (fun hc=> ?_) fun hc=> ?_
 ·obtain⟨f,hf⟩: ∃f,v.flags[i.toNat]? =some f:=⟨_,List.getElem?_eq_getElem (by omega)⟩
  have hfn:=hn f (getm hf)
  have hbt:=hb (v.flags.take i.toNat) fun g hg=>hn g (List.mem_of_mem_take hg)
  rw[List.length_take] at hbt
  refine Lp2.ind (fun (r:List Edg) (j:Int)=>0<=j/\j<=f.needs.length/\r=(v.flags.take i.toNat).flatMap z3n++(f.needs.take j.toNat).map fun q=>Edg.mk f.key q.flag) (fun _ (j:Int)=>(f.needs.length - j).toNat) ?_ ⟨by omega,by omega,by simp⟩
  rintro r j ⟨j0,j1,rfl⟩
  refine⟨by omega,fun g hg=> ?_⟩
  rw[hf] at hg;cases hg
  refine fun _=>Cnd.mk (fun hc=>⟨by omega,fun g hg=> ?_⟩) fun hc=>⟨by unfold InI;omega,⟨by omega,by omega,?_⟩,by omega⟩
  ·rw[hf] at hg;cases hg
   refine⟨by omega,fun g hg=> ?_⟩
   rw[hf] at hg;cases hg
   refine⟨by omega,fun q hq=>⟨?_,by unfold InI;omega,⟨by omega,by omega,?_⟩,by omega⟩⟩
   ·unfold Sml;simp only[List.length_append,List.length_map,List.length_take,List.length_cons,List.length_nil];omega
   ·rw[show (j+1).toNat=j.toNat+1 by omega,List.take_add_one,hq];simp
  ·rw[List.take_of_length_le (show f.needs.length<=j.toNat by omega),show (i+1).toNat=i.toNat+1 by omega,List.take_add_one,hf];simp[z3n]
 ·rw[List.take_of_length_le (by omega)];exact h
end Go.En
end
noncomputable section
set_option maxRecDepth 100000
namespace Go.Sg
open Go
abbrev bts(s:ByteArray):List UInt8:=s.data.toList
theorem Gw(s:ByteArray):(bts s).length=s.size:=rfl
theorem q4d{s:ByteArray}{i:Nat}{b:UInt8}:s[i]? =some b↔(bts s)[i]? =some b:=by
 rw[show s[i]? =s.data[i]? from by
  by_cases h:i<s.size
  ·rw[getElem?_pos s i h,getElem?_pos s.data i h];rfl
  ·rw[getElem?_neg s i h,getElem?_neg s.data i h]]
 rw[Array.getElem?_toList]
theorem get!_of{s:ByteArray}{i:Nat}(h:i<s.size):(bts s)[i]? =some (s.get! i):=by
 have h':i<s.data.size:=h
 show s.data.toList[i]? =some (s.data[i]!)
 rw[Array.getElem?_toList,Array.getElem?_eq_getElem h',getElem!_pos s.data i h']
theorem v8u{s:ByteArray}{i:Nat}(h:(s.get! i).toNat<128):Utf8.decode s i=((s.get! i).toNat,1):=by
 unfold Utf8.decode
 simp only[Nat.add_zero]
 rw[if_pos h]
theorem v8v{s:ByteArray}{i:Nat}(h:128<=(s.get! i).toNat):128<=(Utf8.decode s i).1/\1<=(Utf8.decode s i).2/\ ∀k,k<(Utf8.decode s i).2->128<=(s.get! (i+k)).toNat:=by
 have k1: ∀k,k<1->128<=(s.get! (i+k)).toNat:=fun k hk=>by rw[show k=0 by omega];exact h
 have bad:128<=(Utf8.runeError,1).1/\1<=(Utf8.runeError,1).2/\ ∀k,k<(Utf8.runeError,1).2->128<=(s.get! (i+k)).toNat:=⟨by decide,by decide,k1⟩
 unfold Utf8.decode
 simp only[Nat.add_zero]
 rw[if_neg (by omega)]
 split
 ·rename_i hc
  simp only[Bool.and_eq_true,beq_iff_eq,decide_eq_true_eq] at hc
  split
  ·rename_i h2
   refine⟨h2,by simp,fun k hk=> ?_⟩
   have:k=0∨k=1:=by simp only at hk;omega
   rcases this with rfl|rfl
   ·exact h
   ·omega
  ·exact bad
 ·split
  ·rename_i _ hc
   simp only[Bool.and_eq_true,beq_iff_eq,decide_eq_true_eq] at hc
   split
   ·rename_i h2
    simp only[Bool.and_eq_true,decide_eq_true_eq] at h2
    refine⟨by simp only;omega,by simp,fun k hk=> ?_⟩
    have:k=0∨k=1∨k=2:=by simp only at hk;omega
    rcases this with rfl|rfl|rfl
    ·exact h
    ·omega
    ·omega
   ·exact bad
  ·split
   ·rename_i _ _ hc
    simp only[Bool.and_eq_true,beq_iff_eq,decide_eq_true_eq] at hc
    split
    ·rename_i h2
     simp only[Bool.and_eq_true,decide_eq_true_eq] at h2
     refine⟨by simp only;omega,by simp,fun k hk=> ?_⟩
     have:k=0∨k=1∨k=2∨k=3:=by simp only at hk;omega
     rcases this with rfl|rfl|rfl|rfl
     ·exact h
     ·omega
     ·omega
     ·omega
    ·exact bad
   ·exact bad
structure RuneP(p:Nat->Prop):Prop where
 hi: ∀n,128<=n->(p n↔p 128)
def Clr(p:Nat->Prop)(s:ByteArray)(k:Nat):Prop:= ∀i,i<k->i<s.size-> ¬p (s.get! i).toNat
theorem Clr.zero{p:Nat->Prop}{s:ByteArray}:Clr p s 0:=fun _ h=>absurd h (Nat.not_lt_zero _)
theorem v8w(s:ByteArray)(k:Nat):1<=(Utf8.decode s k).2:=by
 rcases Nat.lt_or_ge (s.get! k).toNat 128 with h|h
 ·rw[v8u h];exact Nat.le_refl 1
 ·exact (v8v h).2.1
theorem Clr.step{p:Nat->Prop}(hp:RuneP p){s:ByteArray}{k:Nat}(h:Clr p s k)(hk: ¬p (Utf8.decode s k).1):Clr p s (k+(Utf8.decode s k).2):=by
 intro i hi hs
 rcases Nat.lt_or_ge i k with h1|h1
 ·exact h i h1 hs
 rcases Nat.lt_or_ge (s.get! k).toNat 128 with h2|h2
 ·rw[v8u h2] at hk hi
  simp only at hk hi
  rw[show i=k by omega];exact hk
 ·obtain⟨a,_,c⟩:=v8v h2
  have:=c (i - k) (by omega)
  rw[show k+(i - k)=i by omega] at this
  rw[hp.hi _ this,←hp.hi _ a];exact hk
theorem j61{p:Nat->Prop}(hp:RuneP p){s:ByteArray}{k:Nat}(hk:p (Utf8.decode s k).1):p (s.get! k).toNat:=by
 rcases Nat.lt_or_ge (s.get! k).toNat 128 with h2|h2
 ·rw[v8u h2] at hk;exact hk
 ·rw[hp.hi _ h2,←hp.hi _ (v8v h2).1];exact hk
theorem Clr.all{p:Nat->Prop}{s:ByteArray}{k:Nat}(h:Clr p s k)(hk:s.size<=k): ∀c∈bts s,¬p c.toNat:=by
 intro c hc
 obtain⟨i,hi⟩:=List.mem_iff_getElem?.1 hc
 have hl:i<s.size:=(List.getElem?_eq_some_iff.1 hi).1
 have:=get!_of hl
 rw[hi] at this
 cases this
 exact h i (by omega) hl
theorem j4k{s:ByteArray}{k:Nat}(h:k<s.size):s.get! k∈bts s:=List.mem_of_getElem? (get!_of h)
def good(c:UInt8):Bool:=decide (32<=c.toNat) && decide (c.toNat≠127)
def vld(s:ByteArray):Bool:=decide (s.size<=200) && Go.Lib.validD (bts s) && (bts s).all good
def isD(c:UInt8):Bool:=decide (48<=c.toNat) && decide (c.toNat<=57)
def z73(n:Nat)(c:UInt8):Nat:=10*n+(c.toNat - 48)
def valD(n:Nat)(l:List UInt8):Nat:=l.foldl z73 n
def digs(s:ByteArray):ByteArray:=if s[0]? =some 45 then s.extract 1 s.size else s
def pnum(s:ByteArray):Int×Int:=
 if (bts (digs s)).all isD=false then (0,1)
 else if (digs s).size=0∨((digs s)[0]? =some 48/\s≠ByteArray.mk (Array.mk [48])) then (0,1)
 else if 1099511627776<valD 0 (bts (digs s)) then (0,3)
 else (if (digs s).size<s.size then -(valD 0 (bts (digs s)):Int) else valD 0 (bts (digs s)),0)
theorem v2k(n:Nat):valD n []=n:=rfl
theorem j15(n:Nat)(c:UInt8)(l:List UInt8):valD n (c::l)=valD (z73 n c) l:=List.foldl_cons ..
theorem v8x(n:Nat)(l:List UInt8)(c:UInt8):valD n (l++[c])=z73 (valD n l) c:=by
 unfold valD;rw[List.foldl_append];rfl
theorem v0m: ∀(l:List UInt8) (n:Nat),n*10 ^ l.length<=valD n l
 |[],n=>by simp[valD]
 |c::l,n=>by
  rw[j15,List.length_cons]
  refine Nat.le_trans ?_ (v0m l (z73 n c))
  rw[Nat.pow_succ,Nat.mul_comm (10 ^ l.length) 10,←Nat.mul_assoc]
  exact Nat.mul_le_mul_right _ (by unfold z73;omega)
theorem v8y: ∀(l:List UInt8) (n:Nat),l.all isD=true->valD n l<(n+1)*10 ^ l.length
 |[],n,_=>by simp[valD]
 |c::l,n,h=>by
  simp only[List.all_cons,Bool.and_eq_true] at h
  rw[j15,List.length_cons]
  refine Nat.lt_of_lt_of_le (v8y l (z73 n c) h.2) ?_
  have h1:=h.1
  simp only[isD,Bool.and_eq_true,decide_eq_true_eq] at h1
  rw[Nat.pow_succ,Nat.mul_comm (10 ^ l.length) 10,←Nat.mul_assoc]
  exact Nat.mul_le_mul_right _ (by unfold z73;omega)
theorem v8z: ∀(l:List UInt8) (n:Nat),n<=valD n l:=fun l n=>Nat.le_trans (by
 have:0<10 ^ l.length:=Nat.pow_pos (by decide)
 exact Nat.le_mul_of_pos_right n this) (v0m l n)
theorem j49: ∀(l:List UInt8) (n:Nat),l.all isD=true->Go.Lib.parseUint10 n l=(if valD n l<18446744073709551616/\n<18446744073709551616 then .ok (valD n l) else if l=[] then .ok n else .range)
 |[],n,_=>by
  unfold Go.Lib.parseUint10
  rw[v2k]
  split<;>simp
 |c::l,n,h=>by
  simp only[List.all_cons,Bool.and_eq_true] at h
  have h1:=h.1
  simp only[isD,Bool.and_eq_true,decide_eq_true_eq] at h1
  have ih:=j49 l (z73 n c) h.2
  have hs:=v8z l (z73 n c)
  have es:z73 n c=10*n+(c.toNat - 48):=rfl
  have e:n*10+(c.toNat - 48)=z73 n c:=by omega
  have hne: ¬(c::l=[]):=by simp
  unfold Go.Lib.parseUint10
  rw[if_pos h1,j15,e,if_neg hne]
  generalize z73 n c=m at ih hs es e⊢
  by_cases h2:1844674407370955162<=n
  ·rw[if_pos h2,if_neg (by omega)]
  ·rw[if_neg h2]
   by_cases h3:18446744073709551616<=m
   ·rw[if_pos h3,if_neg (by omega)]
   ·rw[if_neg h3,ih]
    by_cases h4:valD m l<18446744073709551616
    ·rw[if_pos ⟨h4,by omega⟩,if_pos ⟨h4,by omega⟩]
    ·have: ¬l=[]:=by rintro rfl;rw[v2k] at h4;omega
     rw[if_neg (by omega),if_neg this,if_neg (by omega)]
theorem w7z{l:List UInt8}(h:l.all isD=true)(hn:l≠[]):Go.Lib.parseMag l=(if valD 0 l<18446744073709551616 then .ok (valD 0 l) else .range):=by
 unfold Go.Lib.parseMag
 rw[if_neg hn,j49 l 0 h]
 by_cases h4:valD 0 l<18446744073709551616
 ·rw[if_pos ⟨h4,by omega⟩,if_pos h4]
 ·rw[if_neg (by omega),if_neg h4,if_neg hn]
theorem v2l{s:ByteArray}{k:Nat}:bts (s.extract k s.size)=(bts s).drop k:=by
 show (s.extract k s.size).data.toList=_
 rw[ByteArray.data_extract,Array.toList_extract,List.extract_eq_take_drop,List.take_of_length_le]
 rw[List.length_drop]
 exact Nat.le_refl _
theorem j4l{s:ByteArray}(h:s[0]? =some 45):bts s=45::bts (digs s)/\(digs s).size+1=s.size:=by
 have h0:0<s.size:=by
  rw[q4d] at h;exact (List.getElem?_eq_some_iff.1 h).1
 have e:bts (digs s)=(bts s).drop 1:=by
  unfold digs
  rw[if_pos h,v2l]
 rw[q4d] at h
 refine⟨?_,?_⟩
 ·rw[e]
  cases hb:bts s with
  |nil=>rw[hb] at h;simp at h
  |cons c l=>rw[hb] at h;simp at h;simp[h]
 ·rw[←Gw,e,List.length_drop,Gw];omega
theorem q89{s:ByteArray}(h: ¬s[0]? =some 45):digs s=s:=by unfold digs;rw[if_neg h]
theorem v0n{s:ByteArray}(h:(bts (digs s)).all isD=true)(hn:(digs s).size≠0):Go.Lib.atoiAll (bts s)=(if valD 0 (bts (digs s))<=(if s[0]? =some 45 then 9223372036854775808 else 9223372036854775807) then .ok (if s[0]? =some 45 then -(valD 0 (bts (digs s)):Int) else valD 0 (bts (digs s))) else .range):=by
 have hne:bts (digs s)≠[]:=fun e=>hn (by rw[←Gw,e];rfl)
 by_cases hm:s[0]? =some 45
 ·obtain⟨e,_⟩:=j4l hm
  rw[if_pos hm,if_pos hm,e]
  unfold Go.Lib.atoiAll
  simp only[show (45:UInt8).toNat=45 from rfl,or_true,if_true]
  rw[w7z h hne]
  generalize valD 0 (bts (digs s))=v
  by_cases h1:v<18446744073709551616
  ·rw[if_pos h1]
   by_cases h2:v<=9223372036854775808
   ·rw[if_pos h2];simp only[not_true,false_and,if_false,true_and];rw[if_neg (by omega)]
   ·rw[if_neg h2];simp only[not_true,false_and,if_false,true_and];rw[if_pos (by omega)]
  ·rw[if_neg h1,if_neg (by omega)]
 ·rw[if_neg hm,if_neg hm]
  rw[q89 hm] at h hne⊢
  have hp:=w7z h hne
  generalize valD 0 (bts s)=v at hp⊢
  cases hb:bts s with
  |nil=>exact absurd hb hne
  |cons c l=>
   have hc':isD c=true:=by rw[hb] at h;simp only[List.all_cons,Bool.and_eq_true] at h;exact h.1
   simp only[isD,Bool.and_eq_true,decide_eq_true_eq] at hc'
   unfold Go.Lib.atoiAll
   simp only[]
   rw[if_neg (show ¬(c.toNat=43∨c.toNat=45) by omega),←hb,hp]
   by_cases h1:v<18446744073709551616
   ·rw[if_pos h1]
    simp only[]
    by_cases h2:v<=9223372036854775807
    ·rw[if_pos h2,if_neg (by omega),if_neg (by omega),if_neg (by omega)]
    ·rw[if_neg h2,if_pos (by omega)]
   ·rw[if_neg h1,if_neg (by omega)]
def dot(s:ByteArray)(k:Nat):Nat:=k+((bts s).drop k).idxOf 46
theorem v2m{s:ByteArray}{k:Nat}:k<=dot s k:=Nat.le_add_right _ _
theorem y3k{s:ByteArray}{k:Nat}(h:k<=s.size):dot s k<=s.size:=by
 have:=List.idxOf_le_length (a:=(46:UInt8)) (l:=(bts s).drop k)
 rw[List.length_drop,Gw] at this
 unfold dot;omega
theorem v81{s:ByteArray}{k:Nat}(h:dot s k<s.size):s[dot s k]? =some 46:=by
 have hl:((bts s).drop k).idxOf 46<((bts s).drop k).length:=by rw[List.length_drop,Gw];unfold dot at h;omega
 have h2:=List.getElem_idxOf hl
 rw[q4d]
 unfold dot
 rw[←List.getElem?_drop,List.getElem?_eq_getElem hl,h2]
theorem v82{s:ByteArray}{k i:Nat}(h0:k<=i)(h1:i<dot s k):s[i]? ≠some 46:=by
 intro e
 rw[q4d] at e
 have e2:((bts s).drop k)[i - k]? =some 46:=by rw[List.getElem?_drop,show k+(i - k)=i by omega];exact e
 obtain⟨hl,e3⟩:=List.getElem?_eq_some_iff.1 e2
 have h2:i - k<((bts s).drop k).idxOf 46:=by unfold dot at h1;omega
 have:=List.not_of_lt_findIdx (p:=fun x=>x==(46:UInt8)) (xs:=(bts s).drop k) (i:=i - k) h2
 rw[e3] at this
 simp at this
theorem y8i{s:ByteArray}{k i:Nat}(h0:k<=i)(hs:s[i]? =some 46)(hn: ∀j,k<=j->j<i->s[j]? ≠some 46):dot s k=i:=by
 have hi:i<s.size:=(List.getElem?_eq_some_iff.1 (q4d.1 hs)).1
 rcases Nat.lt_trichotomy (dot s k) i with h|h|h
 ·exact absurd (v81 (show dot s k<s.size by omega)) (hn _ v2m h)
 ·exact h
 ·exact absurd hs (v82 h0 h)
theorem y5y{s:ByteArray}{k:Nat}(hk:k<=s.size)(hn: ∀j,k<=j->j<s.size->s[j]? ≠some 46):dot s k=s.size:=by
 rcases Nat.lt_or_ge (dot s k) s.size with h|h
 ·exact absurd (v81 h) (hn _ v2m h)
 ·have:=y3k hk;omega
def okp(p:Int×Int):Bool:=decide (p.2=0) && decide (0<=p.1) && decide (p.1<=999999)
def H3(s:ByteArray)(k:Nat):Int×Int:=pnum (s.extract k (dot s k))
def w07(s:ByteArray):Prop:=(dot s 0<s.size/\okp (H3 s 0)=true)/\(dot s (dot s 0+1)<s.size/\okp (H3 s (dot s 0+1))=true)/\ ¬dot s (dot s (dot s 0+1)+1)<s.size/\okp (H3 s (dot s (dot s 0+1)+1))=true
instance (s:ByteArray):Decidable (w07 s):=by unfold w07;infer_instance
def prt(s:ByteArray):(Int×Int×Int)×Bool:=
 if w07 s then (((H3 s 0).1,(H3 s (dot s 0+1)).1,(H3 s (dot s (dot s 0+1)+1)).1),true) else ((0,0,0),false)
theorem y3l{s:ByteArray}(h: ¬w07 s):prt s=((0,0,0),false):=if_neg h
theorem v83{s:ByteArray}(h:w07 s):prt s=(((H3 s 0).1,(H3 s (dot s 0+1)).1,(H3 s (dot s (dot s 0+1)+1)).1),true):=if_pos h
abbrev dotB:ByteArray:=ByteArray.mk (Array.mk [46])
theorem w70: ∀l:List UInt8,Go.Lib.index l [46]=if l.idxOf 46<l.length then ((l.idxOf 46:Nat):Int) else -1
 |[]=>rfl
 |b::l=>by
  have ih:=w70 l
  unfold Go.Lib.index
  by_cases hb:b=46
  ·subst hb
   rw[if_pos (by simp[List.isPrefixOf]),List.idxOf_cons_self,if_pos (by simp)];rfl
  ·have hx:(b::l).idxOf 46=l.idxOf 46+1:=by rw[List.idxOf_cons,show (b==(46:UInt8))=false by simpa using hb];rfl
   rw[if_neg (by simp[List.isPrefixOf,Ne.symm hb]),hx,ih,List.length_cons]
   by_cases h:l.idxOf 46<l.length
   ·simp only[if_pos h]
    rw[if_neg (by simp only[beq_iff_eq];omega),if_pos (by omega)]
    push_cast;rfl
   ·simp only[if_neg h]
    rw[if_pos (by decide),if_neg (by omega)]
theorem v84{s:ByteArray}{k:Nat}:(s.extract k s.size).size=s.size - k:=by rw[ByteArray.size_extract];omega
theorem j9t{s:ByteArray}{k:Nat}(hk:k<=s.size):Go.Lib.indexB (s.extract k s.size) dotB=if dot s k<s.size then ((dot s k - k:Nat):Int) else -1:=by
 show Go.Lib.index (bts (s.extract k s.size)) [46]=_
 rw[v2l,w70,List.length_drop,Gw]
 have e:dot s k - k=((bts s).drop k).idxOf 46:=by unfold dot;omega
 rw[e]
 have hg:=v2m (s:=s) (k:=k)
 by_cases h:dot s k<s.size
 ·rw[if_pos h,if_pos (by omega)]
 ·rw[if_neg h,if_neg (by omega)]
def pc(s:ByteArray)(k:Nat):List ByteArray:=Go.Lib.splitB dotB 0 (Go.Lib.countB (s.extract k s.size) dotB) (s.extract k s.size)
theorem ext2{s:ByteArray}{k i:Nat}(h:k+i<=s.size):(s.extract k s.size).extract 0 i=s.extract k (k+i):=by
 apply ByteArray.ext
 have:s.data.size=s.size:=rfl
 simp only[ByteArray.data_extract,Array.extract_extract]
 congr 1
 omega
theorem ext3{s:ByteArray}{k i:Nat}:(s.extract k s.size).extract i (s.extract k s.size).size=s.extract (k+i) s.size:=by
 apply ByteArray.ext
 rw[v84]
 have:s.data.size=s.size:=rfl
 simp only[ByteArray.data_extract,Array.extract_extract]
 congr 1
 omega
theorem j9u{s:ByteArray}{k:Nat}(hk:k<=s.size)(h: ¬dot s k<s.size):pc s k=[s.extract k s.size]:=by
 unfold pc
 exact Go.Lib.splitB_miss _ _ _ _ (by rw[j9t hk,if_neg h])
theorem w2p{s:ByteArray}{k:Nat}(hk:k<=s.size)(h:dot s k<s.size):pc s k=s.extract k (dot s k)::pc s (dot s k+1):=by
 have hi:=j9t hk
 rw[if_pos h] at hi
 have hg:=v2m (s:=s) (k:=k)
 unfold pc
 rw[Go.Lib.countB_hit _ dotB _ (by decide) hi,Nat.add_comm,Go.Lib.splitB_hit _ _ _ _ _ hi]
 have e1:dotB.size=1:=rfl
 rw[Nat.add_zero,e1,ext2 (by omega),ext3,show k+(dot s k - k)=dot s k by omega,show k+(dot s k - k+1)=dot s k+1 by omega]
theorem v86{p:Nat->Prop}: ∀n,p n-> ∃n,p n/\ ∀k,k<n-> ¬p k:=by
 intro n
 induction n using Nat.strongRecOn with
 |_ n ih=>
  intro h
  by_cases hx: ∃k,k<n/\p k
  ·obtain⟨k,hk,hp⟩:=hx;exact ih k hk hp
  ·exact⟨n,h,fun k hk hp=>hx ⟨k,hk,hp⟩⟩
theorem y8j{s:ByteArray}{k:Nat}(hk:k<=s.size):0<(pc s k).length:=by
 by_cases h:dot s k<s.size
 ·rw[w2p hk h];simp
 ·rw[j9u hk h];simp
theorem w71{s:ByteArray}:Go.En.q1a s dotB=pc s 0:=by
 unfold Go.En.q1a pc
 have e:s.extract 0 s.size=s:=by simp
 rw[e]
theorem j9v{s:ByteArray}:(Go.En.q1a s dotB).length=3↔dot s 0<s.size/\dot s (dot s 0+1)<s.size/\ ¬dot s (dot s (dot s 0+1)+1)<s.size:=by
 rw[w71]
 by_cases h0:dot s 0<s.size
 ·rw[w2p (by omega) h0]
  by_cases h1:dot s (dot s 0+1)<s.size
  ·rw[w2p (by omega) h1]
   by_cases h2:dot s (dot s (dot s 0+1)+1)<s.size
   ·have:=y8j (s:=s) (k:=dot s (dot s (dot s 0+1)+1)+1) (by omega)
    rw[w2p (by omega) h2]
    simp only[List.length_cons]
    exact⟨fun e=>by omega,fun e=>absurd h2 e.2.2⟩
   ·rw[j9u (by omega) h2];simp[h0,h1,h2]
  ·rw[j9u (by omega) h1];simp[h1]
 ·rw[j9u (by omega) h0];simp[h0]
theorem v0o{s:ByteArray}(h:dot s 0<s.size/\dot s (dot s 0+1)<s.size/\ ¬dot s (dot s (dot s 0+1)+1)<s.size):Go.En.q1a s dotB=[s.extract 0 (dot s 0),s.extract (dot s 0+1) (dot s (dot s 0+1)),s.extract (dot s (dot s 0+1)+1) (dot s (dot s (dot s 0+1)+1))]:=by
 obtain⟨h0,h1,h2⟩:=h
 rw[w71,w2p (by omega) h0,w2p (by omega) h1,j9u (by omega) h2]
 have:=y3k (s:=s) (k:=dot s (dot s 0+1)+1) (by omega)
 rw[show dot s (dot s (dot s 0+1)+1)=s.size by omega]
theorem j5a{s t:List UInt8}:Go.Lib.contains s t=true↔ ∃i,i+t.length<=s.length/\(s.drop i).take t.length=t:=by
 have key:Go.Lib.contains s t=true↔ ∃i,i<=s.length/\Go.Lib.occAt s t i=true:=by
  unfold Go.Lib.contains
  constructor
  ·intro h
   have hge:0<=Go.Lib.index s t:=by simpa using h
   by_cases hx: ∃i,i<=s.length/\Go.Lib.occAt s t i=true
   ·exact hx
   ·have:=Go.Lib.index_none (s:=s) (sub:=t) (fun j hj=>by
     cases hb:Go.Lib.occAt s t j with
     |false=>rfl
     |true=>exact absurd ⟨j,hj,hb⟩ hx)
    omega
  ·rintro⟨i,hi,ho⟩
   obtain⟨j,⟨hj,hjo⟩,hmin⟩:=v86 (p:=fun j=>j<=s.length/\Go.Lib.occAt s t j=true) i ⟨hi,ho⟩
   have:=Go.Lib.index_first hj hjo (fun k hk=>by
    cases hb:Go.Lib.occAt s t k with
    |false=>rfl
    |true=>exact absurd ⟨by omega,hb⟩ (hmin k hk))
   rw[this];simp
 rw[key]
 constructor
 ·rintro⟨i,hi,ho⟩
  unfold Go.Lib.occAt at ho
  have hp:=List.isPrefixOf_iff_prefix.1 ho
  have hl:=hp.length_le
  rw[List.length_drop] at hl
  exact⟨i,by omega,(List.prefix_iff_eq_take.1 hp).symm⟩
 ·rintro⟨i,hi,ho⟩
  refine⟨i,by omega,?_⟩
  unfold Go.Lib.occAt
  rw[List.isPrefixOf_iff_prefix,List.prefix_iff_eq_take]
  exact ho.symm
end Go.Sg
end
noncomputable section
set_option maxRecDepth 100000
namespace Go.En
open Go Go.Fl Go.Fl.Lk Go.Fx Go.Sg
theorem v87{s:ByteArray}:s=ByteArray.mk (Array.mk [])↔s.size=0:=by
 constructor
 ·rintro rfl;rfl
 ·intro h;exact ByteArray.ext (Array.eq_empty_of_size_eq_zero h)
theorem y3m{s:ByteArray}{i:Int}(h0:0<=i)(h1:i<s.size){b:UInt8}(hb:s[i.toNat]? =some b):b=s.get! i.toNat:=by
 rw[q4d,get!_of (by omega)] at hb
 cases hb;rfl
theorem v88{s:ByteArray}{K:Bool->Prop}(hs:s.size<=1000)(h:K (Go.Lib.validD (bts s))):Js s K:=⟨by omega,h⟩
theorem badP:RuneP fun n=>n<32∨n=127:=⟨fun n h=>by omega⟩
theorem j5b{s:ByteArray}(h:200<s.size∨Go.Lib.validD (bts s)=false∨ ∃c∈bts s,c.toNat<32∨c.toNat=127):vld s=false:=by
 unfold vld
 rcases h with h|h|⟨c,hc,h⟩
 ·rw[decide_eq_false (by omega)];rfl
 ·rw[h];simp
 ·have:(bts s).all good=false:=by
   rw[List.all_eq_false]
   refine⟨c,hc,?_⟩
   unfold good
   simp only[Bool.and_eq_true,decide_eq_true_eq]
   omega
  rw[this];simp
theorem v89{s:ByteArray}(h1: ¬200<s.size)(h2:Go.Lib.validD (bts s)=true)(h3: ∀c∈bts s,¬(c.toNat<32∨c.toNat=127)):vld s=true:=by
 unfold vld
 rw[h2,decide_eq_true (show s.size<=200 by omega)]
 simp only[Bool.and_true,Bool.true_and,List.all_eq_true]
 intro c hc
 have:=h3 c hc
 unfold good
 simp only[Bool.and_eq_true,decide_eq_true_eq]
 omega
theorem j9w{s:ByteArray}{K:Bool->Prop}(h:K (vld s)):Z2 s K:=by
 unfold Z2 z67
 refine Cnd.mk (fun h1=>by rwa [j5b (.inl (by omega))] at h) fun h1=>v88 (by omega) (Cnd.mk (fun h2=> ?_) fun h2=>by rwa [j5b (.inr (.inl (by simpa using h2)))] at h)
 refine Lp1.ind (fun (i:Int)=>0<=i/\Clr (fun n=>n<32∨n=127) s i.toNat) (fun (i:Int)=>(s.size - i).toNat) ?_ ⟨by omega,Clr.zero⟩
 rintro i ⟨i0,hc⟩
 refine Cnd.mk (fun h3=>⟨by omega,fun b hb=> ?_⟩) fun h3=>by rwa [v89 (by omega) h2 (hc.all (by omega))] at h
 have e:=y3m i0 (by omega) hb
 have hm:b∈bts s:=e▸j4k (by omega)
 refine Cnd.mk (fun h4=>by rwa [j5b (.inr (.inr ⟨b,hm,.inl (by omega)⟩))] at h) fun h4=>⟨by omega,fun b' hb'=> ?_⟩
 rw[hb] at hb';cases hb'
 refine Cnd.mk (fun h5=>by rwa [j5b (.inr (.inr ⟨b,hm,.inr (by omega)⟩))] at h) fun h5=>⟨by unfold InI;omega,⟨by omega,fun j hj hs=> ?_⟩,by omega⟩
 by_cases hji:j<i.toNat
 ·exact hc j hji hs
 ·rw[show j=i.toNat by omega,←e];omega
theorem v40{b:UInt8}(h:isD b=true):Go.IntKind.u8.wrap ((b.toNat:Int) - 48)=((b.toNat - 48:Nat):Int):=by
 simp only[isD,Bool.and_eq_true,decide_eq_true_eq] at h
 have:(b.toNat:Int) - 48=((b.toNat - 48:Nat):Int):=by omega
 rw[this]
 show ((b.toNat - 48:Nat):Int) % 256=_
 omega
theorem digP:RuneP fun n=>n<48∨57<n:=⟨fun n h=>by omega⟩
theorem v0p{l:List UInt8}:l.all isD=true↔ ∀c∈l,¬(c.toNat<48∨57<c.toNat):=by
 rw[List.all_eq_true]
 constructor
 ·intro h c hc;have:=h c hc;simp only[isD,Bool.and_eq_true,decide_eq_true_eq] at this;omega
 ·intro h c hc;have:=h c hc;simp only[isD,Bool.and_eq_true,decide_eq_true_eq];omega
theorem z3o{l:List UInt8}{c:UInt8}(hc:c∈l)(h:c.toNat<48∨57<c.toNat):l.all isD=false:=by
 rw[Bool.eq_false_iff];intro e;exact v0p.1 e c hc h
theorem take_snoc{l:List UInt8}{i:Nat}{b:UInt8}(h:l[i]? =some b):l.take (i+1)=l.take i++[b]:=by rw[List.take_add_one,h];rfl
theorem j16{s:ByteArray}(h:(bts (digs s)).all isD=false):pnum s=(0,1):=by unfold pnum;rw[if_pos h]
theorem j17{s:ByteArray}(h:(bts (digs s)).all isD=true)(h0:(digs s).size=0∨((digs s)[0]? =some 48/\s≠ByteArray.mk (Array.mk [48]))):pnum s=(0,1):=by unfold pnum;rw[if_neg (by simp[h]),if_pos h0]
theorem j62{s:ByteArray}(h:(bts (digs s)).all isD=true)(h0: ¬((digs s).size=0∨((digs s)[0]? =some 48/\s≠ByteArray.mk (Array.mk [48]))))(h1:1099511627776<valD 0 (bts (digs s))):pnum s=(0,3):=by unfold pnum;rw[if_neg (by simp[h]),if_neg h0,if_pos h1]
theorem v2n{s:ByteArray}(h:(bts (digs s)).all isD=true)(h0: ¬((digs s).size=0∨((digs s)[0]? =some 48/\s≠ByteArray.mk (Array.mk [48]))))(h1: ¬1099511627776<valD 0 (bts (digs s))):pnum s=(if (digs s).size<s.size then -(valD 0 (bts (digs s)):Int) else valD 0 (bts (digs s)),0):=by unfold pnum;rw[if_neg (by simp[h]),if_neg h0,if_neg h1]
theorem j9x{s:ByteArray}(h:(bts (digs s)).all isD=true)(h0: ¬((digs s).size=0∨((digs s)[0]? =some 48/\s≠ByteArray.mk (Array.mk [48]))))(hl:13<(digs s).size):1099511627776<valD 0 (bts (digs s)):=by
 have hs:s≠ByteArray.mk (Array.mk [48]):=by
  rintro rfl
  revert hl;decide
 cases hb:bts (digs s) with
 |nil=>have:=Gw (digs s);rw[hb] at this;simp at this;omega
 |cons c l=>
  have hc:(digs s)[0]? =some c:=by rw[q4d,hb];rfl
  have hc0:c≠48:=fun e=>h0 (.inr ⟨e▸hc,hs⟩)
  have hd:isD c=true:=by rw[hb,List.all_cons,Bool.and_eq_true] at h;exact h.1
  simp only[isD,Bool.and_eq_true,decide_eq_true_eq] at hd
  have hne:c.toNat≠48:=fun e=>hc0 (by rw[←UInt8.toNat_inj];exact e)
  have hlen:13<=l.length:=by have:=Gw (digs s);rw[hb] at this;simp at this;omega
  rw[j15]
  have h1:=v0m l (z73 0 c)
  have h2:10 ^ 13<=10 ^ l.length:=Nat.pow_le_pow_right (by decide) hlen
  have h3:1*10 ^ l.length<=z73 0 c*10 ^ l.length:=Nat.mul_le_mul_right _ (by unfold z73;omega)
  omega
theorem dsz{s:ByteArray}:(digs s).size<=s.size:=by
 unfold digs
 split
 ·rw[ByteArray.size_extract];omega
 ·omega
theorem j4m{s:ByteArray}{K:Int->Int->Prop}(hs:s.size<=1000000000)(h:K (pnum s).1 (pnum s).2):Jy s K:=by
 unfold Jy
 refine Jn1.mk (fun d=>d=digs s) ?_ fun d hd=> ?_
 ·refine Cnd.mk (fun h0=>⟨by omega,fun b hb=>Cnd.mk (fun h1=>⟨by omega,?_⟩) fun h1=> ?_⟩) fun h0=> ?_
  ·have:b=45:=by rw[←UInt8.toNat_inj];show b.toNat=45;omega
   unfold digs;rw[if_pos (by rw[←this];exact hb)];congr 1
  ·rw[q89];intro e;rw[show Int.toNat 0=0 from rfl] at hb;rw[hb] at e;cases e;exact h1 rfl
  ·rw[q89];intro e;have:=(List.getElem?_eq_some_iff.1 (q4d.1 e)).1;rw[Gw] at this;omega
 subst hd
 generalize hd:digs s=d at*
 have hz:d.size<=s.size:=hd▸dsz
 refine Lp1.ind (fun (i:Int)=>0<=i/\i<=d.size/\Clr (fun n=>n<48∨57<n) d i.toNat) (fun (i:Int)=>(d.size - i).toNat) ?_ ⟨by omega,by omega,Clr.zero⟩
 rintro i ⟨i0,i1,hc⟩
 refine Cnd.mk (fun h3=>⟨by omega,fun b hb=> ?_⟩) fun h3=> ?_
 ·have e:=y3m i0 (by omega) hb
  have hm:b∈bts d:=e▸j4k (by omega)
  refine Cnd.mk (fun h4=> ?_) fun h4=>⟨by omega,fun b' hb'=> ?_⟩
  ·rwa [j16 (by rw[hd];exact z3o hm (.inl (by omega)))] at h
  rw[hb] at hb';cases hb'
  refine Cnd.mk (fun h5=> ?_) fun h5=>⟨by unfold InI;omega,⟨by omega,by omega,fun j hj hs=> ?_⟩,by omega⟩
  ·rwa [j16 (by rw[hd];exact z3o hm (.inr (by omega)))] at h
  by_cases hji:j<i.toNat
  ·exact hc j hji hs
  ·rw[show j=i.toNat by omega,←e];omega
 have hall:(bts d).all isD=true:=v0p.2 (hc.all (by omega))
 have hall':(bts (digs s)).all isD=true:=by rw[hd];exact hall
 have fin: ¬((digs s).size=0∨((digs s)[0]? =some 48/\s≠ByteArray.mk (Array.mk [48])))-> ¬13<d.size->Lp2 (fun (Qe Jz:Int) w8m=>Cnd (Jz<(↑d.size:Int)) (InI ((10:Int)*Qe)/\((0:Int)<=Jz/\Jz<(↑d.size:Int))/\ ∀b5,d[Jz.toNat]? =some b5->InI (Go.IntKind.u8.wrap ((↑b5.toNat:Int) - (48:Int)))/\InI ((10:Int)*Qe+Go.IntKind.u8.wrap ((↑b5.toNat:Int) - (48:Int)))/\InI (Jz+(1:Int))/\w8m ((10:Int)*Qe+Go.IntKind.u8.wrap ((↑b5.toNat:Int) - (48:Int))) (Jz+(1:Int))) (Cnd ((1099511627776:Int)<Qe) (K (0:Int) (3:Int)) (Cnd ((↑d.size:Int)<(↑s.size:Int)) (InI ((0:Int) - Qe)/\K ((0:Int) - Qe) (0:Int)) (K Qe (0:Int))))) (0:Int) (0:Int):=fun hg h13=>by
  refine Lp2.ind (fun (n j:Int)=>0<=j/\j<=d.size/\n=(valD 0 ((bts d).take j.toNat):Int)) (fun _ (j:Int)=>(d.size - j).toNat) ?_ ⟨by omega,by omega,by simp[valD]⟩
  rintro n j ⟨j0,j1,rfl⟩
  have hb1:valD 0 ((bts d).take j.toNat)<1*10 ^ 13:=by
   have h1:=v8y ((bts d).take j.toNat) 0 (by rw[List.all_eq_true] at hall⊢;exact fun c hc=>hall c (List.mem_of_mem_take hc))
   have h2:((bts d).take j.toNat).length<=13:=by rw[List.length_take,Gw];omega
   have h3:10 ^ ((bts d).take j.toNat).length<=10 ^ 13:=Nat.pow_le_pow_right (by decide) h2
   omega
  refine Cnd.mk (fun hc=>⟨by unfold InI;omega,by omega,fun b hb=> ?_⟩) fun hc=> ?_
  ·have hm:b∈bts d:=List.mem_of_getElem? (q4d.1 hb)
   have hdg:isD b=true:=by rw[List.all_eq_true] at hall;exact hall b hm
   have hdg':=hdg
   simp only[isD,Bool.and_eq_true,decide_eq_true_eq] at hdg'
   rw[v40 hdg]
   refine⟨by unfold InI;omega,by unfold InI;omega,by unfold InI;omega,⟨by omega,by omega,?_⟩,by omega⟩
   rw[show (j+1).toNat=j.toNat+1 by omega,take_snoc (q4d.1 hb),v8x]
   unfold z73;push_cast;omega
  ·have ht:(bts d).take j.toNat=bts d:=List.take_of_length_le (by rw[Gw];omega)
   rw[ht] at hb1⊢
   refine Cnd.mk (fun h1=> ?_) fun h1=> ?_
   ·rwa [j62 hall' hg (by rw[hd];omega)] at h
   ·rw[v2n hall' hg (by rw[hd];omega),hd] at h
    refine Cnd.mk (fun h2=>⟨by unfold InI;omega,?_⟩) fun h2=> ?_
    ·rw[if_pos (by omega)] at h;rwa [Int.zero_sub]
    ·rwa [if_neg (by omega)] at h
 have gone: ∀{b:UInt8},d[0]? =some b->(b≠48∨s=ByteArray.mk (Array.mk [48]))->d.size≠0-> ¬((digs s).size=0∨((digs s)[0]? =some 48/\s≠ByteArray.mk (Array.mk [48]))):=by
  rw[hd]
  rintro b hb h1 h2 (h3|⟨h3,h4⟩)
  ·exact h2 h3
  ·rw[hb] at h3;cases h3;rcases h1 with h1|h1
   ·exact h1 rfl
   ·exact h4 h1
 refine Cnd.mk (fun h4=> ?_) fun h4=> ?_
 ·rwa [j17 hall' (.inl (by rw[hd];exact v87.1 h4))] at h
 have h5:d.size≠0:=fun e=>h4 (v87.2 e)
 refine⟨by omega,fun b hb=> ?_⟩
 have hb:d[0]? =some b:=hb
 refine Cnd.mk (fun h6=> ?_) fun h6=> ?_
 ·have h6:b=48:=by rw[←UInt8.toNat_inj];show b.toNat=48;omega
  refine Cnd.mk (fun h7=> ?_) fun h7=> ?_
  ·refine Cnd.mk (fun h8=> ?_) fun h8=>fin (gone hb (.inr h7) h5) (by omega)
   rwa [j62 hall' (gone hb (.inr h7) h5) (j9x hall' (gone hb (.inr h7) h5) (by rw[hd];omega))] at h
  ·rwa [j17 hall' (.inr ⟨by rw[hd,hb,h6],h7⟩)] at h
 ·have hg:=gone hb (.inl fun e=>h6 (by rw[e];rfl)) h5
  refine Cnd.mk (fun h8=> ?_) fun h8=>fin hg (by omega)
  rwa [j62 hall' hg (j9x hall' hg (by rw[hd];omega))] at h
inductive PtS(s:ByteArray):Int->Int->Int->Int->Int->Prop
 |s0 {o0 o1 o2:Int}:PtS s 0 0 o0 o1 o2
 |s1 {o1 o2:Int} (h0:dot s 0<s.size/\okp (H3 s 0)=true):PtS s ((dot s 0+1:Nat):Int) 1 (H3 s 0).1 o1 o2
 |s2 {o2:Int} (h0:dot s 0<s.size/\okp (H3 s 0)=true) (h1:dot s (dot s 0+1)<s.size/\okp (H3 s (dot s 0+1))=true):PtS s ((dot s (dot s 0+1)+1:Nat):Int) 2 (H3 s 0).1 (H3 s (dot s 0+1)).1 o2
 |s3 {a:Int} (h:w07 s):PtS s a 3 (H3 s 0).1 (H3 s (dot s 0+1)).1 (H3 s (dot s (dot s 0+1)+1)).1
theorem z4c{p:Int×Int}(h: ¬p.2=0∨p.1<0∨999999<p.1):okp p=false:=by
 unfold okp
 rw[Bool.eq_false_iff]
 simp only[ne_eq,Bool.and_eq_true,decide_eq_true_eq]
 omega
theorem w40{p:Int×Int}(h0:p.2=0)(h1: ¬p.1<0)(h2: ¬999999<p.1):okp p=true:=by
 unfold okp
 simp only[Bool.and_eq_true,decide_eq_true_eq]
 omega
theorem PtS.le{s:ByteArray}{a i o0 o1 o2:Int}(h:PtS s a i o0 o1 o2)(hi:i<3):0<=a/\a<=s.size:=by
 cases h with
 |s0=>omega
 |s1 h0=>omega
 |s2 h0 h1=>omega
 |s3=>omega
theorem PtS.no{s:ByteArray}{a i o0 o1 o2:Int}(h:PtS s a i o0 o1 o2)(hi:i<3)(hb:okp (H3 s a.toNat)=false∨(i<2/\ ¬dot s a.toNat<s.size)∨(i=2/\dot s a.toNat<s.size)): ¬w07 s:=by
 rintro⟨⟨v1,v2⟩,⟨v3,v4⟩,v5,v6⟩
 cases h with
 |s0=>
  simp only[Int.toNat_zero] at hb
  rcases hb with hb|hb|hb
  ·rw[hb] at v2;cases v2
  ·exact hb.2 v1
  ·omega
 |s1 h0=>
  simp only[Int.toNat_natCast] at hb
  rcases hb with hb|hb|hb
  ·rw[hb] at v4;cases v4
  ·exact hb.2 v3
  ·omega
 |s2 h0 h1=>
  simp only[Int.toNat_natCast] at hb
  rcases hb with hb|hb|hb
  ·rw[hb] at v6;cases v6
  ·omega
  ·exact v5 hb.2
 |s3=>omega
theorem z97{s:ByteArray}{K:A3->Bool->Prop}(hs:s.size<=1000000000)(h:K (prt s).1 (prt s).2):R9 s K:=by
 unfold R9 z69
 have no: ¬w07 s->K (0,0,0) false:=fun hn=>by rwa [y3l hn] at h
 refine LpH.ind (fun x=>PtS s x.1 x.2.1 x.2.2.1 x.2.2.2.1 x.2.2.2.2.1) (fun x=>(3 - x.2.1).toNat) ?_ .s0
 rintro⟨a,i,o0,o1,o2,x⟩ hp
 simp only at hp⊢
 refine Cnd.mk (fun hc=> ?_) fun hc=> ?_
 ·obtain⟨a0,a1⟩:=hp.le hc
  refine Lp1.ind (fun (j:Int)=>a<=j/\j<=s.size/\ ∀m:Nat,a.toNat<=m->(m:Int)<j->s[m]? ≠some 46) (fun (j:Int)=>(s.size - j).toNat) ?_ ⟨by omega,by omega,fun m h1 h2=>by omega⟩
  rintro j ⟨j0,j1,jn⟩
  have stop: ∀hj:dot s a.toNat=j.toNat,(0<=a/\a<=j/\j<=(s.size:Int))/\Jy (s.extract a.toNat j.toNat) fun Qg Zn=>Cnd (Zn=0) (Cnd (Qg<0) (K (0,0,0) false) (Cnd (999999<Qg) (K (0,0,0) false) (Cnd (decide (i<2)=decide (j<(s.size:Int))) ((0<=i/\i<((3:Nat):Int))/\((True/\(i=0->InI (j+1)/\InI (i+1)/\(PtS s (j+1) (i+1) Qg o1 o2/\(3 - (i+1)).toNat<(3 - i).toNat)))/\(i=1->InI (j+1)/\InI (i+1)/\(PtS s (j+1) (i+1) o0 Qg o2/\(3 - (i+1)).toNat<(3 - i).toNat)))/\(i=2->InI (j+1)/\InI (i+1)/\(PtS s (j+1) (i+1) o0 o1 Qg/\(3 - (i+1)).toNat<(3 - i).toNat))) (K (0,0,0) false)))) (K (0,0,0) false):=fun hj=>by
   refine⟨by omega,j4m (by rw[ByteArray.size_extract];omega) ?_⟩
   have ev:H3 s a.toNat=pnum (s.extract a.toNat j.toNat):=by unfold H3;rw[hj]
   rw[←ev]
   refine Cnd.mk (fun h1=>Cnd.mk (fun h2=>no (hp.no hc (.inl (z4c (by omega))))) fun h2=>Cnd.mk (fun h3=>no (hp.no hc (.inl (z4c (by omega))))) fun h3=>Cnd.mk (fun h4=> ?_) fun h4=>no (hp.no hc ?_)) fun h1=>no (hp.no hc (.inl (z4c (by omega))))
   ·have ok:=w40 h1 h2 h3
    have h4:i<2↔j<(s.size:Int):=by simpa using h4
    have ej:j+1=((dot s a.toNat+1:Nat):Int):=by omega
    have hin:InI (j+1):=by unfold InI;omega
    have i0:0<=i:=by cases hp<;>omega
    have hin2:InI (i+1):=by unfold InI;omega
    cases hp with
    |s0=>
     refine⟨by omega,⟨⟨trivial,fun _=>⟨hin,hin2,?_,by omega⟩⟩,fun e=>by omega⟩,fun e=>by omega⟩
     rw[ej];exact .s1 ⟨by simp only[Int.toNat_zero] at hj⊢;omega,ok⟩
    |s1 h0=>
     refine⟨by omega,⟨⟨trivial,fun e=>by omega⟩,fun _=>⟨hin,hin2,?_,by omega⟩⟩,fun e=>by omega⟩
     rw[ej];simp only[Int.toNat_natCast] at hj ok⊢;exact .s2 h0 ⟨by omega,ok⟩
    |s2 h0 h1'=>
     refine⟨by omega,⟨⟨trivial,fun e=>by omega⟩,fun e=>by omega⟩,fun _=>⟨hin,hin2,?_,by omega⟩⟩
     simp only[Int.toNat_natCast] at hj ok⊢;exact .s3 ⟨h0,h1',by omega,ok⟩
    |s3=>omega
   ·have h4: ¬(i<2↔j<(s.size:Int)):=by simpa using h4
    have i0:0<=i:=by cases hp<;>omega
    rw[hj]
    by_cases h5:i<2
    ·exact .inr (.inl ⟨h5,fun h6=>h4 ⟨fun _=>by omega,fun _=>h5⟩⟩)
    ·refine .inr (.inr ⟨by omega,?_⟩)
     by_cases h6:j.toNat<s.size
     ·exact h6
     ·exact absurd ⟨fun h7=>absurd h7 h5,fun h7=>by omega⟩ h4
  refine Cnd.mk (fun hl=>⟨by omega,fun b hb=>Cnd.mk (fun hd=> ?_) fun hd=>⟨by unfold InI;omega,⟨by omega,by omega,fun m h1 h2=> ?_⟩,by omega⟩⟩) fun hl=> ?_
  ·have hb46:b=46:=by rw[←UInt8.toNat_inj];show b.toNat=46;omega
   exact stop (y8i (by omega) (hb46▸hb) fun m h1 h2=>jn m h1 (by omega))
  ·by_cases hm:(m:Int)<j
   ·exact jn m h1 hm
   ·rw[show m=j.toNat by omega,hb];intro e;cases e;exact hd rfl
  ·exact stop ((y5y (by omega) fun m h1 h2=>jn m h1 (by omega)).trans (by omega))
 ·cases hp with
  |s0=>omega
  |s1=>omega
  |s2=>omega
  |s3 hv=>rwa [v83 hv] at h
end Go.En
end
noncomputable section
set_option maxRecDepth 100000
namespace Go.En
open Go Go.Fl Go.Fl.Lk Go.Fx Go.Sg
theorem Cnd.ite{α:Type}{c:Prop}[Decidable c]{A B:α}{K:α->Prop}(h:K (if c then A else B)){X Y:Prop}(hx:c->K A->X)(hy: ¬c->K B->Y):Cnd c X Y:=⟨fun hc=>hx hc (by rwa [if_pos hc] at h),fun hc=>hy hc (by rwa [if_neg hc] at h)⟩
theorem j18{s:ByteArray}{K:Bool->Prop}(h:K (vld s)):q5j s K:=by
 unfold q5j z5d
 refine Cnd.mk (fun h1=>by rwa [j5b (.inl (by omega))] at h) fun h1=>v88 (by omega) (Cnd.mk (fun h2=> ?_) fun h2=>by rwa [j5b (.inr (.inl (by simpa using h2)))] at h)
 refine Lp1.ind (fun (x:ByteArray×Nat)=>x.1=s/\Clr (fun n=>n<32∨n=127) s x.2) (fun x=>s.size - x.2) ?_ ⟨rfl,Clr.zero⟩
 rintro⟨s',p⟩ ⟨rfl,hc⟩
 dsimp only at hc⊢
 refine Cnd.mk (fun h3=>Cnd.mk (fun h4=> ?_) fun h4=>Cnd.mk (fun h5=> ?_) fun h5=>⟨⟨rfl,hc.step badP (fun e=>by rcases e with e|e<;>omega)⟩,by have:=v8w s' p;omega⟩) fun h3=>by rwa [v89 (by omega) h2 (hc.all (by omega))] at h
 ·rwa [j5b (.inr (.inr ⟨_,j4k h3,j61 badP (.inl (by omega))⟩))] at h
 ·rwa [j5b (.inr (.inr ⟨_,j4k h3,j61 badP (.inr (by omega))⟩))] at h
theorem w41{s t:ByteArray}:bts s=bts t↔s=t:=⟨fun h=>v1d h,fun h=>by rw[h]⟩
def wth(s t:ByteArray)(i:Int):Bool:=decide (0<=i/\i+t.size<=s.size/\s.extract i.toNat (i+t.size).toNat=t)
theorem v0q{s t:ByteArray}{i:Int}{p:Prop}[Decidable p](h0:0<=i)(h1:i+t.size<=s.size)(hp:p↔s.extract i.toNat (i+t.size).toNat=t):wth s t i=decide p:=by
 unfold wth
 rw[decide_eq_decide,hp]
 exact⟨fun h=>h.2.2,fun h=>⟨h0,h1,h⟩⟩
theorem v2o{s t:ByteArray}{i:Int}(h: ¬(0<=i/\i+t.size<=s.size)):wth s t i=false:=by
 unfold wth
 rw[decide_eq_false_iff_not]
 exact fun k=>h ⟨k.1,k.2.1⟩
theorem j9y{s t:ByteArray}{i:Int}{K:Bool->Prop}(hi:i<=4000000000)(ht:t.size<=4000000000)(h:K (wth s t i)):Ry s t i K:=by
 unfold Ry
 refine Cnd.mk (fun h0=>⟨by unfold InI;omega,Cnd.mk (fun h1=>⟨by unfold InI;omega,⟨by omega,by omega,by omega⟩,?_⟩) fun h1=> ?_⟩) fun h0=> ?_
 ·rwa [v0q h0 h1 Iff.rfl] at h
 ·rwa [v2o (by omega)] at h
 ·rwa [v2o (by omega)] at h
theorem w72{s t:ByteArray}{K:Bool->Prop}(h:K (wth s t 0)):Vg s t K:=by
 unfold Vg q0z Zo
 refine Cnd.mk (fun h0=>⟨by omega,?_⟩) fun h0=> ?_
 ·rwa [v0q (by omega) (by omega) (p:=s.extract (Int.toNat 0) (t.size:Int).toNat=t) (by rw[Int.zero_add])] at h
 ·rwa [v2o (by omega)] at h
theorem w73{s t:ByteArray}{K:Bool->Prop}(hs:s.size<=4000000000)(ht:t.size<=4000000000)(h:K (wth s t ((s.size:Int) - t.size))):Vi s t K:=by
 unfold Vi q00 Wq
 refine Cnd.mk (fun h0=>⟨by unfold InI;omega,by omega,?_⟩) fun h0=> ?_
 ·rwa [v0q (by omega) (by omega) (p:=s.extract ((s.size:Int) - t.size).toNat (s.size:Int).toNat=t) (by rw[show (s.size:Int) - t.size+t.size=s.size by omega])] at h
 ·rwa [v2o (by omega)] at h
theorem j19{s:ByteArray}{i n:Nat}:bts (s.extract i (i+n))=((bts s).drop i).take n:=by
 show (s.extract i (i+n)).data.toList=_
 rw[ByteArray.data_extract,Array.toList_extract,List.extract_eq_take_drop]
 rw[show i+n - i=n by omega]
theorem v9a{s:ByteArray}{K:ByteArray->Bool->Prop}(h:K (digs s) (decide (s[0]? =some 45))):Vk s (ByteArray.mk (Array.mk [45])) K:=by
 unfold Vk q01 Wr Gk Zo
 have e1:(ByteArray.mk (Array.mk [45])).size=1:=rfl
 rw[e1]
 refine Cnd.mk (fun h0=>⟨by omega,Cnd.mk (fun h1=>⟨by omega,?_⟩) fun h1=> ?_⟩) fun h0=>Cnd.mk (fun h1=>by cases h1) fun _=> ?_
 ·have h1:=of_decide_eq_true h1
  have hm:s[0]? =some 45:=by
   have h2:=congrArg bts h1
   rw[show s.extract (Int.toNat 0) ((1:Nat):Int).toNat=s.extract 0 (0+1) from rfl,j19] at h2
   rw[q4d]
   have h3:((bts s).drop 0).take 1=[45]:=h2
   rw[List.drop_zero] at h3
   cases hb:bts s with
   |nil=>rw[hb] at h3;cases h3
   |cons c l=>rw[hb] at h3;simp at h3;rw[h3];rfl
  rw[decide_eq_true hm] at h
  unfold digs at h;rw[if_pos hm] at h
  exact h
 ·have hm: ¬s[0]? =some 45:=by
   intro hm
   refine h1 (decide_eq_true ?_)
   rw[←w41,show s.extract (Int.toNat 0) ((1:Nat):Int).toNat=s.extract 0 (0+1) from rfl,j19,(j4l hm).1]
   rfl
  rw[decide_eq_false hm,q89 hm] at h
  exact h
 ·have hm: ¬s[0]? =some 45:=fun e=>by have:=(List.getElem?_eq_some_iff.1 (q4d.1 e)).1;rw[Gw] at this;omega
  rw[decide_eq_false hm,q89 hm] at h
  exact h
theorem w74{s:ByteArray}(h:(digs s)[0]? =some 48)(hs:s≠ByteArray.mk (Array.mk [48])):pnum s=(0,1):=by
 cases ha:(bts (digs s)).all isD with
 |false=>exact j16 ha
 |true=>exact j17 ha (.inr ⟨h,hs⟩)
theorem q05{s:ByteArray}{K:Int->Int->Prop}(hs:s.size<=1000000000)(h:K (pnum s).1 (pnum s).2):V5 s K:=by
 unfold V5 q2g
 refine v9a ?_
 have fin: ¬((digs s).size=0∨((digs s)[0]? =some 48/\s≠ByteArray.mk (Array.mk [48])))->Lp1 (fun (Qf:ByteArray×Nat) j0e=>Cnd (Qf.snd<Qf.fst.size) (Cnd (((Go.Utf8.decode Qf.fst Qf.snd).fst:Int)<48) (K 0 1) (Cnd (57<((Go.Utf8.decode Qf.fst Qf.snd).fst:Int)) (K 0 1) (j0e (Qf.fst,Qf.snd+(Go.Utf8.decode Qf.fst Qf.snd).snd)))) (B7 s fun Qe Jz=>Cnd ((match (Qe,Jz,()).snd.fst with|true=>false|false=>true)=true) (K 0 3) (Cnd (Qe< -1099511627776) (K 0 3) (Cnd (1099511627776<Qe) (K 0 3) (K Qe 0))))) (digs s,0):=fun hg=>by
  refine Lp1.ind (fun (x:ByteArray×Nat)=>x.1=digs s/\Clr (fun n=>n<48∨57<n) (digs s) x.2) (fun x=>(digs s).size - x.2) ?_ ⟨rfl,Clr.zero⟩
  rintro⟨d,p⟩ ⟨hd,hc⟩
  dsimp only at hd hc⊢
  subst hd
  refine Cnd.mk (fun h3=>Cnd.mk (fun h4=> ?_) fun h4=>Cnd.mk (fun h5=> ?_) fun h5=>⟨⟨rfl,hc.step digP (fun e=>by rcases e with e|e<;>omega)⟩,by have:=v8w (digs s) p;omega⟩) fun h3=> ?_
  ·rwa [j16 (z3o (j4k h3) (j61 digP (.inl (by omega))))] at h
  ·rwa [j16 (z3o (j4k h3) (j61 digP (.inr (by omega))))] at h
  have hall:=v0p.2 (hc.all (by omega))
  refine⟨by omega,?_⟩
  unfold y1m
  rw[v0n hall fun e=>hg (.inl e)]
  have hsz:(digs s).size<s.size↔s[0]? =some 45:=by
   by_cases hm:s[0]? =some 45
   ·have:=(j4l hm).2;exact⟨fun _=>hm,fun _=>by omega⟩
   ·rw[q89 hm];exact⟨fun e=>by omega,fun e=>absurd e hm⟩
  by_cases hv:1099511627776<valD 0 (bts (digs s))
  ·rw[j62 hall hg hv] at h
   by_cases hl:valD 0 (bts (digs s))<=(if s[0]? =some 45 then 9223372036854775808 else 9223372036854775807)
   ·rw[if_pos hl]
    dsimp only
    by_cases hm:s[0]? =some 45
    ·rw[if_pos hm]
     exact Cnd.mk (fun e=>by cases e) fun _=>Cnd.mk (fun _=>h) fun e=>by omega
    ·rw[if_neg hm]
     exact Cnd.mk (fun e=>by cases e) fun _=>Cnd.mk (fun _=>h) fun _=>Cnd.mk (fun _=>h) fun e=>by omega
   ·rw[if_neg hl]
    exact Cnd.mk (fun _=>h) fun e=>absurd rfl e
  ·rw[v2n hall hg hv] at h
   rw[if_pos (by split<;>omega)]
   dsimp only
   by_cases hm:s[0]? =some 45
   ·rw[if_pos hm];rw[if_pos (hsz.2 hm)] at h
    exact Cnd.mk (fun e=>by cases e) fun _=>Cnd.mk (fun e=>by omega) fun _=>Cnd.mk (fun e=>by omega) fun _=>h
   ·rw[if_neg hm];rw[if_neg (fun e=>hm (hsz.1 e))] at h
    exact Cnd.mk (fun e=>by cases e) fun _=>Cnd.mk (fun e=>by omega) fun _=>Cnd.mk (fun e=>by omega) fun _=>h
 refine Cnd.mk (fun h0=> ?_) fun h0=>⟨⟨by omega,?_⟩,fun b hb=> ?_⟩
 ·have hz:(digs s).size=0:=v87.1 h0
  have ha:(bts (digs s)).all isD=true:=by
   have:bts (digs s)=[]:=List.length_eq_zero_iff.1 hz
   rw[this];rfl
  rwa [j17 ha (.inl hz)] at h
 ·refine Int.not_le.1 fun hn=>h0 (v87.2 (by omega))
 have hb:(digs s)[0]? =some b:=hb
 have hne:(digs s).size≠0:=fun e=>h0 (v87.2 e)
 refine Cnd.mk (fun h1=> ?_) fun h1=>fin ?_
 ·have hb48:b=48:=by rw[←UInt8.toNat_inj];show b.toNat=48;omega
  subst hb48
  refine Cnd.mk (fun h2=> ?_) fun h2=>Cnd.mk (fun h3=> ?_) fun h3=>fin ?_
  ·rwa [w74 hb (by rintro rfl;revert h2;decide)] at h
  ·have h3:=of_decide_eq_true h3
   rwa [w74 hb (by rintro rfl;revert h3;decide)] at h
  ·have hm: ¬s[0]? =some 45:=fun e=>h3 (decide_eq_true e)
   rw[q89 hm] at hb h2 hne⊢
   rintro (h4|⟨_,h4⟩)
   ·exact hne h4
   ·refine h4 ?_
    rw[←w41]
    have hl:(bts s).length=1:=by rw[Gw];omega
    rw[q4d] at hb
    cases hbs:bts s with
    |nil=>rw[hbs] at hl;cases hl
    |cons c l=>
     rw[hbs] at hb hl
     have:l=[]:=List.length_eq_zero_iff.1 (by simpa using hl)
     subst this
     simp at hb;rw[hb]
 ·rintro (h4|⟨h4,_⟩)
  ·exact hne h4
  ·rw[hb] at h4;cases h4;exact h1 rfl
end Go.En
end
noncomputable section
set_option maxRecDepth 100000
namespace Go.En
open Go Go.Fl Go.Fl.Lk Go.Fx Go.Sg
def shp(v:Val):Bool:=
 if v.1=1∨v.1=2 then decide (v.3=ByteArray.mk (Array.mk [])) && decide ((v.4.length:Int)=0)
 else if v.1=3∨v.1=4 then decide (v.2=0) && decide ((v.4.length:Int)=0)
 else decide (v.2=0) && decide (v.3=ByteArray.mk (Array.mk []))
theorem v0r{v:Val}{K:Bool->Prop}(h0: ¬v.1<1)(h5: ¬5<v.1)(h:K (shp v)):q3o v K:=by
 unfold q3o
 unfold shp at h
 have hk:v.1=1∨v.1=2∨v.1=3∨v.1=4∨v.1=5:=by omega
 rcases hk with e|e|e|e|e<;>rw[e] at h⊢ <;>simp only[show ¬(1:Int)=3 by decide,show ¬(1:Int)=5 by decide,show ¬(1:Int)=4 by decide,show ¬(1:Int)=2 by decide,show ¬(2:Int)=1 by decide,show ¬(2:Int)=3 by decide,show ¬(2:Int)=4 by decide,show ¬(2:Int)=5 by decide,show ¬(3:Int)=1 by decide,show ¬(3:Int)=2 by decide,show ¬(3:Int)=4 by decide,show ¬(3:Int)=5 by decide,show ¬(4:Int)=1 by decide,show ¬(4:Int)=2 by decide,show ¬(4:Int)=3 by decide,show ¬(4:Int)=5 by decide,show ¬(5:Int)=1 by decide,show ¬(5:Int)=2 by decide,show ¬(5:Int)=3 by decide,show ¬(5:Int)=4 by decide,Cnd,true_or,or_true,or_self,if_true,if_false,true_implies,false_implies,and_true,true_and,not_true,not_false_eq_true] at h⊢
 ·refine⟨fun h1 _=> ?_,fun h1=> ?_⟩
  ·rwa [decide_eq_true h1,Bool.true_and] at h
  ·rwa [decide_eq_false h1,Bool.false_and] at h
 ·refine⟨fun h1 _=> ?_,fun h1=> ?_⟩
  ·rwa [decide_eq_true h1,Bool.true_and] at h
  ·rwa [decide_eq_false h1,Bool.false_and] at h
 ·refine⟨fun h1 _=> ?_,fun h1=> ?_⟩
  ·rwa [decide_eq_true h1,Bool.true_and] at h
  ·rwa [decide_eq_false h1,Bool.false_and] at h
 ·refine⟨fun h1 _=> ?_,fun h1=> ?_⟩
  ·rwa [decide_eq_true h1,Bool.true_and] at h
  ·rwa [decide_eq_false h1,Bool.false_and] at h
 ·refine⟨fun h1=>⟨fun h2=> ?_,fun h2=> ?_⟩,fun h1=> ?_⟩
  ·rwa [decide_eq_true h1,decide_eq_true h2] at h
  ·rwa [decide_eq_true h1,decide_eq_false h2] at h
  ·rwa [decide_eq_false h1,Bool.false_and] at h
theorem w08{v:Val}{K:Bool->Prop}(h:K (shp v)):q2e v K:=by
 unfold q2e
 unfold shp at h
 refine Jn1.mk (fun b=>b=decide (v.1=1∨v.1=2)) ?_ ?_
 ·refine Cnd.mk (fun e=> ?_) fun e=> ?_
  ·exact decide_eq_decide.2 ⟨fun e=> .inl e,fun _=>e⟩
  ·exact decide_eq_decide.2 ⟨fun e=> .inr e,fun k=>k.resolve_left e⟩
 rintro _ rfl
 refine Cnd.mk (fun e=> ?_) fun e=> ?_
 ·have e:=of_decide_eq_true e
  rw[if_pos e] at h
  refine Cnd.mk (fun h1 _=> ?_) fun h1=> ?_
  ·rwa [decide_eq_true h1,Bool.true_and] at h
  ·rwa [decide_eq_false h1,Bool.false_and] at h
 have e: ¬(v.1=1∨v.1=2):=fun k=>e (decide_eq_true k)
 rw[if_neg e] at h
 refine Jn1.mk (fun b=>b=decide (v.1=3∨v.1=4)) ?_ ?_
 ·refine Cnd.mk (fun e=> ?_) fun e=> ?_
  ·exact decide_eq_decide.2 ⟨fun e=> .inl e,fun _=>e⟩
  ·exact decide_eq_decide.2 ⟨fun e=> .inr e,fun k=>k.resolve_left e⟩
 rintro _ rfl
 refine Cnd.mk (fun e=> ?_) fun e=> ?_
 ·have e:=of_decide_eq_true e
  rw[if_pos e] at h
  refine Cnd.mk (fun h1 _=> ?_) fun h1=> ?_
  ·rwa [decide_eq_true h1,Bool.true_and] at h
  ·rwa [decide_eq_false h1,Bool.false_and] at h
 have e: ¬(v.1=3∨v.1=4):=fun k=>e (decide_eq_true k)
 rw[if_neg e] at h
 refine Cnd.mk (fun h1=> ?_) fun h1=> ?_
 ·rwa [decide_eq_true h1,Bool.true_and] at h
 ·rwa [decide_eq_false h1,Bool.false_and] at h
def Chn(l:List ByteArray):Prop:= ∀(i:Nat) x y,l[i]? =some x->l[i+1]? =some y->blt x y
open Classical in
def lchk(l:List ByteArray):Int:=
 if 20<(l.length:Int) then 5 else if ∃x∈l,vld x=false then 2 else if Chn l then 0 else 9
theorem v2p{l:List ByteArray}{x:ByteArray}(h: ¬20<(l.length:Int))(hx:x∈l)(hv: ¬vld x=true):lchk l=2:=by
 unfold lchk;rw[if_neg h,if_pos ⟨x,hx,by simpa using hv⟩]
theorem v2q{l:List ByteArray}(h: ¬20<(l.length:Int))(hx: ∀x∈l,vld x=true)(hn: ¬Chn l):lchk l=9:=by
 unfold lchk;rw[if_neg h,if_neg (fun ⟨x,h1,h2⟩=>by rw[hx x h1] at h2;cases h2),if_neg hn]
theorem v9b{l:List ByteArray}(h: ¬20<(l.length:Int))(hx: ∀x∈l,vld x=true)(hn:Chn l):lchk l=0:=by
 unfold lchk;rw[if_neg h,if_neg (fun ⟨x,h1,h2⟩=>by rw[hx x h1] at h2;cases h2),if_pos hn]
theorem v41{l:List ByteArray}{K:Int->Prop}(h:K (lchk l)):q75 l K:=by
 unfold q75 j03
 intro _
 refine Cnd.mk (fun h1=>by unfold lchk at h;rwa [if_pos h1] at h) fun h1=> ?_
 refine Lp1.ind (fun (i:Int)=>0<=i/\i<=l.length/\ ∀x∈l.take i.toNat,vld x=true) (fun (i:Int)=>(l.length - i).toNat) ?_ ⟨by omega,by omega,by simp⟩
 rintro i ⟨i0,i1,hv⟩ _
 refine Cnd.mk (fun hc=>⟨by omega,fun y hy=>j9w (Cnd.mk (fun hy2=>⟨by unfold InI;omega,⟨by omega,by omega,?_⟩,by omega⟩) fun hy2=>by rwa [v2p h1 (getm hy) hy2] at h)⟩) fun hc=> ?_
 ·rw[show (i+1).toNat=i.toNat+1 by omega,List.take_add_one,hy]
  exact Zr hv hy2
 rw[List.take_of_length_le (by omega)] at hv
 refine Lp1.ind (fun (i:Int)=>1<=i/\ ∀(j:Nat) x y,(j:Int)+1<i->l[j]? =some x->l[j+1]? =some y->blt x y) (fun (i:Int)=>(l.length - i).toNat) ?_ ⟨by omega,fun j x y hj=>by omega⟩
 rintro i ⟨i0,hb⟩ _
 refine Cnd.mk (fun hc=>⟨by omega,fun y hy=>⟨by unfold InI;omega,by omega,fun x hx=>Cnd.mk (fun h2=>⟨by unfold InI;omega,⟨by omega,fun j a b hj ha hb'=> ?_⟩,by omega⟩) fun h2=> ?_⟩⟩) fun hc=> ?_
 ·by_cases hji:(j:Int)+1<i
  ·exact hb j a b hji ha hb'
  ·rw[show j=(i - 1).toNat by omega] at ha;rw[show j+1=i.toNat by omega] at hb'
   rw[ha] at hx;rw[hb'] at hy;cases hx;cases hy;exact h2
 ·rwa [v2q h1 hv fun hn=>h2 (hn (i - 1).toNat x y hx (by rw[show (i - 1).toNat+1=i.toNat by omega];exact hy))] at h
 ·rwa [v9b h1 hv fun j x y hx hy=>hb j x y (by have:=(List.getElem?_eq_some_iff.1 hy).1;omega) hx hy] at h
def vchk(v:Val):Int:=
 if v.1<1 then 7 else if 5<v.1 then 7 else if shp v=true then
  (if v.1=1 then (if v.2=0 then 0 else if v.2=1 then 0 else 3)
  else if v.1=2 then (if v.2< -1099511627776 then 3 else if 1099511627776<v.2 then 3 else 0)
  else if v.1=3 then (if vld v.3=true then 0 else 2)
  else if v.1=4 then (if (prt v.3).2=true then 0 else 1)
  else if v.1=5 then lchk v.4 else 0) else 15
theorem j9z{v:Val}{K:Int->Prop}(hv:v.3.size<=1000000000)(h:K (vchk v)):Ux v K:=by
 unfold Ux z7a
 unfold vchk at h
 refine Cnd.ite h (fun _ h=>h) fun h0 h=>Cnd.ite h (fun _ h=>h) fun h5 h=>v0r h0 h5 (Cnd.ite h (fun _ h=> ?_) fun _ h=>h)
 refine Cnd.ite h (fun _ h=>Cnd.ite h (fun _ h=>h) fun _ h=>Cnd.ite h (fun _ h=>h) fun _ h=>h) fun _ h=> ?_
 refine Cnd.ite h (fun _ h=>Cnd.ite h (fun _ h=>h) fun _ h=>Cnd.ite h (fun _ h=>h) fun _ h=>h) fun _ h=> ?_
 refine Cnd.ite h (fun _ h=>j9w (Cnd.ite h (fun _ h=>h) fun _ h=>h)) fun _ h=> ?_
 refine Cnd.ite h (fun _ h=>z97 hv (Cnd.ite h (fun _ h=>h) fun _ h=>h)) fun _ h=> ?_
 exact Cnd.ite h (fun _ h=>v41 h) fun _ h=>h
inductive VpS(s:ByteArray):Int->Int->Int->Int->Prop
 |s0 {o0 o1 o2:Int}:VpS s 0 o0 o1 o2
 |s1 {o1 o2:Int} (h0:okp (H3 s 0)=true):VpS s 1 (H3 s 0).1 o1 o2
 |s2 {o2:Int} (h0:okp (H3 s 0)=true) (h1:okp (H3 s (dot s 0+1))=true):VpS s 2 (H3 s 0).1 (H3 s (dot s 0+1)).1 o2
 |s3 (h0:okp (H3 s 0)=true) (h1:okp (H3 s (dot s 0+1))=true) (h2:okp (H3 s (dot s (dot s 0+1)+1))=true):VpS s 3 (H3 s 0).1 (H3 s (dot s 0+1)).1 (H3 s (dot s (dot s 0+1)+1)).1
theorem j4n{s:ByteArray}{i j:Nat}:(s.extract i j).size<=s.size:=by rw[ByteArray.size_extract];omega
theorem z0t{s:ByteArray}{K:A3->Bool->Prop}(hs:s.size<=1000000000)(h:K (prt s).1 (prt s).2):Gm s K:=by
 unfold Gm z2n
 have no: ¬w07 s->K (0,0,0) false:=fun hn=>by rwa [y3l hn] at h
 refine⟨rfl,by omega,fun _=>Cnd.mk (fun h3 _=> ?_) fun h3=>no fun hv=>h3 ?_⟩
 ·have hd:=j9v.1 (show (q1a s dotB).length=3 from (by have h3':((q1a s dotB).length:Int)=3:=h3;omega))
  rw[v0o hd]
  refine LpH.ind (fun x=>VpS s x.1 x.2.1 x.2.2.1 x.2.2.2.1) (fun x=>(3 - x.1).toNat) ?_ .s0
  rintro⟨i,o0,o1,o2,x⟩ hp
  simp only[CAt,At,List.length_cons,List.length_nil] at hp⊢
  cases hp with
  |s0=>
   refine Cnd.mk (fun _=>⟨by omega,fun y hy=> ?_⟩) fun hc=>by omega
   cases hy
   refine q05 (Nat.le_trans j4n hs) ?_
   rw[show pnum (s.extract 0 (dot s 0))=H3 s 0 from rfl]
   refine Cnd.mk (fun h1=>Cnd.mk (fun h2=>no fun hv=> ?_) fun h2=>Cnd.mk (fun h3=>no fun hv=> ?_) fun h3=>⟨by omega,⟨⟨trivial,fun _=>⟨by unfold InI;omega,.s1 (w40 h1 h2 h3),by omega⟩⟩,fun e=>by omega⟩,fun e=>by omega⟩) fun h1=>no fun hv=> ?_
   ·have:=hv.1.2;rw[z4c (by omega)] at this;cases this
   ·have:=hv.1.2;rw[z4c (by omega)] at this;cases this
   ·have:=hv.1.2;rw[z4c (by omega)] at this;cases this
  |s1 h0=>
   refine Cnd.mk (fun _=>⟨by omega,fun y hy=> ?_⟩) fun hc=>by omega
   cases hy
   refine q05 (Nat.le_trans j4n hs) ?_
   rw[show pnum (s.extract (dot s 0+1) (dot s (dot s 0+1)))=H3 s (dot s 0+1) from rfl]
   refine Cnd.mk (fun h1=>Cnd.mk (fun h2=>no fun hv=> ?_) fun h2=>Cnd.mk (fun h3=>no fun hv=> ?_) fun h3=>⟨by omega,⟨⟨trivial,fun e=>by omega⟩,fun _=>⟨by unfold InI;omega,.s2 h0 (w40 h1 h2 h3),by omega⟩⟩,fun e=>by omega⟩) fun h1=>no fun hv=> ?_
   ·have:=hv.2.1.2;rw[z4c (by omega)] at this;cases this
   ·have:=hv.2.1.2;rw[z4c (by omega)] at this;cases this
   ·have:=hv.2.1.2;rw[z4c (by omega)] at this;cases this
  |s2 h0 h0'=>
   refine Cnd.mk (fun _=>⟨by omega,fun y hy=> ?_⟩) fun hc=>by omega
   cases hy
   refine q05 (Nat.le_trans j4n hs) ?_
   rw[show pnum (s.extract (dot s (dot s 0+1)+1) (dot s (dot s (dot s 0+1)+1)))=H3 s (dot s (dot s 0+1)+1) from rfl]
   refine Cnd.mk (fun h1=>Cnd.mk (fun h2=>no fun hv=> ?_) fun h2=>Cnd.mk (fun h3=>no fun hv=> ?_) fun h3=>⟨by omega,⟨⟨trivial,fun e=>by omega⟩,fun e=>by omega⟩,fun _=>⟨by unfold InI;omega,.s3 h0 h0' (w40 h1 h2 h3),by omega⟩⟩) fun h1=>no fun hv=> ?_
   ·have:=hv.2.2.2;rw[z4c (by omega)] at this;cases this
   ·have:=hv.2.2.2;rw[z4c (by omega)] at this;cases this
   ·have:=hv.2.2.2;rw[z4c (by omega)] at this;cases this
  |s3 h0 h1 h2=>
   refine Cnd.mk (fun hc=>by omega) fun hc=> ?_
   rwa [v83 (show w07 s from ⟨⟨hd.1,h0⟩,⟨hd.2.1,h1⟩,hd.2.2,h2⟩)] at h
 ·have h3':(q1a s dotB).length=3:=j9v.2 ⟨hv.1.1,hv.2.1.1,hv.2.2.1⟩
  exact congrArg (fun n:Nat=>(n:Int)) h3'
theorem z8m{v:Val}{K:Int->Prop}(hv:v.3.size<=1000000000)(h:K (vchk v)):q2i v K:=by
 unfold q2i z2o
 unfold vchk at h
 refine Cnd.ite h (fun _ h=>h) fun h0 h=>Cnd.ite h (fun _ h=>h) fun h5 h=>w08 (Cnd.ite h (fun _ h=> ?_) fun _ h=>h)
 refine Cnd.ite h (fun _ h=>Cnd.ite h (fun _ h=>h) fun _ h=>Cnd.ite h (fun _ h=>h) fun _ h=>h) fun _ h=> ?_
 refine Cnd.ite h (fun _ h=>Cnd.ite h (fun _ h=>h) fun _ h=>Cnd.ite h (fun _ h=>h) fun _ h=>h) fun _ h=> ?_
 refine Cnd.ite h (fun _ h=>j18 (Cnd.ite h (fun _ h=>h) fun _ h=>h)) fun _ h=> ?_
 refine Cnd.ite h (fun _ h=>z0t hv (Cnd.ite h (fun _ h=>h) fun _ h=>h)) fun _ h=> ?_
 refine Cnd.ite h (fun _ h=> ?_) fun _ h=>h
 generalize v.4=l at h⊢
 intro _
 refine Cnd.mk (fun h1=>by unfold lchk at h;rwa [if_pos h1] at h) fun h1 _=> ?_
 refine Lp1.ind (fun (i:Int)=>0<=i/\i<=l.length/\ ∀x∈l.take i.toNat,vld x=true) (fun (i:Int)=>(l.length - i).toNat) ?_ ⟨by omega,by omega,by simp⟩
 rintro i ⟨i0,i1,hv⟩
 refine Cnd.mk (fun hc=>⟨by omega,fun y hy=>j18 (Cnd.mk (fun hy2=>⟨by unfold InI;omega,⟨by omega,by omega,?_⟩,by omega⟩) fun hy2=>by rwa [v2p h1 (getm hy) hy2] at h)⟩) fun hc _=> ?_
 ·rw[show (i+1).toNat=i.toNat+1 by omega,List.take_add_one,hy]
  exact Zr hv hy2
 rw[List.take_of_length_le (by omega)] at hv
 refine Lp1.ind (fun (i:Int)=>0<=i/\ ∀(j:Nat) x y,(j:Int)+1<i->l[j]? =some x->l[j+1]? =some y->blt x y) (fun (i:Int)=>(l.length - i).toNat) ?_ ⟨by omega,fun j x y hj=>by omega⟩
 rintro i ⟨i0,hb⟩
 refine Cnd.mk (fun hc=>Cnd.mk (fun hp=>⟨by unfold InI;omega,by omega,fun x hx=>⟨by omega,fun y hy=>Cnd.mk (fun h2=>⟨by unfold InI;omega,⟨by omega,fun j a b hj ha hb'=> ?_⟩,by omega⟩) fun h2=> ?_⟩⟩) fun hp=>⟨by unfold InI;omega,⟨by omega,fun j a b hj=>by omega⟩,by omega⟩) fun hc=> ?_
 ·by_cases hji:(j:Int)+1<i
  ·exact hb j a b hji ha hb'
  ·rw[show j=(i - 1).toNat by omega] at ha;rw[show j+1=i.toNat by omega] at hb'
   rw[ha] at hx;rw[hb'] at hy;cases hx;cases hy;exact h2
 ·rwa [v2q h1 hv fun hn=>h2 (hn (i - 1).toNat x y hx (by rw[show (i - 1).toNat+1=i.toNat by omega];exact hy))] at h
 ·rwa [v9b h1 hv fun j x y hx hy=>hb j x y (by have:=(List.getElem?_eq_some_iff.1 hy).1;omega) hx hy] at h
def sg(l g:Prop)[Decidable l][Decidable g]:Int:=if l then -1 else if g then 1 else 0
def cmp3(x y:Int×Int×Int):Int:=
 if x.1=y.1 then (if x.2.1=y.2.1 then (if x.2.2=y.2.2 then 0 else sg (x.2.2<y.2.2) True) else sg (x.2.1<y.2.1) True) else sg (x.1<y.1) True
def vcmp(a b:Val):Int×Int:=
 if vchk a=0 then (if vchk b=0 then (if a.1=b.1 then (if a.1=1 then (0,8) else if a.1=5 then (0,8) else if a.1=2 then (sg (a.2<b.2) (b.2<a.2),0) else if a.1=3 then (sg (blt a.3 b.3) (blt b.3 a.3),0) else (cmp3 (prt a.3).1 (prt b.3).1,0)) else (0,8)) else (0,vchk b)) else (0,vchk a)
theorem w2q{l g:Prop}[Decidable l][Decidable g]{K:Int->Prop}(h:K (sg l g)):q8u (decide l) (decide g) K:=by
 unfold q8u
 unfold sg at h
 exact Cnd.ite (c:=l) h (fun _ h=>h) (fun _ h=>Cnd.ite (c:=g) h (fun _ h=>h) fun _ h=>h)|>fun k=>⟨fun e=>k.1 (of_decide_eq_true e),fun e=>⟨fun e2=>(k.2 fun e3=>e (decide_eq_true e3)).1 (of_decide_eq_true e2),fun e2=>(k.2 fun e3=>e (decide_eq_true e3)).2 fun e3=>e2 (decide_eq_true e3)⟩⟩
theorem z6g{l:Prop}[Decidable l]{K:Int->Prop}(h:K (sg l True)):q8u (decide l) true K:=by
 unfold q8u
 unfold sg at h
 refine Cnd.mk (fun e=> ?_) fun e=>Cnd.mk (fun _=> ?_) fun e=>absurd rfl e
 ·rwa [if_pos (of_decide_eq_true e)] at h
 ·rwa [if_neg (fun k=>e (decide_eq_true k)),if_pos trivial] at h
inductive CpS(x y:Int×Int×Int):Int->Prop
 |c0:CpS x y 0
 |c1 (h:x.1=y.1):CpS x y 1
 |c2 (h:x.1=y.1) (h':x.2.1=y.2.1):CpS x y 2
 |c3 (h:x.1=y.1) (h':x.2.1=y.2.1) (h'':x.2.2=y.2.2):CpS x y 3
theorem v9c{x y:Int×Int×Int}(h: ¬x.1=y.1):cmp3 x y=sg (x.1<y.1) True:=by unfold cmp3;rw[if_neg h]
theorem v9d{x y:Int×Int×Int}(h:x.1=y.1)(h': ¬x.2.1=y.2.1):cmp3 x y=sg (x.2.1<y.2.1) True:=by unfold cmp3;rw[if_pos h,if_neg h']
theorem v9e{x y:Int×Int×Int}(h:x.1=y.1)(h':x.2.1=y.2.1)(h'': ¬x.2.2=y.2.2):cmp3 x y=sg (x.2.2<y.2.2) True:=by unfold cmp3;rw[if_pos h,if_pos h',if_neg h'']
theorem y3n{x y:Int×Int×Int}(h:x.1=y.1)(h':x.2.1=y.2.1)(h'':x.2.2=y.2.2):cmp3 x y=0:=by unfold cmp3;rw[if_pos h,if_pos h',if_pos h'']
theorem y5z{a b:Int}(h:a<b):sg (a<b) True= -1:=if_pos h
theorem y50{a b:Int}(h:b<a):sg (a<b) True=1:=by unfold sg;rw[if_neg (by omega),if_pos trivial]
theorem Cnd.ite2{α β:Type}{c:Prop}[Decidable c]{A B:α×β}{K:α->β->Prop}(h:K (if c then A else B).1 (if c then A else B).2){X Y:Prop}(hx:c->K A.1 A.2->X)(hy: ¬c->K B.1 B.2->Y):Cnd c X Y:=⟨fun hc=>hx hc (by rwa [if_pos hc] at h),fun hc=>hy hc (by rwa [if_neg hc] at h)⟩
theorem w42{a b:Val}{K:Int->Int->Prop}(ha:a.3.size<=1000000000)(hb:b.3.size<=1000000000)(h:K (vcmp a b).1 (vcmp a b).2):q1h a b K:=by
 unfold q1h z5h
 unfold vcmp at h
 refine j9z ha (Cnd.ite2 h (fun _ h=>j9z hb (Cnd.ite2 h (fun _ h=>Cnd.ite2 h (fun _ h=> ?_) fun _ h=>h) fun _ h=>h)) fun _ h=>h)
 refine Cnd.ite2 h (fun _ h=>h) fun _ h=>Cnd.ite2 h (fun _ h=>h) fun _ h=>Cnd.ite2 h (fun _ h=>w2q (K:=fun r=>K r 0) h) fun _ h=>Cnd.ite2 h (fun _ h=>w2q (K:=fun r=>K r 0) h) fun _ h=> ?_
 refine z97 ha (z97 hb ?_)
 generalize (prt a.3).1=x at h⊢
 generalize (prt b.3).1=y at h⊢
 refine Lp1.ind (fun (i:Int)=>CpS x y i) (fun (i:Int)=>(3 - i).toNat) ?_ .c0
 intro i hp
 cases hp with
 |c0=>
  have hq: ¬x.1=y.1->K (sg (x.1<y.1) True) 0:=fun e=>by rwa [v9c e] at h
  exact Cnd.mk (fun _=>⟨⟨by decide,by decide⟩,⟨⟨⟨trivial,fun _=>⟨⟨by decide,by decide⟩,⟨⟨⟨trivial,fun _=>Cnd.mk (fun e=>⟨by unfold InI;omega,.c1 e,by omega⟩) fun e=>⟨⟨by decide,by decide⟩,⟨⟨⟨trivial,fun _=>⟨⟨by decide,by decide⟩,⟨⟨⟨trivial,fun _=>z6g (K:=fun r=>K r 0) (hq e)⟩,fun e=>absurd e (by decide)⟩,fun e=>absurd e (by decide)⟩⟩⟩,fun e=>absurd e (by decide)⟩,fun e=>absurd e (by decide)⟩⟩⟩,fun e=>absurd e (by decide)⟩,fun e=>absurd e (by decide)⟩⟩⟩,fun e=>absurd e (by decide)⟩,fun e=>absurd e (by decide)⟩⟩) fun e=>absurd (show _<_ by decide) e
 |c1 h1=>
  have hq: ¬x.2.1=y.2.1->K (sg (x.2.1<y.2.1) True) 0:=fun e=>by rwa [v9d h1 e] at h
  exact Cnd.mk (fun _=>⟨⟨by decide,by decide⟩,⟨⟨⟨trivial,fun e=>absurd e (by decide)⟩,fun _=>⟨⟨by decide,by decide⟩,⟨⟨⟨trivial,fun e=>absurd e (by decide)⟩,fun _=>Cnd.mk (fun e=>⟨by unfold InI;omega,.c2 h1 e,by omega⟩) fun e=>⟨⟨by decide,by decide⟩,⟨⟨⟨trivial,fun e=>absurd e (by decide)⟩,fun _=>⟨⟨by decide,by decide⟩,⟨⟨⟨trivial,fun e=>absurd e (by decide)⟩,fun _=>z6g (K:=fun r=>K r 0) (hq e)⟩,fun e=>absurd e (by decide)⟩⟩⟩,fun e=>absurd e (by decide)⟩⟩⟩,fun e=>absurd e (by decide)⟩⟩⟩,fun e=>absurd e (by decide)⟩⟩) fun e=>absurd (show _<_ by decide) e
 |c2 h1 h2=>
  have hq: ¬x.2.2=y.2.2->K (sg (x.2.2<y.2.2) True) 0:=fun e=>by rwa [v9e h1 h2 e] at h
  exact Cnd.mk (fun _=>⟨⟨by decide,by decide⟩,⟨⟨⟨trivial,fun e=>absurd e (by decide)⟩,fun e=>absurd e (by decide)⟩,fun _=>⟨⟨by decide,by decide⟩,⟨⟨⟨trivial,fun e=>absurd e (by decide)⟩,fun e=>absurd e (by decide)⟩,fun _=>Cnd.mk (fun e=>⟨by unfold InI;omega,.c3 h1 h2 e,by omega⟩) fun e=>⟨⟨by decide,by decide⟩,⟨⟨⟨trivial,fun e=>absurd e (by decide)⟩,fun e=>absurd e (by decide)⟩,fun _=>⟨⟨by decide,by decide⟩,⟨⟨⟨trivial,fun e=>absurd e (by decide)⟩,fun e=>absurd e (by decide)⟩,fun _=>z6g (K:=fun r=>K r 0) (hq e)⟩⟩⟩⟩⟩⟩⟩⟩) fun e=>absurd (show _<_ by decide) e
 |c3 h1 h2 h3=>
  rw[y3n h1 h2 h3] at h
  exact Cnd.mk (fun e=>absurd e (by decide)) fun _=>h
theorem j55{a b:Val}{K:Int->Int->Prop}(ha:a.3.size<=1000000000)(hb:b.3.size<=1000000000)(h:K (vcmp a b).1 (vcmp a b).2):U4 a b K:=by
 unfold U4 q8l
 unfold vcmp at h
 refine z8m ha (Cnd.ite2 h (fun _ h=>z8m hb (Cnd.ite2 h (fun _ h=>Cnd.ite2 h (fun _ h=> ?_) fun _ h=>h) fun _ h=>h)) fun _ h=>h)
 refine Cnd.ite2 h (fun _ h=>h) fun _ h=>Cnd.ite2 h (fun _ h=>h) fun _ h=>Cnd.ite2 h (fun _ h=> ?_) fun _ h=>Cnd.ite2 h (fun _ h=> ?_) fun _ h=> ?_
 ·unfold sg at h
  refine Cnd.yes rfl (Cnd.yes rfl (Cnd.mk (fun e=> ?_) fun e=>Cnd.mk (fun e2=> ?_) fun e2=> ?_))
  ·rwa [if_pos e] at h
  ·rwa [if_neg e,if_pos e2] at h
  ·rwa [if_neg e,if_neg e2] at h
 ·unfold sg at h
  refine Cnd.yes rfl (Cnd.yes rfl (Cnd.mk (fun e=> ?_) fun e=>Cnd.mk (fun e2=> ?_) fun e2=> ?_))
  ·rwa [if_pos e] at h
  ·rwa [if_neg e,if_pos e2] at h
  ·rwa [if_neg e,if_neg e2] at h
 refine z0t ha (z0t hb ?_)
 generalize (prt a.3).1=x at h⊢
 generalize (prt b.3).1=y at h⊢
 obtain⟨x0,x1,x2⟩:=x
 obtain⟨y0,y1,y2⟩:=y
 simp only[List.length_cons,List.length_nil]
 refine (fun (k:_)=>⟨k,k⟩) (fun _=> ?_)
 refine Lp1.ind (fun (i:Int)=>CpS (x0,x1,x2) (y0,y1,y2) i) (fun (i:Int)=>(3 - i).toNat) ?_ .c0
 intro i hp
 cases hp with
 |c0=>
  refine Cnd.mk (fun _=>⟨by omega,fun u hu _=>Cnd.mk (fun e=>by omega) fun _=>⟨by omega,fun v hv=> ?_⟩⟩) fun hc=>by omega
  cases hu;cases hv
  refine Cnd.yes trivial (Cnd.yes trivial (Cnd.mk (fun e=>Cnd.no (by decide) ?_) fun e=>Cnd.mk (fun e2=>Cnd.no (by decide) ?_) fun e2=>Cnd.yes trivial ⟨by unfold InI;omega,.c1 (by simp only;omega),by omega⟩))
  ·rwa [v9c (by simp only;omega),y5z e] at h
  ·rwa [v9c (by simp only;omega),y50 e2] at h
 |c1 h1=>
  refine Cnd.mk (fun _=>⟨by omega,fun u hu _=>Cnd.mk (fun e=>by omega) fun _=>⟨by omega,fun v hv=> ?_⟩⟩) fun hc=>by omega
  cases hu;cases hv
  refine Cnd.yes trivial (Cnd.yes trivial (Cnd.mk (fun e=>Cnd.no (by decide) ?_) fun e=>Cnd.mk (fun e2=>Cnd.no (by decide) ?_) fun e2=>Cnd.yes trivial ⟨by unfold InI;omega,.c2 h1 (by simp only;omega),by omega⟩))
  ·rwa [v9d h1 (by simp only;omega),y5z e] at h
  ·rwa [v9d h1 (by simp only;omega),y50 e2] at h
 |c2 h1 h2=>
  refine Cnd.mk (fun _=>⟨by omega,fun u hu _=>Cnd.mk (fun e=>by omega) fun _=>⟨by omega,fun v hv=> ?_⟩⟩) fun hc=>by omega
  cases hu;cases hv
  refine Cnd.yes trivial (Cnd.yes trivial (Cnd.mk (fun e=>Cnd.no (by decide) ?_) fun e=>Cnd.mk (fun e2=>Cnd.no (by decide) ?_) fun e2=>Cnd.yes trivial ⟨by unfold InI;omega,.c3 h1 h2 (by simp only;omega),by omega⟩))
  ·rwa [v9e h1 h2 (by simp only;omega),y5z e] at h
  ·rwa [v9e h1 h2 (by simp only;omega),y50 e2] at h
 |c3 h1 h2 h3=>
  rw[y3n h1 h2 h3] at h
  exact Cnd.mk (fun e=>by omega) fun _ _ _=>Cnd.mk (fun e=>by omega) fun _=>h
end Go.En
end
noncomputable section
set_option maxRecDepth 100000
namespace Go.En
open Go Go.Fl Go.Fl.Lk Go.Fx Go.Sg
theorem drp{α:Type}{l:List α}{k:Nat}{y:α}(h:l[k]? =some y):l.drop k=y::l.drop (k+1):=by
 obtain⟨hl,rfl⟩:=List.getElem?_eq_some_iff.1 h
 exact List.drop_eq_getElem_cons hl
structure SubB(s:Subj):Prop where
 n:s.ctxs.length<=2000000
 a: ∀c∈s.ctxs,c.attrs.length<=2000000
 l: ∀c∈s.ctxs,∀a∈c.attrs,a.value.list.length<=2000000/\a.value.text.size<=2000000
 k: ∀c∈s.ctxs,c.key.size<=2000000
abbrev noC:Ctxt:=Ctxt.mk (ByteArray.mk (Array.mk [])) (ByteArray.mk (Array.mk [])) []
abbrev noV:Val:=Val.mk 0 0 (ByteArray.mk (Array.mk [])) []
def fnd(s:Subj)(kind:ByteArray):Option Ctxt:=s.ctxs.find? fun c=>decide (c.kind=kind)
theorem j4o{s:Subj}{kind:ByteArray}{K:Ctxt->Bool->Prop}(hs:SubB s)(h:K ((fnd s kind).getD noC) (fnd s kind).isSome):q2p s kind K:=by
 unfold q2p
 have hn:=hs.n
 refine Lp4.ind (fun (i:Int) _ _ _=>0<=i/\i<=s.ctxs.length/\fnd s kind=(s.ctxs.drop i.toNat).find? fun c=>decide (c.kind=kind)) (fun (i:Int) _ _ _=>(s.ctxs.length - i).toNat) ?_ ⟨by omega,by omega,rfl⟩
 rintro i _ _ _ ⟨i0,i1,hf⟩ _
 refine Cnd.mk (fun hc=>⟨by omega,fun y hy=> ?_⟩) fun hc=> ?_
 ·rw[drp hy,List.find?_cons] at hf
  refine Cnd.mk (fun e=>⟨by omega,fun z hz=> ?_⟩) fun e=>⟨by unfold InI;omega,⟨by omega,by omega,?_⟩,by omega⟩
  ·rw[hy] at hz;cases hz
   rw[decide_eq_true e] at hf
   rw[hf] at h;exact h
  ·rw[decide_eq_false e] at hf
   rw[show (i+1).toNat=i.toNat+1 by omega];exact hf
 ·rw[List.drop_eq_nil_of_le (by omega)] at hf
  rw[hf] at h;exact h
theorem z4d{s:Subj}{kind:ByteArray}{K:Int->Prop}(h: ∀r:Int,((r= -1/\fnd s kind=none)∨(0<=r/\r<s.ctxs.length/\ ∃c,s.ctxs[r.toNat]? =some c/\fnd s kind=some c))->K r):Vc s kind K:=by
 unfold Vc
 intro hl
 refine Lp1.ind (fun (i:Int)=>0<=i/\i<=s.ctxs.length/\fnd s kind=(s.ctxs.drop i.toNat).find? fun c=>decide (c.kind=kind)) (fun (i:Int)=>(s.ctxs.length - i).toNat) ?_ ⟨by omega,by omega,rfl⟩
 rintro i ⟨i0,i1,hf⟩
 refine Cnd.mk (fun hc=>⟨by omega,fun y hy=> ?_⟩) fun hc=> ?_
 ·rw[drp hy,List.find?_cons] at hf
  refine Cnd.mk (fun e=> ?_) fun e=>⟨by unfold InI;omega,⟨by omega,by omega,?_⟩,by omega⟩
  ·rw[decide_eq_true e] at hf
   exact h _ (.inr ⟨i0,hc,y,hy,hf⟩)
  ·rw[decide_eq_false e] at hf
   rw[show (i+1).toNat=i.toNat+1 by omega];exact hf
 ·rw[List.drop_eq_nil_of_le (by omega)] at hf
  exact h _ (.inl ⟨rfl,hf⟩)
theorem z0u{v:Val}{K:Val->Prop}(hv:v.list.length<=2000000)(h:K v):J9 v K:=by
 unfold J9
 refine fun b hb=>Cnd.mk (fun e=> ?_) fun _=>⟨by unfold Sml;simp only[List.nil_append];omega,h⟩
 have:=hb e
 cases v
 simp only at this
 subst this
 exact h
theorem j2a{v:Attr}{K:Attr->Prop}(hv:v.value.list.length<=2000000)(h:K v):U2 v K:=by
 unfold U2 q3u
 exact z0u hv h
theorem j56{c:Ctxt}{K:Ctxt->Prop}(ha:c.attrs.length<=2000000)(hv: ∀a∈c.attrs,a.value.list.length<=2000000)(h:K c):Rt c K:=by
 unfold Rt q8i
 refine fun _=>⟨⟨by omega,by omega,by unfold Sml;omega⟩,fun _=> ?_⟩
 refine Lp2.ind (fun (r:List Attr) (i:Int)=>0<=i/\i<=c.attrs.length/\r=c.attrs.take i.toNat) (fun _ (i:Int)=>(c.attrs.length - i).toNat) ?_ ⟨by omega,by omega,rfl⟩
 rintro r i ⟨i0,i1,rfl⟩
 refine Cnd.mk (fun hc=>⟨by omega,fun y hy=>j2a (hv y (getm hy)) ⟨?_,by unfold InI;omega,⟨by omega,by omega,?_⟩,by omega⟩⟩) fun hc=> ?_
 ·unfold Sml;simp only[List.length_append,List.length_take,List.length_cons,List.length_nil];omega
 ·rw[show (i+1).toNat=i.toNat+1 by omega,List.take_add_one,hy];rfl
 ·rw[List.take_of_length_le (by omega)];exact h
theorem q9a{s:Subj}{kind:ByteArray}{K:Ctxt->Bool->Prop}(hs:SubB s)(h:K ((fnd s kind).getD noC) (fnd s kind).isSome):Wb s kind K:=by
 unfold Wb z0e
 refine z4d fun r hr=> ?_
 rcases hr with ⟨rfl,hf⟩|⟨r0,r1,c,hc,hf⟩
 ·rw[hf] at h
  exact Cnd.yes (by decide) h
 ·rw[hf] at h
  refine Cnd.no (by omega) ⟨⟨r0,r1⟩,fun y hy=> ?_⟩
  have hc:s.ctxs[r.toNat]? =some c:=hc
  have hy:s.ctxs[r.toNat]? =some y:=hy
  rw[hc] at hy;cases hy
  exact j56 (hs.a c (getm hc)) (fun a ha=>(hs.l c (getm hc) a ha).1) h
abbrev keyB:ByteArray:=ByteArray.mk (Array.mk [107,101,121])
def lkp(s:Subj)(kind name:ByteArray):Option Val:=
 (fnd s kind).bind fun c=>if name=keyB then some (Val.mk 3 0 c.key []) else (c.attrs.find? fun a=>decide (a.name=name)).map Attr.value
theorem j90{s:Subj}{kind:ByteArray}{c:Ctxt}(h:fnd s kind=some c):c∈s.ctxs:=List.mem_of_find?_eq_some h
theorem y8k{s:Subj}{kind name:ByteArray}{v:Val}(hs:SubB s)(h:lkp s kind name=some v):v.list.length<=2000000/\v.text.size<=2000000:=by
 unfold lkp at h
 cases hf:fnd s kind with
 |none=>rw[hf] at h;cases h
 |some c=>
  rw[hf] at h
  simp only[Option.bind_some] at h
  by_cases hk:name=keyB
  ·rw[if_pos hk] at h;cases h
   exact⟨by simp,hs.k c (j90 hf)⟩
  ·rw[if_neg hk] at h
   obtain⟨a,ha,rfl⟩:=Option.map_eq_some_iff.1 h
   exact hs.l c (j90 hf) a (List.mem_of_find?_eq_some ha)
theorem w75{s:Subj}{kind name:ByteArray}{K:Val->Bool->Prop}(hs:SubB s)(h:K ((lkp s kind name).getD noV) (lkp s kind name).isSome):q8t s kind name K:=by
 unfold q8t z9i
 refine j4o hs ?_
 unfold lkp at h
 cases hf:fnd s kind with
 |none=>rw[hf] at h;exact Cnd.no (by simp) h
 |some c=>
  rw[hf] at h
  simp only[Option.bind_some] at h
  refine Cnd.yes rfl (Cnd.mk (fun hk=> ?_) fun hk=> ?_)
  ·rw[if_pos hk] at h;exact h
  rw[if_neg hk] at h
  have hn:=hs.a c (j90 hf)
  show Lp5 _ _ _ _ _ _
  refine Lp5.ind (fun (i:Int) _ _ _ _=>0<=i/\i<=c.attrs.length/\(c.attrs.find? fun a=>decide (a.name=name))=(c.attrs.drop i.toNat).find? fun a=>decide (a.name=name)) (fun (i:Int) _ _ _ _=>(c.attrs.length - i).toNat) ?_ ⟨by omega,by omega,rfl⟩
  rintro i _ _ _ _ ⟨i0,i1,hd⟩ _
  refine Cnd.mk (fun hc=>⟨⟨i0,hc⟩,fun y hy=> ?_⟩) fun hc=> ?_
  ·have hy:c.attrs[i.toNat]? =some y:=hy
   rw[drp hy,List.find?_cons] at hd
   refine Cnd.mk (fun e=>⟨⟨i0,hc⟩,fun z hz=> ?_⟩) fun e=>⟨by unfold InI;omega,⟨by omega,?_,?_⟩,?_⟩
   ·have hz:c.attrs[i.toNat]? =some z:=hz
    rw[hy] at hz;cases hz
    rw[decide_eq_true e] at hd
    rw[hd] at h;exact h
   ·have:i<(c.attrs.length:Int):=hc
    omega
   ·rw[decide_eq_false e] at hd
    rw[show (i+1).toNat=i.toNat+1 by omega];exact hd
   ·have:i<(c.attrs.length:Int):=hc
    omega
  ·have hc: ¬i<(c.attrs.length:Int):=hc
   rw[List.drop_eq_nil_of_le (by omega)] at hd
   rw[hd] at h;exact h
theorem j4p{s:Subj}{kind name:ByteArray}{K:Val->Bool->Prop}(hs:SubB s)(h:K ((lkp s kind name).getD noV) (lkp s kind name).isSome):He s kind name K:=by
 unfold He q53
 refine z4d fun r hr=> ?_
 unfold lkp at h
 rcases hr with ⟨rfl,hf⟩|⟨r0,r1,c,hcc,hf⟩
 ·rw[hf] at h
  exact Cnd.yes (by decide) h
 rw[hf] at h
 simp only[Option.bind_some] at h
 refine Cnd.no (by omega) ⟨⟨r0,r1⟩,fun y hy=> ?_⟩
 have hcc:s.ctxs[r.toNat]? =some c:=hcc
 have hy:s.ctxs[r.toNat]? =some y:=hy
 rw[hcc] at hy;cases hy
 refine Cnd.mk (fun hk=> ?_) fun hk _=> ?_
 ·rw[if_pos hk] at h;exact h
 rw[if_neg hk] at h
 have hn:=hs.a c (j90 hf)
 have hl:=hs.l c (j90 hf)
 refine Lp5.ind (fun (i:Int) _ _ _ _=>0<=i/\i<=c.attrs.length/\(c.attrs.find? fun a=>decide (a.name=name))=(c.attrs.drop i.toNat).find? fun a=>decide (a.name=name)) (fun (i:Int) _ _ _ _=>(c.attrs.length - i).toNat) ?_ ⟨by omega,by omega,rfl⟩
 rintro i _ _ _ _ ⟨i0,i1,hd⟩
 refine Cnd.mk (fun hc=>⟨⟨i0,hc⟩,fun y hy=> ?_⟩) fun hc=> ?_
 ·have hy:c.attrs[i.toNat]? =some y:=hy
  rw[drp hy,List.find?_cons] at hd
  refine Cnd.mk (fun e=> ?_) fun e=>⟨by unfold InI;omega,⟨by omega,by omega,?_⟩,by omega⟩
  ·rw[decide_eq_true e] at hd
   rw[hd] at h
   exact z0u (hl y (getm hy)).1 h
  ·rw[decide_eq_false e] at hd
   rw[show (i+1).toNat=i.toNat+1 by omega];exact hd
 ·rw[List.drop_eq_nil_of_le (by omega)] at hd
  rw[hd] at h;exact h
end Go.En
end
noncomputable section
set_option maxRecDepth 100000
namespace Go.En
open Go Go.Fl Go.Fl.Lk Go.Fx Go.Sg
open Classical in
def dec(p:Prop):Bool:=decide p
theorem v0s{p:Prop}:dec p=true↔p:=by unfold dec;exact @decide_eq_true_iff p (Classical.propDecidable p)
theorem w2r{p:Prop}{r:Bool}(h:r=true↔p):r=dec p:=by rw[Bool.eq_iff_iff,h,v0s]
theorem v2r{p:Prop}(h:p):dec p=true:=v0s.2 h
theorem w76{p:Prop}(h: ¬p):dec p=false:=by rw[Bool.eq_false_iff];exact fun e=>h (v0s.1 e)
theorem z6h{a b:List ByteArray}{K:Bool->Prop}(h: ∀r,(r=true↔a=b)->K r):Q2 a b K:=by
 unfold Q2
 intro ha hb
 refine Cnd.mk (fun hl _=> ?_) fun hl=>h _ ⟨fun h=>(by cases h),fun e=>by rw[e] at hl;exact absurd rfl hl⟩
 refine Lp1.ind (fun (i:Int)=>0<=i/\i<=a.length/\a.take i.toNat=b.take i.toNat) (fun (i:Int)=>(a.length - i).toNat) ?_ ⟨by omega,by omega,by simp⟩
 rintro i ⟨i0,i1,he⟩
 refine Cnd.mk (fun hc=>⟨by omega,fun x hx=>⟨by omega,fun y hy=>Cnd.mk (fun hc=>⟨by unfold InI;omega,⟨by omega,by omega,?_⟩,by omega⟩) fun hc=>h _ ⟨fun h=>(by cases h),fun h=> ?_⟩⟩⟩) fun hc=>h _ ⟨fun _=> ?_,fun _=>rfl⟩
 ·rw[show (i+1).toNat=i.toNat+1 by omega,List.take_add_one,List.take_add_one,he,hx,hy,hc]
 ·subst h;rw[hx] at hy;cases hy;exact absurd rfl hc
 ·rwa [List.take_of_length_le (by omega),List.take_of_length_le (by omega)] at he
theorem z8n{a b:Val}{K:Bool->Prop}(h: ∀r,(r=true↔a=b)->K r):Bc a b K:=by
 unfold Bc z2m
 have no:(a≠b)->K false:=fun hn=>h _ ⟨fun h=>(by cases h),fun e=>absurd e hn⟩
 refine Cnd.mk (fun h1=>Cnd.mk (fun h2=>Cnd.mk (fun h3=>z6h fun r hr=>h r (hr.trans ⟨fun h4=> ?_,fun e=>by rw[e]⟩)) fun h=>no fun e=>h (by rw[e])) fun h=>no fun e=>h (by rw[e])) fun h=>no fun e=>h (by rw[e])
 cases a;cases b;simp_all
def cnt(v w:Val):Bool:=if w.1=3 then (if v.1=5 then dec (w.3∈v.4) else if v.1=3 then Go.Lib.contains (bts v.3) (bts w.3) else false) else false
theorem z6i{v w:Val}{K:Bool->Prop}(hv:v.3.size<=2000000)(hw:w.3.size<=2000000)(h:K (cnt v w)):B9 v w K:=by
 unfold B9 z0j
 unfold cnt at h
 refine Cnd.ite h (fun _ h=>Cnd.ite h (fun _ h=>Hh fun r hr=>by rw[w2r hr];exact h) fun _ h=> ?_) fun _ h=>h
 refine Lp1.ind (fun (i:Int)=>0<=i/\i<=v.3.size+1/\ ∀j:Nat,(j:Int)<i->wth v.3 w.3 j=false) (fun (i:Int)=>(v.3.size+1 - i).toNat) ?_ ⟨by omega,by omega,fun j hj=>by omega⟩
 rintro i ⟨i0,i1,hn⟩
 refine Cnd.ite h (fun hk h=>⟨by unfold InI;omega,Cnd.mk (fun hc=>j9y (by omega) (by omega) (Cnd.mk (fun ht=> ?_) fun ht=>⟨by unfold InI;omega,⟨by omega,by omega,fun j hj=> ?_⟩,by omega⟩)) fun hc=> ?_⟩) fun _ h=>h
 ·have:Go.Lib.contains (bts v.3) (bts w.3)=true:=j5a.2 ⟨i.toNat,by rw[Gw,Gw];omega,by
   have ht:=of_decide_eq_true ht
   have h2:=ht.2.2
   rw[show (i+(w.3.size:Int)).toNat=i.toNat+w.3.size by omega,←w41,j19] at h2
   rw[Gw];exact h2⟩
  rwa [this] at h
 ·by_cases hj2:(j:Int)<i
  ·exact hn j hj2
  ·have:(j:Int)=i:=by omega
   rw[this];simpa using ht
 ·have:Go.Lib.contains (bts v.3) (bts w.3)=false:=by
   rw[Bool.eq_false_iff]
   intro e
   obtain⟨j,h1,h2⟩:=j5a.1 e
   rw[Gw,Gw] at h1
   have:=hn j (by omega)
   unfold wth at this
   rw[decide_eq_false_iff_not] at this
   refine this ⟨by omega,by omega,?_⟩
   rw[show ((j:Int)+(w.3.size:Int)).toNat=j+w.3.size by omega,←w41,Int.toNat_natCast,j19]
   rw[Gw] at h2;exact h2
  rwa [this] at h
def tst3(op:Int)(v w:Val):Bool:=
 if op=7 then dec (v=w)
 else if op=9 then (if v.1=3 then (if w.1=3 then wth v.3 w.3 0 else false) else false)
 else if op=10 then (if v.1=3 then (if w.1=3 then wth v.3 w.3 ((v.3.size:Int) - w.3.size) else false) else false)
 else if op=11 then cnt v w
 else if (vcmp v w).2=0 then (if op=12 then decide ((vcmp v w).1<0) else if op=13 then decide ((vcmp v w).1<=0) else if op=14 then decide (0<(vcmp v w).1) else decide (0<=(vcmp v w).1)) else false
def tst(s:Subj)(e:Ex):Bool:=
 match lkp s e.2 e.3 with
 |none=>false
 |some v=>if 6<=e.1/\e.1<=15 then (if e.1=6 then true else if e.1=8 then dec (v∈e.4) else match e.4 with|[]=>false|w::_=>tst3 e.1 v w) else false
def ValB(w:Val):Prop:=w.3.size<=2000000/\w.4.length<=2000000
theorem get0{α:Type}{l:List α}{y:α}(h:l[Int.toNat 0]? =some y): ∃t,l=y::t:=by
 cases l with
 |nil=>cases h
 |cons a t=>cases h;exact⟨t,rfl⟩
theorem v0t{s:Subj}{e:Ex}{K:Bool->Prop}(hs:SubB s)(he: ∀w∈e.4,ValB w)(h:K (tst s e)):q7e s e K:=by
 unfold q7e j3r
 refine w75 hs ?_
 unfold tst at h
 cases hl:lkp s e.2 e.3 with
 |none=>rw[hl] at h;exact Cnd.no (by simp) h
 |some v=>
  rw[hl] at h
  dsimp only at h
  dsimp only [Option.getD_some]
  obtain⟨hv4,hv3⟩:=y8k hs hl
  refine Cnd.yes rfl (q1i fun r hr=> ?_)
  refine Cnd.mk (fun h1=> ?_) fun h1=>by rwa [if_neg fun k=>h1 (hr.2 k)] at h
  rw[if_pos (hr.1 h1)] at h
  refine Cnd.ite h (fun _ h=>h) fun h6 h=>Cnd.ite h (fun _ h=> ?_) fun h8 h _=>Cnd.mk (fun h0=> ?_) fun h0=>⟨⟨by omega,by omega⟩,fun w hw=> ?_⟩
  ·show Lp1 _ _
   refine Lp1.ind (fun (i:Int)=>0<=i/\i<=e.4.length/\v∉e.4.take i.toNat) (fun (i:Int)=>(e.4.length - i).toNat) ?_ ⟨by omega,by omega,by simp⟩
   rintro i ⟨i0,i1,hn⟩ _
   refine Cnd.mk (fun hc=>⟨by omega,fun y hy=>z96 fun r hr=>Cnd.mk (fun hc=> ?_) fun hc=>⟨by unfold InI;omega,⟨by omega,by omega,?_⟩,by omega⟩⟩) fun hc=> ?_
   ·have hvy:v=y:=hr.1 hc
    rwa [v2r (show v∈e.4 by rw[hvy];exact getm hy)] at h
   ·rw[show (i+1).toNat=i.toNat+1 by omega,List.take_add_one,hy]
    have:v≠y:=fun e=>hc (hr.2 e)
    simp[hn,this]
   ·rw[List.take_of_length_le (by omega)] at hn
    rwa [w76 hn] at h
  ·have:e.4=[]:=List.eq_nil_of_length_eq_zero (by omega)
   rw[this] at h;exact h
  obtain⟨t,ht⟩:=get0 hw
  rw[ht] at h
  simp only at h
  have hwb:=he w (by rw[ht];simp)
  unfold tst3 at h
  have eq7:e.1=7->K (dec (v=w))->q1b v w fun x=>K x:=fun _ h=>z96 fun r hr=>by rw[w2r hr];exact h
  have cmpR:K (if (vcmp v w).2=0 then (if e.1=12 then decide ((vcmp v w).1<0) else if e.1=13 then decide ((vcmp v w).1<=0) else if e.1=14 then decide (0<(vcmp v w).1) else decide (0<=(vcmp v w).1)) else false)->q1h v w fun Qm q9g=>Cnd (q9g=0) (Cnd (e.1=12) (K (decide (Qm<0))) (Cnd (e.1=13) (K (decide (Qm<=0))) (Cnd (e.1=14) (K (decide (0<Qm))) (K (decide (0<=Qm)))))) (K false):=fun h=>
   w42 (by omega) (by have:=hwb.1;omega) (Cnd.ite h (fun _ h=>Cnd.ite h (fun _ h=>h) fun _ h=>Cnd.ite h (fun _ h=>h) fun _ h=>Cnd.ite h (fun _ h=>h) fun _ h=>h) fun _ h=>h)
  refine Cnd.mk (fun h3=> ?_) fun h3=> ?_
  ·have h3:v.1=3:=h3
   refine Cnd.ite h (fun e7 h=>eq7 e7 h) fun _ h=>Cnd.ite h (fun _ h=> ?_) fun _ h=>Cnd.ite h (fun _ h=> ?_) fun _ h=>Cnd.ite h (fun _ h=>z6i hv3 hwb.1 h) fun _ h=>cmpR h
   ·rw[if_pos h3] at h
    exact Cnd.ite h (fun _ h=>j9y (by omega) (by have:=hwb.1;omega) h) fun _ h=>h
   ·rw[if_pos h3] at h
    exact Cnd.ite h (fun _ h=>⟨by unfold InI;have:=hwb.1;omega,j9y (by omega) (by have:=hwb.1;omega) h⟩) fun _ h=>h
  ·have h3: ¬v.1=3:=h3
   refine Cnd.ite h (fun e7 h=>eq7 e7 h) fun _ h=>Cnd.ite h (fun _ h=> ?_) fun _ h=>Cnd.ite h (fun _ h=> ?_) fun _ h=>Cnd.ite h (fun _ h=>z6i hv3 hwb.1 h) fun _ h=>cmpR h
   ·rwa [if_neg h3] at h
   ·rwa [if_neg h3] at h
theorem z8o{op:Int}{K:Bool->Prop}(h: ∀r,(r=true↔6<=op/\op<=15)->K r):V3 op K:=by
 unfold V3
 exact Cnd.mk (fun h6=>h _ ⟨fun a=>⟨h6,of_decide_eq_true a⟩,fun a=>decide_eq_true a.2⟩) fun h6=>h _ ⟨fun a=>(by cases a),fun a=>absurd a.1 h6⟩
theorem v2s{α:Type}{l:List α}{x:α}{K:Bool->Prop}(hl:l.length<=9223372036854775807)(h: ∀r,(r=true↔x∈l)->K r):
  Lp1 (fun i Y=>Cnd (i<(l.length:Int)) ((0<=i/\i<(l.length:Int))/\ ∀y,l[i.toNat]? =some y->Cnd (x=y) (K (decide (0<=i))) (InI (i+1)/\Y (i+1))) (K (decide ((0:Int)<= -1)))) 0:=by
 refine Lp1.ind (fun (i:Int)=>0<=i/\i<=l.length/\x∉l.take i.toNat) (fun (i:Int)=>(l.length - i).toNat) ?_ ⟨by omega,by omega,by simp⟩
 rintro i ⟨i0,i1,hn⟩
 refine Cnd.mk (fun hc=>⟨by omega,fun y hy=>Cnd.mk (fun e=>h _ ⟨fun _=>e▸getm hy,fun _=>decide_eq_true i0⟩) fun e=>⟨by unfold InI;omega,⟨by omega,by omega,?_⟩,by omega⟩⟩) fun hc=>h _ ⟨fun a=>(by cases a),fun hm=> ?_⟩
 ·rw[show (i+1).toNat=i.toNat+1 by omega,List.take_add_one,hy]
  simp[hn,e]
 ·rw[List.take_of_length_le (by omega)] at hn;exact absurd hm hn
theorem w09{s:Subj}{e:Ex}{K:Bool->Prop}(hs:SubB s)(he: ∀w∈e.4,ValB w)(h:K (tst s e)):Bd s e K:=by
 unfold Bd z2p
 refine j4p hs ?_
 unfold tst at h
 cases hl:lkp s e.2 e.3 with
 |none=>rw[hl] at h;exact Cnd.no (by simp) h
 |some v=>
  rw[hl] at h
  dsimp only at h
  dsimp only [Option.getD_some]
  obtain⟨hv4,hv3⟩:=y8k hs hl
  refine Cnd.yes rfl (z8o fun r hr=> ?_)
  refine Cnd.mk (fun h1=> ?_) fun h1=>by rwa [if_neg fun k=>h1 (hr.2 k)] at h
  rw[if_pos (hr.1 h1)] at h
  refine Cnd.ite h (fun _ h=>h) fun h6 h=>Cnd.ite h (fun _ h hl=> ?_) fun h8 h _=>Cnd.mk (fun h0=> ?_) fun h0=>⟨⟨by omega,by omega⟩,fun w hw=> ?_⟩
  ·refine Lp1.ind (fun (i:Int)=>0<=i/\i<=e.4.length/\v∉e.4.take i.toNat) (fun (i:Int)=>(e.4.length - i).toNat) ?_ ⟨by omega,by omega,by simp⟩
   rintro i ⟨i0,i1,hn⟩
   refine Cnd.mk (fun hc=>⟨by omega,fun y hy=>z8n fun r hr=>Cnd.mk (fun hc=> ?_) fun hc=>⟨by unfold InI;omega,⟨by omega,by omega,?_⟩,by omega⟩⟩) fun hc=> ?_
   ·have hvy:v=y:=hr.1 hc
    rw[v2r (show v∈e.4 by rw[hvy];exact getm hy)] at h
    rw[decide_eq_true i0];exact h
   ·rw[show (i+1).toNat=i.toNat+1 by omega,List.take_add_one,hy]
    have:v≠y:=fun e=>hc (hr.2 e)
    simp[hn,this]
   ·rw[List.take_of_length_le (by omega)] at hn
    rwa [w76 hn] at h
  ·have:e.4=[]:=List.eq_nil_of_length_eq_zero (by omega)
   rw[this] at h;exact h
  obtain⟨t,ht⟩:=get0 hw
  rw[ht] at h
  simp only at h
  have hwb:=he w (by rw[ht];simp)
  unfold tst3 at h
  have eq7:e.1=7->K (dec (v=w))->Bc v w fun x=>K x:=fun _ h=>z8n fun r hr=>by rw[w2r hr];exact h
  have cmpR:K (if (vcmp v w).2=0 then (if e.1=12 then decide ((vcmp v w).1<0) else if e.1=13 then decide ((vcmp v w).1<=0) else if e.1=14 then decide (0<(vcmp v w).1) else decide (0<=(vcmp v w).1)) else false)->U4 v w fun Qm q9g=>Cnd (q9g=0) (Cnd (e.1=12) (K (decide (Qm<0))) (Cnd (e.1=13) (K (decide (Qm<=0))) (Cnd (e.1=14) (K (decide (0<Qm))) (K (decide (0<=Qm)))))) (K false):=fun h=>
   j55 (by omega) (by have:=hwb.1;omega) (Cnd.ite h (fun _ h=>Cnd.ite h (fun _ h=>h) fun _ h=>Cnd.ite h (fun _ h=>h) fun _ h=>Cnd.ite h (fun _ h=>h) fun _ h=>h) fun _ h=>h)
  refine Cnd.mk (fun h3=> ?_) fun h3=> ?_
  ·refine Cnd.ite h (fun e7 h=>eq7 e7 h) fun _ h=>Cnd.ite h (fun _ h=> ?_) fun _ h=>Cnd.ite h (fun _ h=> ?_) fun _ h=>Cnd.ite h (fun _ h=> ?_) fun _ h=>cmpR h
   ·rw[if_pos h3] at h
    exact Cnd.ite h (fun _ h=>w72 h) fun _ h=>h
   ·rw[if_pos h3] at h
    exact Cnd.ite h (fun _ h=>w73 (by omega) (by have:=hwb.1;omega) h) fun _ h=>h
   ·unfold cnt at h
    have h5: ¬v.1=5:=by omega
    refine Cnd.ite h (fun hw3 h=> ?_) fun hw3 h=>Cnd.no hw3 h
    rw[if_neg h5,if_pos h3] at h
    exact⟨by omega,Cnd.mk (fun e=>by rwa [e] at h) fun e=>Cnd.yes hw3 (Cnd.no h5 (by rwa [Bool.not_eq_true _|>.mp e] at h))⟩
  ·refine Cnd.ite h (fun e7 h=>eq7 e7 h) fun _ h=>Cnd.ite h (fun _ h=> ?_) fun _ h=>Cnd.ite h (fun _ h=> ?_) fun _ h=>Cnd.ite h (fun _ h=> ?_) fun _ h=>cmpR h
   ·rwa [if_neg h3] at h
   ·rwa [if_neg h3] at h
   ·unfold cnt at h
    refine Cnd.ite h (fun hw3 h=>Cnd.ite h (fun h5 h hl=> ?_) fun h5 h=> ?_) fun hw3 h=>h
    ·exact v2s hl fun r hr=>by rw[w2r hr];exact h
    ·rwa [if_neg h3] at h
end Go.En
end
