/- TrafficMoves This is part 5 of 10. Conditions: those in the statements. -/
import Derived.Test.YtflilmgifibgoaaGreatDoorMov4
import Derived.KernelRfl
import Derived.Conc.MuLone
import GoSem.Core.Utf8
import Derived.Lib.ValidU
noncomputable section
set_option maxRecDepth 100000
open Go Go.RowKit Go.Fl Go.Fl.Lk Go.Fx
namespace Go.En
def q2u(X:Us):Con Sg:=conS [.el C.env] [.str,.int .i64] fun a K=>X a.1 (fun q0 q1=>K (q0,q1,()))
theorem z8k{Bq:Gu}{Ww:q0b}{Uc:Gw}{z0q:q6a}{q67:q6d}{q13:Hw}{q3n:q29}{q14:q07}{Ud:Wm}(h:AL [(14,q4g Bq),(151,z3t Ww),(152,z6t Uc),(154,z5b z0q),(153,z5d q67),(155,q6v q13),(156,z4g q3n),(157,z19 q14),(158,H5 Ud)]):MT 99 (q2u (Rj Bq Ww Uc z0q q67 q13 q3n q14 Ud)):=mS h [(13,⟨bl 15663155,[0],[],[sI 6,(.obj 1,.own 9 C.str)]⟩),(33,⟨bl 294571444427585160051,[0],[],[sI 10,(.obj 1,.own 9 C.str),(.obj 4,.own 254 C.edge)]⟩),(51,⟨bl 10121397798090180814242575234931,[0],[],[sI 14,(.obj 8,.own 9 C.str),(.obj 9,.own 254 C.edge),(.obj 4,.own 254 C.edge),(.obj 1,.own 9 C.str)]⟩)]
theorem z8l:MT 99 (q2u Ve):=z8k ⟨z93,z8h,j2s,w2p,w2t,j2u,j4d,j2v,z2c,trivial⟩
def z0b(X:Bw):Con Sg:=conS [.el C.env] [.bool] fun a K=>X a.1 (fun q0=>K (q0,()))
theorem w2u{Ry:Us}(h:AL [(99,q2u Ry)]):MT 35 (z0b (q90 Ry)):=mS h []
theorem j2w:MT 35 (z0b Gb):=w2u ⟨z8l,trivial⟩
def q6w(X:Hx):Con Sg:=conV [.ptr 78 [.c,.v],.v] [.ptr 78 [.sl C.u8,.int .i64],.int .i64] [.el C.env] [.ptr 78 [.same,.int .i64],.same] fun a K=>X a.1.1 a.1.2.1 a.2.1 (fun q0 q1=>K (q0,()) (((),q1,()),(),()))
theorem j2x{Zs:U2}{q7y:q3s}{Qb:Z3}{q1v:z3a}{W6:q5x}{q3j:q9o}{z2x:z1o}{H9:q0u}{q3k:q4y}{Ja:We}{z7l:z1p}{Wt:q0r}{q1w:q5y}{z34:q8s}{J1:q0s}{J8:Ga}{z0r:q54}{J9:Bw}(h:AL [(38,q7i Zs),(40,z1x q7y),(33,Gh Qb),(41,j65 q1v),(101,z6l W6),(46,j0x q3j),(47,j2a z2x),(102,z1y H9),(100,j67 q3k),(103,Rn Ja),(43,j2i z7l),(39,z3p Wt),(104,z6m q1w),(86,z8b z34),(34,z3q J1),(24,q6s J8),(48,z48 z0r),(35,z0b J9)]):MT 10 (q6w (q6f Zs q7y Qb q1v W6 q3j z2x H9 q3k Ja z7l Wt q1w z34 J1 J8 z0r J9)):=mP (rk:=[.el C.env]) h [(8,⟨bl 3123,[1],[(3,(35,8)),(0,(78,2))],[(.cell 3 0,.str),(.cell 3 1,.str),(.cell 3 2,.int .i64),(.cell 0 1,.int .i64),(.obj 2,.own 102 C.decl)]⟩),(15,⟨bl 98569331,[2,1],[(0,(78,2)),(3,(35,8))],[sI 7,(.cell 0 1,.int .i64),(.cell 3 5,.own 91 C.flag),(.obj 10,.own 97 C.seg),(.obj 12,.own 61 C.layer),(.obj 13,.own 58 C.exper)]⟩),(43000009,⟨bl 1073218007,[22,21],[(0,(78,2)),(23,(91,13))],[sI 9,(.cell 0 1,.int .i64),(.cell 23 2,.own 149 C.val),(.obj 13,.own 58 C.exper),(.obj 12,.own 61 C.layer),(.obj 17,.own 91 C.flag),(.obj 10,.own 97 C.seg)]⟩),(43000019,⟨bl 545366356788183,[22,21],[(23,(91,13)),(0,(78,2))],[sI 10,(.cell 23 5,.own 152 C.prereq),(.cell 0 1,.int .i64),(.obj 10,.own 97 C.seg),(.obj 17,.own 91 C.flag),(.obj 12,.own 61 C.layer),(.obj 13,.own 58 C.exper),(.obj 27,.own 149 C.val)]⟩),(43000029,⟨bl 17996814912849879,[22,21],[(23,(91,13)),(0,(78,2))],[sI 11,(.cell 23 6,.own 154 C.target),(.cell 0 1,.int .i64),(.obj 27,.own 149 C.val),(.obj 13,.own 58 C.exper),(.obj 12,.own 61 C.layer),(.obj 17,.own 91 C.flag),(.obj 10,.own 97 C.seg),(.obj 34,.own 152 C.prereq)]⟩),(43000038,⟨bl 19688565898261847554177638359,[23],[(51,(154,3)),(0,(78,2))],[(.cell 51 0,.str),(.cell 0 1,.int .i64),(.obj 50,.own 9 C.str),(.obj 34,.own 152 C.prereq),(.obj 10,.own 97 C.seg),(.obj 17,.own 91 C.flag),(.obj 12,.own 61 C.layer),(.obj 13,.own 58 C.exper),(.obj 27,.own 149 C.val),(.obj 42,.own 154 C.target)]⟩),(43000060,⟨bl 324518589926201333218846174621655,[22,21],[(0,(78,2)),(23,(91,13))],[(.cell 0 1,.int .i64),(.cell 23 7,.own 157 C.rule),(.obj 50,.own 9 C.str),(.obj 34,.own 152 C.prereq),(.obj 10,.own 97 C.seg),(.obj 17,.own 91 C.flag),(.obj 12,.own 61 C.layer),(.obj 13,.own 58 C.exper),(.obj 27,.own 149 C.val),(.obj 42,.own 154 C.target)]⟩),(43000047,⟨bl 324518589926201333218846174621655,[],[(0,(78,2)),(23,(91,13))],[sI 14,(.cell 0 1,.int .i64),(.cell 23 7,.own 157 C.rule),(.obj 50,.own 9 C.str),(.obj 34,.own 152 C.prereq),(.obj 10,.own 97 C.seg),(.obj 17,.own 91 C.flag),(.obj 12,.own 61 C.layer),(.obj 13,.own 58 C.exper),(.obj 27,.own 149 C.val),(.obj 42,.own 154 C.target)]⟩),(25,⟨bl 387030204812531,[2,1],[(0,(78,2)),(3,(35,8))],[sI 8,(.cell 0 1,.int .i64),(.cell 3 6,.own 61 C.layer),(.obj 13,.own 58 C.exper),(.obj 10,.own 97 C.seg),(.obj 17,.own 91 C.flag)]⟩),(35,⟨bl 811665570522726403571,[2,1],[(0,(78,2)),(3,(35,8))],[sI 9,(.cell 0 1,.int .i64),(.cell 3 7,.own 58 C.exper),(.obj 17,.own 91 C.flag),(.obj 10,.own 97 C.seg),(.obj 24,.own 61 C.layer)]⟩),(45000010,⟨bl 140737488348975,[37,36,35],[(40,(58,12)),(0,(78,2))],[(.cell 40 4,.int .i64),(.cell 0 1,.int .i64),(.obj 39,.own 173 C.range),(.obj 31,.own 58 C.exper),(.obj 24,.own 61 C.layer),(.obj 17,.own 91 C.flag),(.obj 10,.own 97 C.seg)]⟩),(45000014,⟨bl 140737488348975,[37,36,35],[(40,(58,12)),(0,(78,2))],[(.cell 40 7,.int .i64),(.cell 40 8,.str),(.cell 40 9,.str),(.cell 40 10,.sl C.val),(.cell 40 11,.sl C.ex),(.cell 0 1,.int .i64),(.obj 10,.own 97 C.seg),(.obj 17,.own 91 C.flag),(.obj 24,.own 61 C.layer),(.obj 31,.own 58 C.exper),(.obj 39,.own 173 C.range)]⟩)]
theorem j2y:MT 10 (q6w q09):=j2x ⟨z1w,j9q,Rm,w4s,j9o,w4t,w9t,j19,w4u,q86,w9x,j0v,j9r,w5w,j0w,z47,w2j,j2w,trivial⟩
def H6(X:Wn):Con Sg:=conS [.el C.env,.int .i64] [.str] fun a K=>X a.1 a.2.1 (fun q0=>K (q0,()))
theorem z2d{z0t:z73}(h:AL [(9,w18 z0t)]):MT 17 (H6 (Hy z0t)):=mS h []
theorem z2e:MT 17 (H6 V8):=z2d ⟨w9o,trivial⟩
def Bl(X:Wc):Con Sg:=conS [.int .i64] [.bool] fun a K=>X a.1 (fun q0=>K (q0,()))
theorem q4h:MT 61 (Bl W0):=mS (l:=[]) trivial []
def Vp(X:Ze):Con Sg:=conS [.el C.env,.str] [.int .i64] fun a K=>X a.1 a.2.1 (fun q0=>K (q0,()))
theorem Uw:MT 75 (Vp Zm):=mS (l:=[]) trivial [(143000005,⟨bl 195,[1],[],[sI 8]⟩)]
def G4(X:Wi):Con Sg:=conS [.el C.env,.str,.int .i64] [.int .i64,.int .i64,.int .i64] fun a K=>X a.1 a.2.1 a.2.2.1 (fun q0 q1 q2=>K (q0,q1,q2,()))
theorem j4e{Q8:Wc}{Qg:Ze}(h:AL [(61,Bl Q8),(75,Vp Qg)]):MT 71 (G4 (q74 Q8 Qg)):=mS h [(131000005,⟨bl 195,[1],[],[sI 8]⟩)]
theorem q8c:MT 71 (G4 G3):=j4e ⟨q4h,Uw,trivial⟩
def z0c(X:q1a):Con Sg:=conS [.el C.val] [.el C.val] fun a K=>X a.1 (fun q0=>K (q0,()))
theorem z6u:MT 186 (z0c Gc):=mS (l:=[]) trivial []
def q7l(X:Wo):Con Sg:=conV [.el C.ex] [.el C.ex] [.el C.ex] [.same] fun a K=>X a.1 (fun q0=>K (q0,()) ((),()))
theorem z2f:MT 184 (q7l q0h):=by
 show MT _ (conV ([.el C.ex]:LP) ([.el C.ex]:LV) ([.el C.ex]:LV) ([.same]:LV) fun a K=>q0h a.1 (fun q0=>K (q0,()) ((),())))
 exact mQ (l:=[(186,z0c Gc)]) (u:=4) (rk:=[.el C.ex]) ⟨z6u,trivial⟩ (by kernel_rfl) [(186000007,⟨bl 7955,[],[],[(.slot 5,.own 149 C.val),sI 13]⟩),(221000007,⟨bl 7955,[],[],[(.slot 5,.own 56 C.ex),sI 13]⟩)] (fun X a K=>q7h Gc (fun e K=>X (e,()) fun r _=>K r.1) a.1 (fun q0=>K (q0,()) ((),()))) (fun _ _ _=>by kernel_rfl) fun a K h X hX=>h (fun e K=>X (e,()) fun r _=>K r.1) fun e K hs=>hX (e,()) (fun r _=>K r.1) hs
def Ux(X:J4):Con Sg:=conS [.el C.seg] [.el C.seg] fun a K=>X a.1 (fun q0=>K (q0,()))
theorem j2z{Zc:Wo}(h:AL [(184,q7l Zc)]):MT 134 (Ux (q6g Zc)):=mS h []
theorem q6x:MT 134 (Ux Wp):=j2z ⟨z2f,trivial⟩
def z4h(X:q3a):Con Sg:=conS [.el C.target] [.el C.target] fun a K=>X a.1 (fun q0=>K (q0,()))
theorem j4f:MT 189 (z4h R9):=mS (l:=[]) trivial []
def z0d(X:Rk):Con Sg:=conS [.el C.serve] [.el C.serve] fun a K=>X a.1 (fun q0=>K (q0,()))
theorem z6v:MT 192 (z0d q43):=mS (l:=[]) trivial []
end Go.En
end
noncomputable section
set_option maxRecDepth 100000
open Go Go.RowKit Go.Fl Go.Fl.Lk Go.Fx
namespace Go.En
def z2g(X:q30):Con Sg:=conS [.el C.rule] [.el C.rule] fun a K=>X a.1 (fun q0=>K (q0,()))
theorem j99{Zc:Wo}{Wk:Rk}(h:AL [(184,q7l Zc),(192,z0d Wk)]):MT 191 (z2g (z1t Zc Wk)):=mS h []
theorem w0a:MT 191 (z2g q0i):=j99 ⟨z2f,z6v,trivial⟩
def q0k(X:V9):Con Sg:=conS [.el C.flag] [.el C.flag] fun a K=>X a.1 (fun q0=>K (q0,()))
theorem w0b{Rz:q1a}{Bd:q3a}{q37:q30}{Wk:Rk}(h:AL [(186,z0c Rz),(189,z4h Bd),(191,z2g q37),(192,z0d Wk)]):MT 136 (q0k (z1u Rz Bd q37 Wk)):=mS h [(186000007,⟨bl 7955,[],[],[(.slot 5,.own 149 C.val),sI 13]⟩),(189000007,⟨bl 7955,[],[],[(.slot 5,.own 154 C.target),sI 13]⟩),(191000007,⟨bl 7955,[],[],[(.slot 5,.own 157 C.rule),sI 13]⟩)]
theorem z2h:MT 136 (q0k U4):=w0b ⟨z6u,j4f,w0a,z6v,trivial⟩
def J6(X:Q3):Con Sg:=conS [.sl C.cool] [.vec 125 C.cool] fun a K=>X a.1 (fun q0=>K (q0,()))
theorem J7:MT 193 (J6 Q4):=mS (l:=[]) trivial []
def q48(X:Gd):Con Sg:=conS [.el C.layer] [.el C.layer] fun a K=>X a.1 (fun q0=>K (q0,()))
theorem j7j{Qk:Q3}(h:AL [(193,J6 Qk)]):MT 138 (q48 (q91 Qk)):=mS h []
theorem z6w:MT 138 (q48 Ge):=j7j ⟨J7,trivial⟩
def Ws(X:Zy):Con Sg:=conS [.el C.exper] [.el C.exper] fun a K=>X a.1 (fun q0=>K (q0,()))
theorem z6x{Zc:Wo}(h:AL [(184,q7l Zc)]):MT 140 (Ws (q1b Zc)):=mS h []
theorem q1n:MT 140 (Ws Jg):=z6x ⟨z2f,trivial⟩
def q1o(X:Ut):Con Sg:=conS [.int .i64,.int .i64] [.int .i64] fun a K=>X a.1 a.2.1 (fun q0=>K (q0,()))
theorem z2i:MT 73 (q1o Hz):=mS (l:=[]) trivial []
def B0(X:Vl):Con Sg:=conS [.sl C.cool] [.vec 125 C.cool] fun a K=>X a.1 (fun q0=>K (q0,()))
theorem z5e{Qk:Q3}(h:AL [(193,J6 Qk)]):MT 141 (B0 (Bx Qk)):=mS h [(7,⟨bl 973,[],[],[sI 10,(.obj 0,.own 125 C.cool)]⟩),(13,⟨bl 16349,[],[],[sI 5,(.obj 0,.own 125 C.cool)]⟩)]
theorem z5f:MT 141 (B0 Gf):=z5e ⟨J7,trivial⟩
def Rr(X:Uu):Con Sg:=conS [.sl C.cool,.int .i64] [.vec 125 C.cool] fun a K=>X a.1 a.2.1 (fun q0=>K (q0,()))
theorem z8m{Gl:Vl}(h:AL [(141,B0 Gl)]):MT 74 (Rr (q2n Gl)):=mS h [(9,⟨bl 6163,[],[],[(.slot 5,.own 125 C.cool),sI 13,(.obj 0,.own 125 C.cool)]⟩),(28,⟨bl 129139,[],[],[sI 7,(.obj 0,.own 125 C.cool),(.obj 1,.own 125 C.cool)]⟩),(17,⟨bl 522355,[],[],[sI 7,sI 19,(.obj 0,.own 125 C.cool),(.obj 1,.own 125 C.cool)]⟩)]
theorem z8n:MT 74 (Rr Rl):=z8m ⟨z5f,trivial⟩
end Go.En
end
noncomputable section
set_option maxRecDepth 100000
open Go Go.RowKit Go.Fl Go.Fl.Lk Go.Fx Go.Proofs
namespace Go.En
def w99:Prop:= ∀(σ:Hv) (w:World) (v:Value) (l:List Col),View σ w->Glb D σ->RepF D σ v (.sl C.cool l)->Sml l.length->Calls Tryz.prog 193 #[v] w fun e w1=> ∃(u:Value) (σ1:Hv) (ys:List Value),e= .returned u/\St ⟨w,σ,[]⟩ w1 σ1 [vec u 125 3 l.length ys]/\Els D σ1 C.cool ys l
theorem w0c(hC:w99){σ:Hv}{w:World}{cs:List Value}{x:Lay_}(hV:View σ w)(hG:Glb D σ)(hr:RowF D σ cs (D.shape C.layer x))(hs:Sml x.6.length):
  Calls Tryz.prog 138 #[.agg cs.toArray] w fun e w1=> ∃(u:Value) (σ1:Hv) (ys:List Value),e= .returned (.agg (cs.set 5 u).toArray)/\u.oneCell'=true/\St ⟨w,σ,[]⟩ w1 σ1 [vec u 125 3 x.6.length ys]/\Els D σ1 C.cool ys x.6:=by
 refine enter Tryz.func138 rfl rfl rfl ?_
 have hS:=St.start hV
 obtain⟨c0,c1,c2,c3,c4,c5,rfl⟩: ∃c0 c1 c2 c3 c4 c5,cs=[c0,c1,c2,c3,c4,c5]:=by
  match cs,hr.1 with
  |[c0,c1,c2,c3,c4,c5],_=>exact⟨c0,c1,c2,c3,c4,c5,rfl⟩
 have h5:RepF D σ c5 (.sl C.cool x.6):=hr.2 5 c5 _ rfl rfl
 have ones: ∀u∈[c0,c1,c2,c3,c4,c5],u.oneCell'=true:=fun u hu=>by
  obtain⟨j,hj⟩:=List.mem_iff_getElem?.1 hu
  obtain⟨s,hs⟩:=getq (l:=D.shape C.layer x) (k:=j) (by rw[←hr.1];exact Qa hj)
  exact (hr.2 j u s hj hs).one
 refine Qn ?_
 refine v79 (cs:=[c0,c1,c2,c3,c4,c5]) hS rfl rfl ?_
 intro b1 w1 hS1
 refine q38 hS1 Tryz.zeroValue61 rfl ?_
 intro b2 w2 hS2
 refine wpList_nil ?_
 refine Qi ?_
 refine Qn ?_
 refine z7n (a':=⟨b1,5,none⟩) rfl Tryz.underlying61 rfl Tryz.sizeOf59 rfl ?_
 refine q4p (v:=c5) rfl Tryz.isAgg59 (hS2.cell (i:=1) rfl rfl) ?_
 refine q8k (args:=[c5]) rfl (fun _ _=>rfl) (Calls.mono (hC σ w2 c5 x.6 hS2.view hG h5 hs) ?_)
 rintro e w3 ⟨u,σ3,ys,rfl,hS3,hE⟩
 obtain⟨a,cap,rfl⟩:=z1c (hS3.get (i:=0) rfl)
 have hS4:=St.callM (ins:=[]) hS2 hS3 rfl
 refine⟨_,rfl,?_⟩
 refine z7n (a':=⟨b1,5,none⟩) rfl Tryz.underlying61 rfl Tryz.sizeOf59 rfl ?_
 refine Bs (vs:=[.slice a x.6.length cap]) hS4 rfl rfl rfl Tryz.sizeOf59 rfl (by simp[Value.oneCell']) (i:=2) rfl (by simp) rfl rfl ?_
 intro w4 hS5
 refine wpList_nil ?_
 refine Qi ?_
 refine Qn ?_
 refine j06 (cs:=[c0,c1,c2,c3,c4,.slice a x.6.length cap]) rfl Tryz.isAgg61 Tryz.sizeOf61 rfl (q2c (hS5.get (i:=2) rfl)) ?_
 refine Bs (vs:=[c0,c1,c2,c3,c4,.slice a x.6.length cap]) hS5 rfl rfl rfl Tryz.sizeOf61 rfl (fun u hu=> ?_) (i:=1) rfl (by decide) rfl rfl ?_
 ·simp only[List.mem_cons,List.not_mem_nil,or_false] at hu
  rcases hu with rfl|rfl|rfl|rfl|rfl|rfl
  all_goals first|rfl|exact ones _ (by simp)
 intro w5 hS6
 refine wpList_nil ?_
 refine Qi ?_
 refine wp_ret ?_
 refine v39 rfl rfl (hS6.get (i:=1) rfl) Tryz.underlying61 rfl rfl ?_
 exact⟨.slice a x.6.length cap,σ3,ys,rfl,rfl,(hS6.drop 2 rfl).drop 1 rfl,hE⟩
section
variable {P:Program}{ops:Array Oper}{Q:Exit->Act->World->Prop}{rest:List Oper}{n:Nat}{f:Fr}{w:World}{d:Nat}{t:TypeId}{p:String}{af:Array Edge}{c:Cx}{σ:Hv}{ms:List HObj}
theorem v0a{ty e:TypeId}{l cc:Operand}{k size:Nat}{i:TypeInfo}{z:Value}(hS:St c w σ ms)(hl:ev n f l= .int .i64 (0:Int))(hc:ev n f cc= .int .i64 ((k:Nat):Int))
  (hu:P.underlying ty=some (.slice e))(hi:P.info? e=some i)(hz:i.zero=some z)(hsz:i.size=size)(hzl:z.cells.toList.length=size)(hb:i.bytes*k<=281474976710656)(hm:k<=maxLen)
  (h: ∀b w',St c w' σ (vec (.slice (some ⟨b,0,none⟩) 0 k) e size 0 []::ms)->wpList P ops Q rest (mk n (upd f d (.slice (some ⟨b,0,none⟩) 0 k))) w'):
  wpList P ops Q (⟨some d,.makeSlice ty l cc,t,p,af,none⟩::rest) (mk n f) w:=by
 obtain⟨w',hr,ho,hg⟩:=z89 (P:=P) w ty e i z size hu hi hz hsz hzl 0 k (Nat.zero_le _) hb hm
 refine q4r rfl rfl (by simp only[execOp,hl,hc,Sem.run_bind];rw[show ((0:Int))=((0:Nat):Int) from rfl,hr];simp only[Result.andThen_ok];rfl) (h _ _ (hS.add ⟨hg.os,hg.tape,hg.output,hg.size,fun k hk _=>hg.block k hk (by simp)⟩ ?_ (by rintro k ⟨⟩;exact Nat.le_refl _)))
 have ho:(vec (.slice (some ⟨w.heap.size,0,none⟩) 0 k) e size 0 (List.replicate 0 z.cells.toList).flatten).ok w':=ho
 exact ho
end
def CopS(σ:Hv)(xs:List Value)(l:List Lay_)(j k:Nat)(u:Value):Prop:=
 xs.length=j*6/\ ∀(i:Nat) y,i<j->l[i]? =some y-> ∀(q:Nat) v s,((xs.drop (i*6)).take 6)[q]? =some v->(D.shape C.layer y)[q]? =some s->(i=k/\q=5/\v=u)∨(¬(i=k/\q=5)/\RepF D σ v s)
theorem CopS.snoc{σ τ:Hv}{xs cs:List Value}{l:List Lay_}{j k:Nat}{u u':Value}{y:Lay_}(h:CopS σ xs l j k u)(hs:Sub σ τ)(hy:l[j]? =some y)(hcl:cs.length=6)(hu:k<j->u'=u)
  (hr: ∀(q:Nat) v s,cs[q]? =some v->(D.shape C.layer y)[q]? =some s->(j=k/\q=5/\v=u')∨(¬(j=k/\q=5)/\RepF D τ v s)):CopS τ (xs++cs) l (j+1) k u':=by
 have h1:=h.1
 refine⟨by rw[List.length_append];omega,fun i z hi hz q v s hv hs'=> ?_⟩
 by_cases e:i=j
 ·subst e
  rw[hy] at hz;cases hz
  refine hr q v s ?_ hs'
  rw[List.drop_append_of_le_length (by omega),List.drop_eq_nil_of_le (by omega),List.nil_append,List.take_of_length_le (by omega)] at hv
  exact hv
 ·have hi':i<j:=by omega
  have hb:(i+1)*6<=j*6:=Nat.mul_le_mul_right _ hi'
  rw[List.drop_append_of_le_length (by omega),List.take_append_of_le_length (by rw[List.length_drop];omega)] at hv
  rcases h.2 i z hi' hz q v s hv hs' with ⟨e1,e2,e3⟩|⟨no,hr'⟩
  ·exact .inl ⟨e1,e2,e3.trans (hu (by omega)).symm⟩
  ·exact .inr ⟨no,hr'.mono hs⟩
theorem w2v(hC:w99){σ:Hv}{w:World}{v:Value}{l:List Lay_}{k:Nat}{x:Lay_}(hV:View σ w)(hG:Glb D σ)(hf:RepF D σ v (.sl C.layer l))(hsm:Sml l.length)(hcs: ∀x∈l,Sml x.6.length)(hk:l[k]? =some x):
  Calls Tryz.prog 137 #[v,.func (.func 138) #[] #[]] w fun e w1=> ∃(r u:Value) (σ1:Hv) (xs ys:List Value),e= .returned r/\r.oneCell'=true/\u.oneCell'=true/\St ⟨w,σ,[]⟩ w1 σ1 [vec r 61 6 l.length xs,vec u 125 3 x.6.length ys]/\CopS σ1 xs l l.length k u/\Els D σ1 C.cool ys x.6:=by
 refine enter Tryz.func137 rfl rfl rfl ?_
 have hS:=St.start hV
 obtain⟨ad,cap,rfl,_,h47,hrow⟩:=hf.toRSl okP.ok
 have hsm':l.length<=4294967296:=hsm
 have hkl:=Qa hk
 refine Qn ?_
 refine Qx (v:= .slice none 0 0) rfl ?_
 refine wpList_nil ?_
 refine Qi ?_
 refine Qn ?_
 refine Qv (v:= .slice ad l.length cap) rfl ?_
 refine q5q rfl Tryz.underlying32 ?_
 refine v0a (k:=l.length) (size:=6) hS rfl rfl Tryz.underlying32 rfl rfl rfl rfl (by show 88*l.length<=_;omega) (by unfold maxLen;omega) ?_
 intro b0 w1 hS1
 refine Qx (v:= .slice (some ⟨b0,0,none⟩) 0 l.length) rfl ?_
 refine wpList_nil ?_
 refine Qi ?_
 refine wp_seq ?_
 refine Qn ?_
 refine Qv (v:= .slice ad l.length cap) rfl ?_
 refine q5q rfl Tryz.underlying32 ?_
 refine Qv (v:= .int .i64 ((0:Nat):Int)) rfl ?_
 refine wpList_nil ?_
 refine Qi ?_
 refine wp_block ?_
 refine loop (fun m f z=> ∃(j:Nat) (r u:Value) (σj:Hv) (xs ys:List Value),m=l.length - j/\j<=l.length/\f 1= .func (.func 138) #[] #[]/\f 5=r/\f 11= .slice ad l.length cap/\f 12= .int .i64 ((l.length:Nat):Int)/\f 13= .int .i64 ((j:Nat):Int)/\r.oneCell'=true/\Sub σ σj/\
  St ⟨w,σ,[]⟩ z σj (vec r 61 6 j xs::(if k<j then [vec u 125 3 x.6.length ys] else []))/\CopS σj xs l j k u/\(k<j->u.oneCell'=true/\Els D σj C.cool ys x.6)) (m0:=l.length)
  ⟨0,.slice (some ⟨b0,0,none⟩) 0 l.length,.slice none 0 0,σ,[],[],rfl,Nat.zero_le _,rfl,rfl,rfl,rfl,rfl,rfl,Sub.refl _,by rw[if_neg (by omega)];exact hS1,⟨rfl,fun i y hi=>by omega⟩,fun h=>by omega⟩ ?_
 rintro _ f z ⟨j,r,u,σj,xs,ys,rfl,hj,f1,f5,f11,f12,f13,hr1,hsub,hSj,hcop,hku⟩
 refine Qn ?_
 refine w05 (r:=decide (((j:Nat):Int)<((l.length:Nat):Int))) f13 f12 rfl ?_
 refine wpList_nil ?_
 refine Qi ?_
 refine wp_seq ?_
 refine if_d (((j:Nat):Int)<((l.length:Nat):Int)) rfl (fun ht=> ?_) (fun ht=> ?_)
 ·refine wp_skip ?_
  refine Qi ?_
  refine wp_seq ?_
  refine wp_block ?_
  have hjl:j<l.length:=by omega
  obtain⟨y,hy⟩:=getq (l:=l) (k:=j) hjl
  obtain⟨ad1,cs,had,hcl,hvr,hrF⟩:=hrow j y hy
  obtain⟨c0,c1,c2,c3,c4,c5,rfl⟩: ∃c0 c1 c2 c3 c4 c5,cs=[c0,c1,c2,c3,c4,c5]:=by
   match cs,hcl with
   |[c0,c1,c2,c3,c4,c5],_=>exact⟨c0,c1,c2,c3,c4,c5,rfl⟩
  have ones: ∀u∈[c0,c1,c2,c3,c4,c5],u.oneCell'=true:=fun u hu=>by
   obtain⟨q,hq⟩:=List.mem_iff_getElem?.1 hu
   obtain⟨s,hs⟩:=getq (l:=D.shape C.layer y) (k:=q) (by rw[←hrF.1];exact Qa hq)
   exact (hrF.2 q u s hq hs).one
  refine Qn ?_
  refine q0o (k:=j) (a':=ad1.add (j*6)) (f11.trans (by rw[had])) f13 rfl hjl Tryz.underlying32 Tryz.sizeOf61 rfl ?_
  refine j06 (cs:=[c0,c1,c2,c3,c4,c5]) rfl Tryz.isAgg61 Tryz.sizeOf61 rfl (hvr.row (View.of hsub hSj.view)) ?_
  refine q38 hSj Tryz.zeroValue61 rfl ?_
  intro b7 w2 hS2
  refine Bs (vs:=[c0,c1,c2,c3,c4,c5]) hS2 rfl rfl rfl Tryz.sizeOf61 rfl ones (i:=0) rfl (by decide) rfl rfl ?_
  intro w3 hS3
  refine wpList_nil ?_
  refine Qi ?_
  refine G6 ?_
  refine Qv (v:=r) f5 ?_
  refine Qv (v:= .func (.func 138) #[] #[]) f1 ?_
  refine j06 (cs:=[c0,c1,c2,c3,c4,c5]) rfl Tryz.isAgg61 Tryz.sizeOf61 rfl (q2c (hS3.get (i:=0) rfl)) ?_
  refine w7k (first:=[]) (captured:=[]) (args:=[.agg #[c0,c1,c2,c3,c4,c5]]) rfl rfl (fun _ _=>rfl) (Calls.mono (w0c hC hS3.view (hG.mono hsub) (hrF.mono hsub) (hcs y (List.mem_of_getElem? hy))) ?_)
  rintro _ w4 ⟨u',σ4,ys',rfl,hu1,hS4,hE4⟩
  refine⟨_,rfl,?_⟩
  have hS5:=St.callM (ins:=[]) hS3 hS4 rfl
  refine q25 (cs:=[c0,c1,c2,c3,c4,u']) (e:=61) hS5 (fun _=>by kernel_rfl) ?_
  intro b8 w5 hS6
  refine j6f (Ms:=fun v2=>blk b8 61 [c0,c1,c2,c3,c4,u']::vec u' 125 3 y.6.length ys'::blk b7 61 [c0,c1,c2,c3,c4,c5]::vec v2 61 6 (j+1) (xs++[c0,c1,c2,c3,c4,u'])::(if k<j then [vec u 125 3 x.6.length ys] else [])) (xs':=xs++[c0,c1,c2,c3,c4,u']) Tryz.underlying32 Tryz.type61 rfl rfl (bytes:=88) rfl rfl (Nat.succ_pos _) hS6 (v:=r) rfl (q:=3) rfl rfl rfl (q2c (hS6.get (i:=0) rfl)) (fun z hz=> ?_) (by omega) (by unfold maxLen;omega) rfl (fun _=>rfl) ?_
  ·simp only[List.mem_cons,List.not_mem_nil,or_false] at hz
   rcases hz with rfl|rfl|rfl|rfl|rfl|rfl
   all_goals first|exact hu1|exact ones _ (by simp)
  intro v2 w6 hv2 hS7
  refine Qx (v:=v2) rfl ?_
  refine wpList_nil ?_
  refine j33 ?_
  refine Qi ?_
  refine G6 ?_
  refine z1a (r:=((j+1:Nat):Int)) f13 rfl (nw (by omega) (by omega) (by omega)) ?_
  refine Qv (v:= .int .i64 ((j+1:Nat):Int)) rfl ?_
  refine wpList_nil ?_
  refine Qi ?_
  have hS8:=(hS7.drop 2 rfl).drop 0 rfl
  have cells: ∀(q:Nat) v s,[c0,c1,c2,c3,c4,u'][q]? =some v->(D.shape C.layer y)[q]? =some s->(q=5/\v=u')∨(q≠5/\RepF D σ v s):=fun q v s hv hs=>by
   match q,hv with
   |0,hv=>exact .inr ⟨by decide,hrF.2 0 v s hv hs⟩
   |1,hv=>exact .inr ⟨by decide,hrF.2 1 v s hv hs⟩
   |2,hv=>exact .inr ⟨by decide,hrF.2 2 v s hv hs⟩
   |3,hv=>exact .inr ⟨by decide,hrF.2 3 v s hv hs⟩
   |4,hv=>exact .inr ⟨by decide,hrF.2 4 v s hv hs⟩
   |5,hv=>cases hv;exact .inl ⟨rfl,rfl⟩
  have hs4:=hS4.sub
  by_cases hjk:j=k
  ·subst hjk
   rw[hk] at hy;cases hy
   rw[if_neg (by omega)] at hS8
   refine⟨_,_,rfl,⟨j+1,v2,u',σ4,xs++[c0,c1,c2,c3,c4,u'],ys',rfl,by omega,f1,rfl,f11,f12,rfl,hv2,hsub.trans hs4,?_,hcop.snoc hs4 hk rfl (fun h=>by omega) (fun q v s hv hs=> ?_),fun _=>⟨hu1,hE4⟩⟩,by omega⟩
   ·rw[if_pos (by omega)]
    exact hS8.perm (List.Perm.swap _ _ _)
   ·rcases cells q v s hv hs with ⟨e1,e2⟩|⟨e1,e2⟩
    ·exact .inl ⟨rfl,e1,e2⟩
    ·exact .inr ⟨fun e=>e1 e.2,e2.mono (hsub.trans hs4)⟩
  ·obtain⟨σ5,hS9,hs5,hrep⟩:=z7s (T:=C.cool) okP.ok hS8 hE4 (by have h1:y.6.length<=4294967296:=hcs y (List.mem_of_getElem? hy);omega)
   have hS10:=hS9.drop 0 rfl
   have hs:=hs4.trans hs5
   refine⟨_,_,rfl,⟨j+1,v2,u,σ5,xs++[c0,c1,c2,c3,c4,u'],ys,rfl,by omega,f1,rfl,f11,f12,rfl,hv2,hsub.trans hs,?_,hcop.snoc hs hy rfl (fun _=>rfl) (fun q v s hv hs'=> ?_),fun h=>⟨(hku (by omega)).1,(hku (by omega)).2.mono hs⟩⟩,by omega⟩
   ·rw[show (if k<j+1 then [vec u 125 3 x.6.length ys] else [])=(if k<j then [vec u 125 3 x.6.length ys] else []) from by
     by_cases h:k<j
     ·rw[if_pos h,if_pos (by omega)]
     ·rw[if_neg h,if_neg (by omega)]]
    exact hS10
   ·rcases cells q v s hv hs' with ⟨e1,e2⟩|⟨e1,e2⟩
    ·subst e1 e2
     cases hs'
     exact .inr ⟨fun e=>hjk e.1,hrep⟩
    ·exact .inr ⟨fun e=>e1 e.2,e2.mono (hsub.trans hs)⟩
 ·refine wp_exit ?_
  refine q8l ?_
  refine q8l ?_
  refine z4q ?_
  refine Qi ?_
  refine Qn ?_
  refine Qv (v:=r) f5 ?_
  refine Qx (v:=r) rfl ?_
  refine wpList_nil ?_
  refine Qi ?_
  refine wp_ret ?_
  refine ret1 rfl (show ev _ _ _=r from rfl) ?_
  obtain rfl:j=l.length:=by omega
  rw[if_pos hkl] at hSj
  exact⟨r,u,σj,xs,ys,rfl,hr1,(hku hkl).1,hSj,hcop,(hku hkl).2⟩
theorem v0b{σ:Hv}{t0:Tr Sg}{v0:Value}{ms m:List HObj}(h:LayT D σ [t0] [.same] [v0] ms m):m=[]:=by
 cases h with
 |skip h=>cases h;rfl
 |keep h h'=>
  cases h'
  cases h with
  |same=>rfl
  |v=>rfl
theorem v86:w99:=by
 intro σ w v l hV hG hf hs
 have h:=J7.m (putL ([.sl C.cool]:LV) (l,())) (fun rets outs=>rets=[.vec 125 C.cool l]/\outs=[.same]) (by
  show Q4 l fun (q:List Col)=>([Tr.vec (S:=Sg) 125 C.cool q]:List (Tr Sg))=[Tr.vec (S:=Sg) 125 C.cool l]/\([.same]:List (Tr Sg))=[.same]
  unfold Q4
  intro n0 hn
  exact⟨fun h=>by rw[hn h];exact⟨rfl,rfl⟩,fun _=>⟨by simpa using hs,rfl,rfl⟩⟩) w σ [v] [] hG (.cons (ms:=[]) (.f hf) .nil) (St.start hV)
 refine Calls.mono h ?_
 rintro e w1 ⟨rets,outs,rv,σ1,msr,mso,rfl,hq,hLr,hLT,hS⟩
 obtain⟨hq1,hq2⟩:=hq
 subst hq1 hq2
 cases hLr with
 | @cons _ _ u _ m1 _ h1 hn=>
 cases hn
 cases h1 with
 | @vec _ _ _ _ ys hE hl h1=>
 have hmo:mso=[]:=v0b hLT
 subst hmo
 exact⟨_,σ1,ys,rfl,hS,hE⟩
theorem z8o:q70 Proofs.Tryz.prog D 137 (conV ([.sl C.layer,.fnc 138]:LP) ([.sl C.layer,.fnc 138]:LV) ([.vech 61 C.layer 5 125 C.cool]:LV) ([.same,.same]:LV) (fun a K=>q2p a.1 (fun q0=>K (q0,()) ((),(),())))):=by
 intro args K hm w σ vals ins hG hL hS
 obtain⟨a,ha,hm⟩:=Qf hm
 have hargs:=Vh ha
 subst hargs
 obtain⟨l,_,_⟩:=a
 cases hL with
 | @cons _ _ v1 _ _ _ hp hr=>
 cases hr with
 | @cons _ _ v2 _ _ _ hq hr=>
 cases hr
 cases hp with
 |f hf1=>
 cases hq
 obtain⟨hsm,hcs,k,x,hk,hK⟩:=hm
 refine Calls.mono (w2v v86 hS.view hG hf1 hsm hcs hk) ?_
 rintro e w1 ⟨r,u,σ1,xs,ys,rfl,hr1,hu1,hS1,hcop,hE⟩
 have b1:l.length<=4294967296:=hsm
 have b2:x.6.length<=4294967296:=hcs x (List.mem_of_getElem? hk)
 exact⟨_,[.same,.same],[r],σ1,_,[],rfl,hK,.cons (.vech ⟨hcop.1,hu1,fun i y hy=>⟨rfl,fun q v s hv hs=>hcop.2 i y (Qa hy) hy q v s hv hs⟩⟩ (Nat.le_trans b1 (by decide)) hr1 hE (Nat.le_trans b2 (by decide))) .nil,.skip (a0:=[]) (.skip (a0:=[]) .nil),hS1⟩
end Go.En
end
noncomputable section
set_option maxRecDepth 100000
open Go Go.RowKit Go.Fl Go.Fl.Lk Go.Fx
namespace Go.En
def q2v(X:q2o):Con Sg:=conV [.sl C.layer,.fnc 138] [.sl C.layer,.fnc 138] [.vech 61 C.layer 5 125 C.cool] [.same,.same] fun a K=>X a.1 (fun q0=>K (q0,()) ((),(),()))
theorem z8p:MT 137 (q2v q2p):=⟨entB (by kernel_rfl),z8o⟩
def q8d(X:Ba):Con Sg:=conS [.el C.env,.str,.int .i64] [.el C.env,.int .i64] fun a K=>X a.1 a.2.1 a.2.2.1 (fun q0 q1=>K (q0,q1,()))
theorem j4g{Zf:Wi}{Q2:J4}{Zt:V9}{Uz:q2o}{Qo:Zy}{U0:Uu}{Jm:Ut}(h:AL [(71,G4 Zf),(134,Ux Q2),(136,q0k Zt),(140,Ws Qo),(74,Rr U0),(73,q1o Jm)])(ha:AL [(137,q2v Uz)]):MT 18 (q8d (q75 Zf Q2 Zt Uz Qo U0 Jm)):=mtS (E:=E0.wa [(137,q2v Uz)]) (l:=[(71,G4 Zf),(134,Ux Q2),(136,q0k Zt),(140,Ws Qo),(74,Rr U0),(73,q1o Jm)]) (u:=4) (p:=Zb [(73990017,⟨[],[],[],[]⟩),(73000004,⟨[0,1,2],[3],[(2,(35,8))],[(.cell 2 3,.sl C.decl)]⟩),(134000007,⟨bl 7955,[],[],[(.slot 5,.own 97 C.seg),sI 13]⟩),(136000007,⟨bl 7955,[],[],[(.slot 5,.own 91 C.flag),sI 13]⟩),(140000007,⟨bl 7955,[],[],[(.slot 5,.own 58 C.exper),sI 13]⟩),(32,⟨bl 2251765252562895,[17,21,3,2,10,6,1,0],[],[(.slot 13,.own 125 C.cool),(.obj 13,.vech 61 C.layer 5)]⟩),(25,⟨bl 9223371452537839567,[],[],[(.slot 13,.own 125 C.cool),sI 63,(.obj 13,.vech 61 C.layer 5)]⟩)]) (rk:=List.map VT.pk ([.el C.env,.int .i64]:LV)) (wa3 h_E0 ha) h (by kernel_rfl) (fun _ _=>by kernel_rfl)
theorem j4h:MT 18 (q8d q3b):=j4g ⟨q8c,q6x,z2h,q1n,z8n,z2i,trivial⟩ ⟨z8p,trivial⟩
def q7m(X:G9):Con Sg:=conS [.el C.env,.str] [.int .i64] fun a K=>X a.1 a.2.1 (fun q0=>K (q0,()))
theorem z6y:MT 19 (q7m Ha):=mS (l:=[]) trivial [(5,⟨[0,1,2],[0],[],[sI 5]⟩)]
def B1(X:Wf):Con Sg:=conS [.el C.layer,.int .i64] [.vec 75 C.span] fun a K=>X a.1 a.2.1 (fun q0=>K (q0,()))
theorem q6y:MT 122 (B1 Z6):=mS (l:=[]) trivial [(7,⟨bl 1815,[0],[],[(.slot 5,.own 75 C.span),sI 11]⟩)]
def q1p(X:Vm):Con Sg:=conS [.el C.env,.str,.str,.int .i64] [.sl C.span] fun a K=>X a.1 a.2.1 a.2.2.1 a.2.2.2.1 (fun q0=>K (q0,()))
theorem j20{Qg:Ze}{Jr:Gn}{Zg:Wf}(h:AL [(75,Vp Qg),(36,q4d Jr),(122,B1 Zg)]):MT 77 (q1p (q6h Qg Jr Zg)):=mS h [(10,⟨bl 254751,[0],[],[(.slot 10,.own 75 C.span)]⟩),(13,⟨bl 120259339039,[0],[],[(.slot 10,.own 75 C.span),sI 37]⟩)]
theorem z2j:MT 77 (q1p H0):=j20 ⟨Uw,z0x,q6y,trivial⟩
def H7(X:J5):Con Sg:=conV [.sl C.span,.sl C.span] [.sl C.span,.sl C.span] [.sl C.span] [.same,.same] fun a K=>X a.1 a.2.1 (fun q0=>K (q0,()) ((),(),()))
theorem q1q:MT 76 (H7 Vn):=⟨entB (by kernel_rfl),j17⟩
def q8e(X:Bb):Con Sg:=conS [.el C.env,.str,.int .i64] [.sl C.span,.int .i64] fun a K=>X a.1 a.2.1 a.2.2.1 (fun q0 q1=>K (q0,q1,()))
theorem j4i{Q8:Wc}{Qg:Ze}{Wa:Vm}{Qq:J5}(h:AL [(61,Bl Q8),(75,Vp Qg),(77,q1p Wa),(76,H7 Qq)]):MT 21 (q8e (q76 Q8 Qg Wa Qq)):=mS h []
theorem j4j:MT 21 (q8e q3c):=j4i ⟨q4h,Uw,z2j,q1q,trivial⟩
def q4i(X:Gx):Con Sg:=conV [.sl C.span,.sl C.span] [.sl C.span,.sl C.span] [.sl C.span] [.same,.same] fun a K=>X a.1 a.2.1 (fun q0=>K (q0,()) ((),(),()))
theorem z00:MT 22 (q4i W1):=⟨entB (by kernel_rfl),z9u⟩
def z2k(X:q6i):Con Sg:=conV [.sl C.span,.v] [.sl C.span,.int .i64] [.sl C.span] [.same,.same] fun a K=>X a.1 a.2.1 (fun q0=>K (q0,()) ((),(),()))
theorem j21:MT 82 (z2k q1c):=⟨entB (by kernel_rfl),j18⟩
def z2l(X:q6j):Con Sg:=conV [.sl C.span,.sl C.span] [.sl C.span,.sl C.span] [.sl C.span] [.same,.same] fun a K=>X a.1 a.2.1 (fun q0=>K (q0,()) ((),(),()))
theorem j22:MT 81 (z2l q1d):=⟨entB (by kernel_rfl),j16⟩
def q6z(X:H1):Con Sg:=conS [.el C.env,.str,.int .i64,.int .i64] [.el C.env,.int .i64] fun a K=>X a.1 a.2.1 a.2.2.1 a.2.2.2.1 (fun q0 q1=>K (q0,q1,()))
theorem j23{Zf:Wi}{q3o:Bb}{Wj:R6}{q16:q6i}{q17:q6j}{Q2:J4}{Zt:V9}{Wb:Gd}{Qo:Zy}(h:AL [(71,G4 Zf),(21,q8e q3o),(37,q78 Wj),(82,z2k q16),(81,z2l q17),(134,Ux Q2),(136,q0k Zt),(138,q48 Wb),(140,Ws Qo)]):MT 23 (q6z (q6k Zf q3o Wj q16 q17 Q2 Zt Wb Qo)):=mS h [(134000007,⟨bl 7955,[],[],[(.slot 5,.own 97 C.seg),sI 13]⟩),(136000007,⟨bl 7955,[],[],[(.slot 5,.own 91 C.flag),sI 13]⟩),(138000007,⟨bl 7955,[],[],[(.slot 5,.own 61 C.layer),sI 13]⟩),(140000007,⟨bl 7955,[],[],[(.slot 5,.own 58 C.exper),sI 13]⟩)]
theorem j24:MT 23 (q6z q1e):=j23 ⟨q8c,j4j,z4e,j21,j22,q6x,z2h,z6w,q1n,trivial⟩
end Go.En
end
noncomputable section
set_option maxRecDepth 100000
open Go Go.RowKit Go.Fl Go.Fl.Lk Go.Fx
namespace Go.En
def q60(X:H2):Con Sg:=conS [.el C.env,.str,.int .i64] [.el C.env,.int .i64] fun a K=>X a.1 a.2.1 a.2.2.1 (fun q0 q1=>K (q0,q1,()))
theorem j25{Zf:Wi}{Wa:Vm}{Js:Gx}{Q2:J4}{Zt:V9}{Wb:Gd}{Qo:Zy}(h:AL [(71,G4 Zf),(77,q1p Wa),(22,q4i Js),(134,Ux Q2),(136,q0k Zt),(138,q48 Wb),(140,Ws Qo)]):MT 28 (q60 (q6l Zf Wa Js Q2 Zt Wb Qo)):=mS h [(134000007,⟨bl 7955,[],[],[(.slot 5,.own 97 C.seg),sI 13]⟩),(136000007,⟨bl 7955,[],[],[(.slot 5,.own 91 C.flag),sI 13]⟩),(138000007,⟨bl 7955,[],[],[(.slot 5,.own 61 C.layer),sI 13]⟩),(140000007,⟨bl 7955,[],[],[(.slot 5,.own 58 C.exper),sI 13]⟩)]
theorem j26:MT 28 (q60 q1f):=j25 ⟨q8c,z2j,z00,q6x,z2h,z6w,q1n,trivial⟩
end Go.En
end
noncomputable section
set_option maxRecDepth 100000
open Go Go.RowKit Go.Fl Go.Fl.Lk Go.Fx
namespace Go.En
def z0e(X:q1g):Con Sg:=conS [.el C.env,.int .i64] [.bool] fun a K=>X a.1 a.2.1 (fun q0=>K (q0,()))
theorem j7k{Jl:Uo}{Zn:Gs}(h:AL [(96,q6q Jl),(83,q87 Zn)]):MT 31 (z0e (q92 Jl Zn)):=mS h [(5,⟨[0,1,2],[0],[],[sI 5]⟩),(13,⟨bl 66910311,[2],[],[sI 7]⟩),(25,⟨bl 144115181599652775,[6,4],[],[sI 57]⟩)]
theorem j7l:MT 31 (z0e q1h):=j7k ⟨z11,z13,trivial⟩
def Rs(X:Jz):Con Sg:=conS [.el C.env,.str] [.el C.exper,.bool] fun a K=>X a.1 a.2.1 (fun q0 q1=>K (q0,q1,()))
theorem q2w:MT 62 (Rs Vf):=mS (l:=[]) trivial [(5,⟨bl 1815,[0],[(1,(58,12))],[sI 11,(.cell 1 0,.str),(.cell 1 1,.str),(.cell 1 2,.str),(.cell 1 3,.str),(.cell 1 4,.int .i64),(.cell 1 5,.sl C.span),(.cell 1 6,.sl C.range),(.cell 1 7,.int .i64),(.cell 1 8,.str),(.cell 1 9,.str),(.cell 1 10,.sl C.val),(.cell 1 11,.sl C.ex)]⟩)]
def Gz(X:Jp):Con Sg:=conS [.sl C.str,.sl C.str] [.bool] fun a K=>X a.1 a.2.1 (fun q0=>K (q0,()))
theorem q4j:MT 180 (Gz Jq):=mS (l:=[]) trivial [(9,⟨bl 8131,[],[],[sI 13]⟩)]
def q7n(X:q0j):Con Sg:=conS [.el C.val,.el C.val] [.bool] fun a K=>X a.1 a.2.1 (fun q0=>K (q0,()))
theorem w0d{Jt:Jp}(h:AL [(180,Gz Jt)]):MT 121 (q7n (z1v Jt)):=mS h []
theorem z9f:MT 121 (q7n H3):=w0d ⟨q4j,trivial⟩
def j27(X:By):Con Sg:=conV [.el C.ex,.el C.ex] [.el C.ex,.el C.ex] [.bool] [.same,.same] fun a K=>X a.1 a.2.1 (fun q0=>K (q0,()) ((),(),()))
theorem w2w:MT 118 (j27 q93):=by
 show MT _ (conV ([.el C.ex,.el C.ex]:LP) ([.el C.ex,.el C.ex]:LV) ([.bool]:LV) ([.same,.same]:LV) fun a K=>q93 a.1 a.2.1 (fun q0=>K (q0,()) ((),(),())))
 exact mQ (l:=[(121,q7n H3)]) (u:=4) (rk:=[.v]) ⟨z9f,trivial⟩ (by kernel_rfl) [(121000009,⟨bl 130055,[],[],[sI 17]⟩),(178000009,⟨bl 130055,[],[],[sI 17]⟩)] (fun X a K=>z42 H3 (fun a b K=>X (a,b,()) fun r _=>K r.1) a.1 a.2.1 (fun q0=>K (q0,()) ((),(),()))) (fun _ _ _=>by kernel_rfl) fun a K h X hX=>h (fun a b K=>X (a,b,()) fun r _=>K r.1) fun a b K hs=>hX (a,b,()) (fun r _=>K r.1) hs
def z4i(X:q3d):Con Sg:=conS [.el C.env,.str] [.el C.flag,.bool] fun a K=>X a.1 a.2.1 (fun q0 q1=>K (q0,q1,()))
theorem j4k:MT 119 (z4i q3e):=mS (l:=[]) trivial [(179000005,⟨bl 195,[1],[],[sI 8]⟩)]
def B2(X:Vo):Con Sg:=conS [.el C.env,.el C.env,.el C.exper,.el C.exper] [.bool] fun a K=>X a.1 a.2.1 a.2.2.1 a.2.2.2.1 (fun q0=>K (q0,()))
theorem z5g{z0u:By}{Qq:J5}{Qg:Ze}{Be:q3d}{q0l:q0j}(h:AL [(118,j27 z0u),(76,H7 Qq),(75,Vp Qg),(119,z4i Be),(121,q7n q0l)]):MT 63 (B2 (Bz z0u Qq Qg Be q0l)):=mS h [(118000009,⟨bl 8131,[],[],[sI 13]⟩),(121000009,⟨bl 130055,[],[],[sI 17]⟩)]
theorem z5h:MT 63 (B2 Gg):=z5g ⟨w2w,q1q,Uw,j4k,z9f,trivial⟩
def q4k(X:Gy):Con Sg:=conS [.el C.env,.el C.env,.el C.exper,.int .i64] [.int .i64] fun a K=>X a.1 a.2.1 a.2.2.1 a.2.2.2.1 (fun q0=>K (q0,()))
theorem z94{Qz:Jz}{Qq:J5}{Qg:Ze}{Zg:Wf}{Js:Gx}(h:AL [(62,Rs Qz),(76,H7 Qq),(75,Vp Qg),(122,B1 Zg),(22,q4i Js)]):MT 64 (q4k (q4c Qz Qq Qg Zg Js)):=mS h [(5,⟨bl 917631,[2,1,0],[],[sI 20]⟩),(21,⟨bl 2251765458024575,[6,4,2,1,0],[],[sI 51]⟩)]
theorem z95:MT 64 (q4k Bk):=z94 ⟨q2w,q1q,Uw,q6y,z00,trivial⟩
end Go.En
end
noncomputable section
set_option maxRecDepth 100000
open Go Go.RowKit Go.Fl Go.Fl.Lk Go.Fx
namespace Go.En
def q61(X:H4):Con Sg:=conS [.el C.env,.el C.env,.el C.layer,.int .i64] [.bool] fun a K=>X a.1 a.2.1 a.2.2.1 a.2.2.2.1 (fun q0=>K (q0,()))
theorem j28{Qq:J5}{Qz:Jz}{Jm:Ut}{Qg:Ze}(h:AL [(76,H7 Qq),(62,Rs Qz),(73,q1o Jm),(75,Vp Qg)]):MT 65 (q61 (q6m Qq Qz Jm Qg)):=mS h [(31,⟨bl 9079257389944801919,[3,2,1,0],[],[(.slot 63,.int .i64)]⟩),(41,⟨bl 1237940039141265627989379711,[9,7],[],[(.slot 90,.int .i64)]⟩),(10,⟨bl 895,[2,1,0],[(3,(59,1))],[(.cell 3 0,.sl C.cool)]⟩),(15,⟨bl 128849021567,[3,2,1,0],[],[sI 37]⟩),(124000007,⟨bl 6287,[],[],[(.slot 8,.own 75 C.span),sI 13]⟩)]
theorem j29:MT 65 (q61 q1i):=j28 ⟨q1q,q2w,z2i,Uw,trivial⟩
def q8f(X:Bc):Con Sg:=conS [.el C.env,.el C.env,.int .i64] [.str,.int .i64] fun a K=>X a.1 a.2.1 a.2.2.1 (fun q0 q1=>K (q0,q1,()))
theorem j4l{Q8:Wc}{Qz:Jz}{Gm:Vo}{Br:Gy}{q18:H4}(h:AL [(61,Bl Q8),(62,Rs Qz),(63,B2 Gm),(64,q4k Br),(65,q61 q18)]):MT 15 (q8f (q77 Q8 Qz Gm Br q18)):=mS h [(9,⟨bl 132120607,[1,0],[],[sI 27]⟩),(23,⟨bl 31525197926367263,[1,0],[],[sI 55]⟩),(37,⟨bl 67699846038030822766805023,[1,0],[],[sI 86]⟩),(53,⟨bl 141977167039165097007255069392927,[1,0],[],[sI 107]⟩)]
theorem j4m:MT 15 (q8f q3f):=j4l ⟨q4h,q2w,z5h,z95,j29,trivial⟩
def Ul(X:R3):Con Sg:=conS [.sl C.u8,.sl C.u8,.int .i64] [.bool] fun a K=>X a.1 a.2.1 a.2.2.1 (fun q0=>K (q0,()))
theorem z37{q5h:q0q}{z0t:z73}{j30:j6u}{q19:Hx}{R0:q1g}{q5b:z29}{Qb:Z3}{Ue:Wn}{q3p:Bc}{Hd:G9}{J8:Ga}{J9:Bw}{J1:q0s}{q2a:H1}{q2b:H2}{q3q:Ba}(h:AL [(7,q94 q5h),(9,w18 z0t),(8,w9p j30),(10,q6w q19),(31,z0e R0),(32,j64 q5b),(33,Gh Qb),(17,H6 Ue),(15,q8f q3p),(19,q7m Hd),(24,q6s J8),(35,z0b J9),(34,z3q J1),(23,q6z q2a),(28,q60 q2b),(18,q8d q3q)]):MT 6 (Ul (R4 q5h z0t j30 q19 R0 q5b Qb Ue q3p Hd J8 J9 J1 q2a q2b q3q)):=mS h [(17,⟨bl 1073677063,[0],[(3,(78,2)),(1,(35,8))],[sI 7,(.cell 3 1,.int .i64),(.cell 1 0,.str),(.cell 1 1,.str),(.cell 1 2,.int .i64),(.cell 1 3,.sl C.decl),(.cell 1 4,.sl C.seg),(.cell 1 5,.sl C.flag),(.cell 1 6,.sl C.layer),(.cell 1 7,.sl C.exper)]⟩),(38,⟨bl 68719415175,[1],[(14,(35,8)),(3,(78,2))],[sI 12,(.cell 14 0,.str),(.cell 14 1,.str),(.cell 14 2,.int .i64),(.cell 14 3,.sl C.decl),(.cell 14 4,.sl C.seg),(.cell 14 5,.sl C.flag),(.cell 14 6,.sl C.layer),(.cell 14 7,.sl C.exper),(.cell 3 1,.int .i64)]⟩)]
theorem z38:MT 6 (Ul Jd):=z37 ⟨j63,w9o,v6s,j2y,j7l,w4r,Rm,z2e,j4m,z6y,z47,j2w,j0w,j24,j26,j4h,trivial⟩
end Go.En
end
noncomputable section
set_option maxRecDepth 100000
namespace Go.En
open Go Go.Fl Go.Fl.Lk Go.Fx
theorem Cnd.mk{c A B:Prop}(h:c->A)(k: ¬c->B):Cnd c A B:=⟨h,k⟩
structure DS(list:List Int)(at_:Int):Prop where
 len:list.length<=1000
 lo:0<=at_
 hi:at_<=list.length
 byte: ∀x∈list,0<=x/\x<256
theorem getm{α:Type}{l:List α}{k:Nat}{x:α}(h:l[k]? =some x):x∈l:=List.mem_of_getElem? h
theorem z5i(n:Int):(Go.Utf8.encode n).size<=4:=by
 unfold Go.Utf8.encode
 generalize (if Go.Utf8.valid n then n.toNat else Go.Utf8.runeError)=c
 show (if c<0x80 then _ else if c<0x800 then _ else if c<0x10000 then _ else _:ByteArray).size<=4
 have h1: ∀a:UInt8,(ByteArray.mk #[a]).size<=4:=fun _=>(by decide:1<=4)
 have h2: ∀a b:UInt8,(ByteArray.mk #[a,b]).size<=4:=fun _ _=>(by decide:2<=4)
 have h3: ∀a b c:UInt8,(ByteArray.mk #[a,b,c]).size<=4:=fun _ _ _=>(by decide:3<=4)
 have h4: ∀a b c d:UInt8,(ByteArray.mk #[a,b,c,d]).size<=4:=fun _ _ _ _=>(by decide:4<=4)
 split
 ·exact h1 _
 ·split
  ·exact h2 _ _
  ·split
   ·exact h3 _ _ _
   ·exact h4 _ _ _ _
theorem Qh{list:List Int}{at_ n:Int}{K:Int->Int->Prop}(hD:DS list at_)(hn:1<=n)(h: ∀r a,0<=r->r<n->DS list a->K r a):J0 list at_ n K:=by
 obtain⟨h1,h2,h3,h4⟩:=hD
 unfold J0 z54 q9m
 refine fun _=>Cnd.mk (fun hl=> ?_) (fun _=>h _ _ (by omega) (by omega) ⟨h1,h2,h3,h4⟩)
 have hl:=of_decide_eq_true hl
 refine⟨by unfold InI;omega,by unfold InI;omega,by omega,fun y hy=>⟨by unfold InI;have:=h4 _ (getm hy);omega,by omega,?_⟩⟩
 obtain⟨a,b⟩:=h4 _ (getm hy)
 exact h _ _ (Int.tmod_nonneg _ a) (by have:=Int.tmod_lt_of_pos y (b:=n) (by omega);omega) ⟨h1,by omega,by omega,h4⟩
theorem q31{list:List Int}{at_ n:Int}{K:Int->Int->Prop}(hD:DS list at_)(hn:1<=n)(h: ∀r a,0<=r->r<n->DS list a->K r a):q4x list at_ n K:=by
 unfold q4x j0q
 refine Qh hD (by decide) fun r a r0 r1 hD=>⟨by unfold InI;omega,Qh hD (by decide) fun s b s0 s1 hD=>⟨by unfold InI;omega,by omega,?_⟩⟩
 exact h _ _ (Int.tmod_nonneg _ (by omega)) (by have:=Int.tmod_lt_of_pos (256*r+s) (b:=n) (by omega);omega) hD
theorem z6z{n:Int}{l:List ByteArray}{K:List ByteArray->Prop}(h0:0<=n)(h1:n<=l.length)(h:K (l.take n.toNat)):j0r n l K:=⟨⟨h0,h1⟩,h⟩
theorem q88{list:List Int}{at_:Int}{K:ByteArray->Int->Prop}(hD:DS list at_)(h: ∀r a,r∈z52->DS list a->K r a):q9n list at_ K:=by
 unfold q9n j6w
 exact Qh hD (by decide) fun r a r0 r1 hD=>⟨⟨r0,r1⟩,fun y hy=>h _ _ (getm hy) hD⟩
theorem sz_k(n:Int):(B8 [107]++Go.Utf8.encode n).size<=5:=by
 rw[ByteArray.size_append];have:=z5i n;show 1+_<=5;omega
theorem v3b{list:List Int}{at_:Int}{K:ByteArray->Int->Prop}(hD:DS list at_)(h: ∀r a,r.size<=5->DS list a->K r a):j6y list at_ K:=by
 unfold j6y w16
 refine Qh hD (by decide) fun r a r0 r1 hD=>⟨by unfold InI;omega,?_,h _ _ (sz_k _) hD⟩
 have:=z5i (Go.IntKind.i32.wrap (48+r));have e:(B8 [107]).size=1:=rfl;omega
theorem j3a{list:List Int}{at_:Int}{K:List ByteArray->Int->Prop}(hD:DS list at_)(h: ∀r a,r.length<=3->(∀s∈r,s.size<=5)->DS list a->K r a):z55 list at_ K:=by
 unfold z55 j6x
 refine Qh hD (by decide) fun n a n0 n1 hD=> ?_
 refine Lp3.ind (fun l i a=>DS list a/\0<=i/\i<=3/\(l.length:Int)=i/\ ∀s∈l,s.size<=5) (fun _ i _=>(3 - i).toNat) ?_ ⟨hD,by decide,by decide,rfl,by simp⟩
 rintro l i a ⟨hD,i0,i3,hl,hs⟩
 refine Qh hD (by decide) fun r a r0 r1 hD=>Cnd.mk (fun hc=> ?_) (fun hc=> ?_)
 ·have:=z5i (Go.IntKind.i32.wrap ((48:Int)+(n+i).tmod 10));have e:(B8 [107]).size=1:=rfl
  have m0:=Int.tmod_nonneg 10 (show 0<=n+i by omega);have m1:=Int.tmod_lt_of_pos (n+i) (b:=10) (by decide)
  refine⟨by unfold InI;omega,by decide,by unfold InI;omega,by omega,by unfold Sml;simp;omega,by unfold InI;omega,⟨hD,by omega,by omega,by simp;omega,fun s hm=> ?_⟩,by omega⟩
  rcases List.mem_append.1 hm with hm|hm
  ·exact hs s hm
  ·rw[List.mem_singleton.1 hm];exact sz_k _
 ·refine Lp2.ind (fun (i:Int) (m:List ByteArray)=>m=l/\1<=i/\i<=1+l.length) (fun (i:Int) _=>(1+l.length - i).toNat) ?_ ⟨rfl,by decide,by omega⟩
  rintro i m ⟨rfl,i0,i1⟩ _
  refine Cnd.mk (fun hc=>⟨by omega,fun y hy=>⟨by unfold InI;omega,by omega,fun z hz=>Cnd.mk (fun _=>⟨by unfold InI;omega,⟨rfl,by omega,by omega⟩,by omega⟩) (fun _=>⟨by omega,h _ _ (by simp;omega) (fun s hm=>hs s (List.mem_of_mem_take hm)) hD⟩)⟩⟩) (fun _=>h _ _ (by omega) hs hD)
theorem sz0:(ByteArray.mk (Array.mk ([]:List UInt8))).size<=100:=by decide
structure ValS(v:Val):Prop where
 num:InI v.number
 txt:v.text.size<=100
 len:v.list.length<=10
 txs: ∀s∈v.list,s.size<=100
theorem q89{list:List Int}{at_ kind:Int}{K:Val->Int->Prop}(hD:DS list at_)(h: ∀r a,ValS r->DS list a->K r a):q0t list at_ kind K:=by
 unfold q0t z56
 have tt: ∀s∈z52,s.size<=100:=by decide
 have tv: ∀s∈z1l,s.size<=100:=by decide
 have tl: ∀l∈j1w,l.length<=10/\ ∀s∈l,s.size<=100:=by decide
 refine Cnd.mk (fun _=> ?_) fun _=>Cnd.mk (fun _=>fun _=> ?_) fun _=>Cnd.mk (fun _=> ?_) fun _=>Cnd.mk (fun _=> ?_) fun _=> ?_
 ·exact Qh hD (by decide) fun r a r0 r1 hD=>h _ _ ⟨by unfold InI;simp only;omega,sz0,by simp,by simp⟩ hD
 ·refine Qh hD (by decide) fun r a r0 r1 hD=>⟨⟨r0,r1⟩,fun y hy=>h _ _ ⟨?_,sz0,by simp,by simp⟩ hD⟩
  have:=getm hy
  have k: ∀y∈[(0:Int),(1:Int),(17:Int),(18:Int),(19:Int),(-5:Int),(64:Int),(1099511627776:Int),(-1099511627776:Int)], -9223372036854775808<=y/\y<=9223372036854775807:=by decide
  exact k y this
 ·exact q88 hD fun r a hr hD=>h _ _ ⟨by unfold InI;simp,tt _ hr,by simp,by simp⟩ hD
 ·exact Qh hD (by decide) fun r a r0 r1 hD=>⟨⟨r0,r1⟩,fun y hy=>h _ _ ⟨by unfold InI;simp,tv _ (getm hy),by simp,by simp⟩ hD⟩
 ·refine Qh hD (by decide) fun r a r0 r1 hD=>⟨⟨r0,r1⟩,fun y hy=> ?_⟩
  obtain⟨a1,a2⟩:=tl _ (getm hy)
  exact⟨by unfold Sml;simp;omega,h _ _ ⟨by unfold InI;simp,sz0,by simpa using a1,by simpa using a2⟩ hD⟩
structure VsS(l:List Val):Prop where
 len:l.length<=4
 all: ∀v∈l,ValS v
theorem VsS.nil:VsS []:=⟨by simp,by simp⟩
theorem VsS.one{v:Val}(h:ValS v):VsS [v]:=⟨by simp,by simpa using h⟩
def ExS:Nat->Ex->Prop
 |0,e=>VsS e.values/\(e.name.size<=100/\e.kind.size<=100)/\(InI e.op/\(2<=e.op->e.op<=4->e.kids≠[]))/\e.kids=[]
 |n+1,e=>VsS e.values/\(e.name.size<=100/\e.kind.size<=100)/\(InI e.op/\(2<=e.op->e.op<=4->e.kids≠[]))/\e.kids.length<=3/\ ∀k∈e.kids,ExS n k
theorem ExS.up: ∀{n:Nat} {e:Ex},ExS n e->ExS (n+1) e
 |0,e,h=>⟨h.1,h.2.1,h.2.2.1,by rw[h.2.2.2];simp,by rw[h.2.2.2];simp⟩
 |n+1,e,h=>⟨h.1,h.2.1,h.2.2.1,h.2.2.2.1,fun k hk=>(h.2.2.2.2 k hk).up⟩
theorem ExS.le{n m:Nat}{e:Ex}(h:ExS n e)(hm:n<=m):ExS m e:=by
 induction hm with
 |refl=>exact h
 |step _ ih=>exact ih.up
theorem ExS.kids{n:Nat}{e:Ex}(h:ExS n e):e.kids.length<=3:=by
 cases n with
 |zero=>rw[h.2.2.2];simp
 |succ n=>exact h.2.2.2.1
theorem ExS.kid{n:Nat}{e k:Ex}(h:ExS n e)(hk:k∈e.kids): ∃m,m+1=n/\ExS m k:=by
 cases n with
 |zero=>rw[h.2.2.2] at hk;simp at hk
 |succ n=>exact⟨n,rfl,h.2.2.2.2 k hk⟩
theorem ExS.vals{n:Nat}{e:Ex}(h:ExS n e):VsS e.values:=by cases n<;>exact h.1
theorem ExS.nm{n:Nat}{e:Ex}(h:ExS n e):e.name.size<=100:=by cases n<;>exact h.2.1.1
theorem ExS.kd{n:Nat}{e:Ex}(h:ExS n e):e.kind.size<=100:=by cases n<;>exact h.2.1.2
theorem ExS.opK{n:Nat}{e:Ex}(h:ExS n e):2<=e.op->e.op<=4->e.kids≠[]:=by cases n<;>exact h.2.2.1.2
def OpL(op:Int):Prop:=InI op/\ ¬(2<=op/\op<=4)
theorem OpL.ok{op:Int}(h:OpL op){l:List Ex}:InI op/\(2<=op->op<=4->l≠[]):=⟨h.1,fun a b=>absurd ⟨a,b⟩ h.2⟩
theorem opl{op:Int}(h:(6<=op/\op<=100)∨op=0∨op=1∨op=5){l:List Ex}:InI op/\(2<=op->op<=4->l≠[]):=⟨by unfold InI;omega,fun a b=>by omega⟩
theorem q49{K:List Decl->Prop}(h: ∀l,l.length=8->(∀d∈l,d.kind.size<=100/\d.name.size<=100/\1<=d.type/\d.type<=5)->K l):Hj K:=by
 unfold Hj
 exact h _ rfl (by decide)
theorem w0e{list:List Int}{at_:Int}{K:Ex->Int->Prop}(hD:DS list at_)(h: ∀r a,ExS 0 r->6<=r.op/\r.op<=15->DS list a->K r a):z3b list at_ K:=by
 unfold z3b j6z
 refine q49 fun l hl hd _=>⟨by unfold InI;omega,Qh hD (by omega) fun r a r0 r1 hD _=>Cnd.mk (fun _=> ?_) fun hc=>⟨by omega,fun y hy=> ?_⟩⟩
 ·exact v3b hD fun s a hs hD=>h _ _ ⟨.one ⟨by unfold InI;simp,by show s.size<=100;omega,by simp,by simp⟩,⟨(by decide:(ByteArray.mk (Array.mk [107,101,121])).size<=100),(by decide:(ByteArray.mk (Array.mk [117,115,101,114])).size<=100)⟩,opl (by simp),rfl⟩ (by simp) hD
 obtain⟨hy0,hy1,hy2,hy3⟩:=hd y (getm hy)
 have one: ∀{op:Int} {v:Val},OpL op->ValS v->ExS 0 (Ex.mk op y.kind y.name [v] []):=fun ho hv=>⟨.one hv,⟨hy1,hy0⟩,ho.ok,rfl⟩
 refine Jn1.mk (fun x=>(∃b,x=(b,y.kind,y.name,([]:List Val),([]:List Ex),x.2.2.2.2.2.1,0,ByteArray.mk (Array.mk []),ByteArray.mk (Array.mk []),[],[],()))/\DS list x.2.2.2.2.2.1) ?_ ?_
 case refine_2=>
  rintro x ⟨⟨b,hx⟩,hD⟩
  refine q89 hD fun v a hv hD=>h _ _ ?_ (by simp) hD
  rw[hx]
  exact one ⟨by unfold InI;simp,by decide⟩ hv
 refine Qh hD (by decide) fun q a q0 q1 hD=> ?_
 refine Jn1.mk (fun x=>(∃b,x=(x.1,b,y.kind,y.name,([]:List Val),([]:List Ex),0,ByteArray.mk (Array.mk []),ByteArray.mk (Array.mk []),[],[],()))/\DS list x.1) ?_ ?_
 case refine_2=>
  rintro x ⟨⟨b,hx⟩,hD⟩
  have cmp:J0 list x.1 4 fun r a=>InI (12+r)/\q0t list a y.3 fun v a=>K (Ex.mk (12+r) x.2.2.1 x.2.2.2.1 [v] x.2.2.2.2.2.1) a:=by
   refine Qh hD (by decide) fun r a r0 r1 hD=>⟨by unfold InI;omega,q89 hD fun v a hv hD=>h _ _ ?_ (by simp only;omega) hD⟩
   rw[hx]
   exact one ⟨by unfold InI;omega,by omega⟩ hv
  refine Cnd.mk (fun _=>cmp) fun _=>Cnd.mk (fun _=>cmp) fun _=>Cnd.mk (fun _=>cmp) fun _=> ?_
  refine⟨⟨b,?_⟩,hD⟩
  rw[hx]
 have nx: ∀{a:Int},DS list a->(fun x:Int×ByteArray×ByteArray×List Val×List Ex×Int×Int×ByteArray×ByteArray×List Val×List Ex×Unit=>(∃b,x=(b,y.kind,y.name,([]:List Val),([]:List Ex),x.2.2.2.2.2.1,0,ByteArray.mk (Array.mk []),ByteArray.mk (Array.mk []),[],[],()))/\DS list x.2.2.2.2.2.1) ((0:Int),y.1,y.2,[],[],a,(0:Int),ByteArray.mk (Array.mk []),ByteArray.mk (Array.mk []),[],[],()):=fun hD=>⟨⟨0,rfl⟩,hD⟩
 refine Cnd.mk (fun _=>h _ _ ⟨.nil,⟨hy1,hy0⟩,opl (by simp),rfl⟩ (by simp) hD) fun _=>Cnd.mk (fun _=> ?_) fun _=>Cnd.mk (fun _=> ?_) fun _=>Cnd.mk (fun _=> ?_) fun _=>Cnd.mk (fun _=> ?_) fun _=>nx hD
 ·refine Cnd.mk (fun _=>nx hD) fun _=> ?_
  refine Lp3.ind (fun i l a=>DS list a/\0<=i/\i<=3/\(l.length:Int)=i/\ ∀v∈l,ValS v) (fun i _ _=>(3 - i).toNat) ?_ ⟨hD,by decide,by decide,rfl,by simp⟩
  rintro i l a ⟨hD,i0,i3,hl,hv⟩
  refine Qh hD (by decide) fun r a r0 r1 hD=>Cnd.mk (fun hc=>q89 hD fun v a hv' hD=>⟨by unfold Sml;simp;omega,by unfold InI;omega,⟨hD,by omega,by omega,by simp;omega,fun u hu=> ?_⟩,by omega⟩) (fun hc=>h _ _ ⟨⟨by simp only;omega,hv⟩,⟨hy1,hy0⟩,opl (by simp),rfl⟩ (by simp) hD)
  rcases List.mem_append.1 hu with hu|hu
  ·exact hv u hu
  ·rw[List.mem_singleton.1 hu];exact hv'
 ·have c:q0t list a 3 fun v a=>K (Ex.mk 11 y.1 y.2 [v] []) a:=q89 hD fun v a hv hD=>h _ _ (one ⟨by unfold InI;simp,by decide⟩ hv) (by simp) hD
  exact Cnd.mk (fun _=>c) fun _=>Cnd.mk (fun _=>c) fun _=>nx hD
 ·exact Cnd.mk (fun _=>Qh hD (by decide) fun r a r0 r1 hD=>⟨by unfold InI;omega,q89 hD fun v a hv hD=>h _ _ (one ⟨by unfold InI;omega,by omega⟩ hv) (by simp only;omega) hD⟩) fun _=>⟨⟨0,rfl⟩,hD⟩
 ·exact⟨⟨0,rfl⟩,hD⟩
theorem ExS.eta{n:Nat}{e:Ex}(h:ExS n e):ExS n (Ex.mk e.op e.kind e.name e.values e.kids):=by cases e;exact h
theorem v87{n:Nat}{e:Ex}(h:ExS n e){k m:ByteArray}(hm:m.size<=100)(hk:k.size<=100):ExS (n+1) (Ex.mk 4 k m [] [e]):=⟨.nil,⟨hm,hk⟩,⟨InI.mk (by simp) (by simp),fun _ _=>by simp⟩,by simp,by simpa using h⟩
structure SegS(g:Seg):Prop where
 key:g.key.size<=100
 kind:g.kind.size<=100
 incl:g.incl.length<=3
 excl:g.excl.length<=3
 cond:ExS 4 g.cond
theorem W9{α:Type}{P:α->Prop}{l:List α}{x:α}(h: ∀y∈l,P y)(hx:P x): ∀y∈l++[x],P y:=fun y hy=>by
 rcases List.mem_append.1 hy with hy|hy
 ·exact h y hy
 ·rw[List.mem_singleton.1 hy];exact hx
theorem z01{v:Envt}{K:List ByteArray->Prop}(hl:v.segments.length<=1000)(h:K (v.segments.map Seg.key)):q0v v K:=by
 unfold q0v
 refine Lp2.ind (fun (l:List ByteArray) (i:Int)=>0<=i/\i<=v.segments.length/\l=(v.segments.take i.toNat).map Seg.key) (fun _ (i:Int)=>(v.segments.length - i).toNat) ?_ ⟨Int.le_refl 0,by omega,by simp⟩
 rintro l i ⟨i0,i1,rfl⟩ _
 refine Cnd.mk (fun hc=>⟨by omega,fun y hy=>⟨by unfold Sml;simp;omega,by unfold InI;omega,⟨by omega,by omega,?_⟩,by omega⟩⟩) fun hc=> ?_
 ·rw[show (i+1).toNat=i.toNat+1 by omega,List.take_add_one,hy];simp
 ·rw[List.take_of_length_le (by omega)];exact h
def SplS(n:Int)(l:List Rng):Prop:=l.length<=4/\ ∀r∈l,0<=r.lo/\r.hi<=10000/\1<=r.variation/\r.variation<=n
structure SrvS(n:Int)(s:Srv):Prop where
 kind:s.kind.size<=100
 var:0<=s.variation/\s.variation<=n
 split:SplS n s.split
 by_:s.by_.size<=100
 salt:s.salt.size<=100
structure LayS(l:Lay_):Prop where
 key:l.key.size<=100
 kind:l.kind.size<=100
 salt:l.salt.size<=100
 hold:0<=l.holdout/\l.holdout<=10000
 cool:0<=l.cool/\l.cool<=100
 cl:l.cooling.length<=1000
theorem w6e{list:List Int}{at_:Int}{key:ByteArray}{K:Lay_->Int->Prop}(hD:DS list at_)(hk:key.size<=100)(h: ∀l a,LayS l->l.key=key->DS list a->K l a):z6c list at_ key K:=by
 unfold z6c j13
 have tt: ∀s∈z52,s.size<=100:=by decide
 refine q88 hD fun t a ht hD=>Qh hD (by decide) fun c a c0 c1 hD=>⟨by unfold InI;omega,?_⟩
 refine Jn2.mk (fun k a=>k.size<=100/\DS list a) (Qh hD (by decide) fun r a r0 r1 hD=>Cnd.mk (fun _=>⟨by decide,hD⟩) fun _=>⟨by decide,hD⟩) fun kind a hx=> ?_
 obtain⟨hkd,hD⟩:=hx
 refine Jn2.mk (fun x a=>DS list a/\0<=x/\x<=10000) (Qh hD (by decide) fun r a r0 r1 hD=>Cnd.mk (fun _=>q31 hD (by decide) fun w a w0 w1 hD=>⟨hD,by omega,by omega⟩) fun _=>⟨hD,by omega,by omega⟩) fun hold a hx=> ?_
 obtain⟨hD,x0,x1⟩:=hx
 have ok: ∀{cs:List Col},cs.length<=1000->LayS (Lay_.mk key kind t hold (c*50) cs):=fun hcs=>⟨hk,hkd,tt _ ht,⟨x0,x1⟩,⟨by simp only;omega,by simp only;omega⟩,hcs⟩
 refine Lp4.ind (fun at_ i cs a=>DS list a/\0<=i/\i<=2/\(cs.length:Int)=i/\0<=at_/\at_<=10000/\ ∀c∈cs,0<=c.lo/\c.hi<=10000/\0<=c.until_/\c.until_<=200) (fun _ i _ _=>(2 - i).toNat) ?_ ⟨hD,by omega,by omega,rfl,by omega,by omega,by simp⟩
 rintro at_ i cs a ⟨hD,i0,i1,hl,a0,a1,hc⟩
 refine Qh hD (by decide) fun q a q0 q1 hD=>Cnd.mk (fun _=>q31 hD (by decide) fun w a w0 w1 hD=>⟨by unfold InI;omega,by unfold InI;omega,q31 hD (by decide) fun w' a w0' w1' hD=>⟨by unfold InI;omega,Cnd.mk (fun _=>h _ _ (ok (by omega)) rfl hD) fun _=> ?_⟩⟩) fun _=>h _ _ (ok (by omega)) rfl hD
 refine Qh hD (by decide) fun u a u0 u1 hD=>⟨by unfold Sml;simp;omega,by unfold InI;omega,⟨hD,by omega,by omega,by simp;omega,by omega,by omega,W9 hc ⟨by simp only;omega,by simp only;omega,by simp only;omega,by simp only;omega⟩⟩,by omega⟩
structure SpsS(l:List Spn):Prop where
 len:l.length<=10000
 all: ∀s∈l,0<=s.lo/\s.lo<s.hi/\s.hi<=10000
structure RulS(n:Int)(r:Rul):Prop where
 name:r.name.size<=100
 cond:ExS 4 r.cond
 serve:SrvS n r.serve
structure FlgS(f:Flg):Prop where
 key:f.key.size<=100
 vlen:1<=f.variations.length/\f.variations.length<=4
 vals: ∀v∈f.variations,ValS v
 nlen:f.needs.length<=4
 needs: ∀q∈f.needs,q.flag.size<=100
 tlen:f.targets.length<=3
 tgts: ∀t∈f.targets,t.kind.size<=100
 rlen:f.rules.length<=4
 rules: ∀r∈f.rules,RulS f.variations.length r
 dflt:SrvS f.variations.length f.dflt
structure ExpS(x:Exper):Prop where
 key:x.key.size<=100
 layer:x.layer.size<=100
 flag:x.flag.size<=100
 claims:SpsS x.claims
 arms:SplS 4 x.arms
 cond:ExS 4 x.cond
structure EnvS(v:Envt):Prop where
 hkind:v.settings.holdoutKind.size<=100
 attrs: ∀d∈v.attributes,d.kind.size<=100/\d.name.size<=100
 slen:v.segments.length<=3
 segs: ∀g∈v.segments,SegS g
 flen:v.flags.length<=4
 flags: ∀f∈v.flags,FlgS f
 llen:v.layers.length<=2
 layers: ∀l∈v.layers,LayS l
 xlen:v.experiments.length<=3
 exps: ∀x∈v.experiments,ExpS x
end Go.En
end
noncomputable section
set_option maxRecDepth 100000
namespace Go.En
open Go Go.Fl Go.Fl.Lk Go.Fx
theorem j5v{α:Type}{a b:List α}(hl:a.length=b.length){F:α->α->(Bool->Prop)->Prop}{K:Bool->Prop}(hF: ∀x∈a,∀y∈b,∀K:Bool->Prop,(∀r,(r=true↔x=y)->K r)->F x y K)(h: ∀r,(r=true↔a=b)->K r):
  Lp1 (fun i Y=>a.length<=9223372036854775807->Cnd (i<(a.length:Int)) ((0<=i/\i<(a.length:Int))/\ ∀x,a[i.toNat]? =some x->(0<=i/\i<(b.length:Int))/\ ∀y,b[i.toNat]? =some y->F x y fun r=>Cnd (r=true) (InI (i+1)/\Y (i+1)) (K false)) (K true)) 0:=by
 refine Lp1.ind (fun (i:Int)=>0<=i/\i<=a.length/\a.take i.toNat=b.take i.toNat) (fun (i:Int)=>(a.length - i).toNat) ?_ ⟨by omega,by omega,by simp⟩
 rintro i ⟨i0,i1,he⟩ _
 refine Cnd.mk (fun hc=>⟨by omega,fun x hx=>⟨by omega,fun y hy=>hF x (getm hx) y (getm hy) _ fun r hr=>Cnd.mk (fun hc=>⟨by unfold InI;omega,⟨by omega,by omega,?_⟩,by omega⟩) fun hc=>h _ ⟨fun h=>(by cases h),fun h=> ?_⟩⟩⟩) fun hc=>h _ ⟨fun _=> ?_,fun _=>rfl⟩
 ·rw[show (i+1).toNat=i.toNat+1 by omega,List.take_add_one,List.take_add_one,he,hx,hy,hr.1 hc]
 ·subst h;rw[hx] at hy;exact absurd (hr.2 (by cases hy;rfl)) hc
 ·rwa [List.take_of_length_le (by omega),List.take_of_length_le (by omega)] at he
theorem w6f{a b:List ByteArray}{K:Bool->Prop}(h: ∀r,(r=true↔a=b)->K r):q8q a b K:=by
 unfold q8q
 intro ha hb
 refine Cnd.mk (fun hl=> ?_) fun hl=>h _ ⟨fun h=>(by cases h),fun e=>by rw[e] at hl;exact absurd rfl hl⟩
 refine Lp1.ind (fun (i:Int)=>0<=i/\i<=a.length/\a.take i.toNat=b.take i.toNat) (fun (i:Int)=>(a.length - i).toNat) ?_ ⟨by omega,by omega,by simp⟩
 rintro i ⟨i0,i1,he⟩ _
 refine Cnd.mk (fun hc=>⟨by omega,fun x hx=>⟨by omega,fun y hy=>Cnd.mk (fun hc=>⟨by unfold InI;omega,⟨by omega,by omega,?_⟩,by omega⟩) fun hc=>h _ ⟨fun h=>(by cases h),fun h=> ?_⟩⟩⟩) fun hc=>h _ ⟨fun _=> ?_,fun _=>rfl⟩
 ·rw[show (i+1).toNat=i.toNat+1 by omega,List.take_add_one,List.take_add_one,he,hx,hy,hc]
 ·subst h;rw[hx] at hy;cases hy;exact absurd rfl hc
 ·rwa [List.take_of_length_le (by omega),List.take_of_length_le (by omega)] at he
theorem z2m{l:List ByteArray}{s:ByteArray}{K:Bool->Prop}(h: ∀r,(r=true↔s∈l)->K r):Rh l s K:=by
 unfold Rh
 refine Lp1.ind (fun (i:Int)=>0<=i/\i<=l.length/\s∉l.take i.toNat) (fun (i:Int)=>(l.length - i).toNat) ?_ ⟨by omega,by omega,by simp⟩
 rintro i ⟨i0,i1,he⟩ _
 refine Cnd.mk (fun hc=>⟨by omega,fun x hx=>Cnd.mk (fun e=>h _ ⟨fun _=>e▸getm hx,fun _=>rfl⟩) fun e=>⟨by unfold InI;omega,⟨by omega,by omega,?_⟩,by omega⟩⟩) fun hc=>h _ ⟨fun h=>(by cases h),fun hm=> ?_⟩
 ·rw[show (i+1).toNat=i.toNat+1 by omega,List.take_add_one,hx];simp[he,Ne.symm e]
 ·rw[List.take_of_length_le (by omega)] at he;exact absurd hm he
theorem w2x{a b:Val}{K:Bool->Prop}(h: ∀r,(r=true↔a=b)->K r):q5j a b K:=by
 unfold q5j z3c
 have no:(a≠b)->K false:=fun hn=>h _ ⟨fun h=>(by cases h),fun e=>absurd e hn⟩
 refine Cnd.mk (fun h1=>Cnd.mk (fun h2=>Cnd.mk (fun h3=>w6f fun r hr=>h r (hr.trans ⟨fun h4=> ?_,fun e=>by rw[e]⟩)) fun h=>no fun e=>h (by rw[e])) fun h=>no fun e=>h (by rw[e])) fun h=>no fun e=>h (by rw[e])
 cases a;cases b;simp_all
theorem z96{a b:List Val}{K:Bool->Prop}(h: ∀r,(r=true↔a=b)->K r):Z4 a b K:=by
 unfold Z4 q0x
 intro ha hb
 exact Cnd.mk (fun hl=>j5v (by omega) (fun x _ y _ K hK=>w2x hK) h) fun hl=>h _ ⟨fun h=>(by cases h),fun e=>by rw[e] at hl;exact absurd rfl hl⟩
theorem Wg{e:Ex}:Ex.mk e.op e.kind e.name e.values e.kids=e:=by cases e;rfl
theorem j4n: ∀(n:Nat) {a b:Ex} {K:Bool->Prop},ExS n a->(∀r,(r=true↔a=b)->K r)->J3 a b K:=by
 intro n a b K ha h X hX
 induction n using Nat.strongRecOn generalizing a b K with
 |_ n ih=>
 refine hX _ _ _ ?_
 unfold U9
 have no:(a≠b)->K false:=fun hn=>h _ ⟨fun h=>(by cases h),fun e=>absurd e hn⟩
 refine Cnd.mk (fun h1=>Cnd.mk (fun h2=>Cnd.mk (fun h3=>z96 fun r hr=>Cnd.mk (fun hc _ _=>Cnd.mk (fun hl=> ?_) fun h=>no fun e=>h (by rw[e])) fun hc=>no fun e=>hc (hr.2 (by rw[e]))) fun h=>no fun e=>h (by rw[e])) fun h=>no fun e=>h (by rw[e])) fun h=>no fun e=>h (by rw[e])
 have h4:=hr.1 hc
 refine j5v (by omega) (fun x hx y _ K hK=> ?_) fun r hr=>h r (hr.trans ⟨fun h5=> ?_,fun e=>by rw[e]⟩)
 ·obtain⟨m,hm,hk⟩:=ha.kid hx
  rw[Wg,Wg]
  exact ih m (by omega) hk hK
 ·cases a;cases b;simp_all
theorem j3b(n:Nat){a b:Ex}{K:Bool->Prop}(ha:ExS n a)(h: ∀r,(r=true↔a=b)->K r):J3 (Ex.mk a.1 a.2 a.3 a.4 a.5) (Ex.mk b.1 b.2 b.3 b.4 b.5) K:=by
 rw[Wg,Wg];exact j4n n ha h
theorem z9g{n:Nat}{l:List Ex}{e:Ex}{K:Int->Prop}(hl: ∀x∈l,ExS n x)(h: ∀r:Int,(r= -1/\e∉l)∨(0<=r/\l[r.toNat]? =some e/\e∉l.take r.toNat)->K r):Zx l e K:=by
 unfold Zx q9p
 refine Lp1.ind (fun (i:Int)=>0<=i/\i<=l.length/\e∉l.take i.toNat) (fun (i:Int)=>(l.length - i).toNat) ?_ ⟨by omega,by omega,by simp⟩
 rintro i ⟨i0,i1,he⟩ _
 refine Cnd.mk (fun hc=>⟨by omega,fun x hx=>j3b n (hl x (getm hx)) fun r hr=>Cnd.mk (fun hc=>h _ (.inr ⟨i0,by rw[hx,hr.1 hc],he⟩)) fun hc=>⟨by unfold InI;omega,⟨by omega,by omega,?_⟩,by omega⟩⟩) fun hc=>h _ (.inl ⟨rfl,?_⟩)
 ·rw[show (i+1).toNat=i.toNat+1 by omega,List.take_add_one,hx]
  have:e≠x:=fun e=>hc (hr.2 e.symm)
  simp[he,this]
 ·rwa [List.take_of_length_le (by omega)] at he
theorem q32{op:Int}{K:Bool->Prop}(h: ∀r,(r=true↔6<=op/\op<=15)->K r):Zl op K:=by
 unfold Zl
 exact Cnd.mk (fun h6=>h _ ⟨fun a=>⟨h6,of_decide_eq_true a⟩,fun a=>decide_eq_true a.2⟩) fun h6=>h _ ⟨fun a=>(by cases a),fun a=>absurd a.1 h6⟩
theorem w2y{now:Int}{K:Bool->Prop}(h: ∀r,(r=true↔0<=now/\now<=1099511627776)->K r):z3e now K:=by
 unfold z3e
 exact Cnd.mk (fun h6=>h _ ⟨fun a=>⟨h6,of_decide_eq_true a⟩,fun a=>decide_eq_true a.2⟩) fun h6=>h _ ⟨fun a=>(by cases a),fun a=>absurd a.1 h6⟩
theorem w0f{α:Type}{l:List α}{f:α->ByteArray}{key:ByteArray}{K:Int->Prop}(h: ∀r:Int,(r= -1/\ ∀x∈l,f x≠key)∨(0<=r/\r<l.length/\(∃x,l[r.toNat]? =some x/\f x=key)/\ ∀x∈l.take r.toNat,f x≠key)->K r):
  Lp1 (fun i Y=>l.length<=9223372036854775807->Cnd (i<(l.length:Int)) ((0<=i/\i<(l.length:Int))/\ ∀y,l[i.toNat]? =some y->Cnd (f y=key) (K i) (InI (i+1)/\Y (i+1))) (K (-1))) 0:=by
 refine Lp1.ind (fun (i:Int)=>0<=i/\i<=l.length/\ ∀x∈l.take i.toNat,f x≠key) (fun (i:Int)=>(l.length - i).toNat) ?_ ⟨by omega,by omega,by simp⟩
 rintro i ⟨i0,i1,he⟩ _
 refine Cnd.mk (fun hc=>⟨by omega,fun x hx=>Cnd.mk (fun e=>h _ (.inr ⟨i0,hc,⟨x,hx,e⟩,he⟩)) fun e=>⟨by unfold InI;omega,⟨by omega,by omega,?_⟩,by omega⟩⟩) fun hc=>h _ (.inl ⟨rfl,?_⟩)
 ·rw[show (i+1).toNat=i.toNat+1 by omega,List.take_add_one,hx]
  exact W9 he e
 ·rwa [List.take_of_length_le (by omega)] at he
def PlcS{α:Type}(l:List α)(f:α->ByteArray)(key:ByteArray)(r:Int):Prop:=(r= -1/\ ∀x∈l,f x≠key)∨(0<=r/\r<l.length/\(∃x,l[r.toNat]? =some x/\f x=key)/\ ∀x∈l.take r.toNat,f x≠key)
theorem q3h{v:Envt}{key:ByteArray}{K:Int->Prop}(h: ∀r,PlcS v.layers Lay_.key key r->K r):q0z v key K:=w0f h
theorem q5a{v:Envt}{key:ByteArray}{K:Int->Prop}(h: ∀r,PlcS v.flags Flg.key key r->K r):q7f v key K:=w0f h
theorem q2x{l:List Spn}{K:List Bool->Prop}(h: ∀b:List Bool,b.length=10000->K b):R7 l K:=by
 unfold R7
 refine⟨⟨by decide,Int.le_refl _,by unfold Sml;decide⟩,Lp2.ind (fun (i:Int) (b:List Bool)=>0<=i/\i<=l.length/\b.length=10000) (fun (i:Int) _=>(l.length - i).toNat) ?_ ⟨by omega,by omega,by rw[List.length_replicate];decide⟩⟩
 rintro i b ⟨i0,i1,hb⟩ _
 refine Cnd.mk (fun hc=>⟨by omega,fun y hy=> ?_⟩) fun _=>h b hb
 refine Lp2.ind (fun (j:Int) (b:List Bool)=>0<=j/\b.length=10000) (fun (j:Int) _=>(10000 - j).toNat) ?_ ⟨by omega,hb⟩
 rintro j b ⟨j0,hb⟩
 refine⟨by omega,fun z hz=>Cnd.mk (fun hc=>⟨by omega,fun u hu=>⟨by unfold InI;omega,⟨by omega,by simpa using hb⟩,by omega⟩⟩) fun _=>⟨by unfold InI;omega,⟨by omega,by omega,hb⟩,by omega⟩⟩
theorem q33{b:List Bool}{K:List Spn->Prop}(hb:b.length<=10000)(h: ∀l,SpsS l->K l):Ui b K:=by
 unfold Ui
 refine Lp2.ind (fun (l:List Spn) (i:Int)=>0<=i/\i<=b.length/\l.length<=i/\(∀s∈l,0<=s.lo/\s.lo<s.hi/\s.hi<=i)/\(0<i->b[(i - 1).toNat]? =some true->l≠[])) (fun _ (i:Int)=>(b.length - i).toNat) ?_ ⟨by omega,by omega,by simp,by simp,by omega⟩
 rintro l i ⟨i0,i1,hl,hs,hn⟩ _
 refine Cnd.mk (fun hc=>⟨by omega,fun y hy=>Cnd.mk (fun ht=> ?_) fun hf=> ?_⟩) fun _=>h l ⟨by omega,fun s hm=>by have:=hs s hm;omega⟩
 ·have snoc:InI (i+1)/\Sml (l++[Spn.mk i (i+1)]).length/\InI (i+1)/\((0<=i+1/\i+1<=b.length/\((l++[Spn.mk i (i+1)]).length:Int)<=i+1/\(∀s∈l++[Spn.mk i (i+1)],0<=s.lo/\s.lo<s.hi/\s.hi<=i+1)/\(0<i+1->b[(i+1 - 1).toNat]? =some true->l++[Spn.mk i (i+1)]≠[]))/\(b.length - (i+1)).toNat<(b.length - i).toNat):=
   ⟨by unfold InI;omega,by unfold Sml;simp;omega,by unfold InI;omega,⟨by omega,by omega,by simp;omega,W9 (fun s hm=>by have:=hs s hm;omega) ⟨i0,by simp only;omega,by simp⟩,fun _ _=>by simp⟩,by omega⟩
  refine Cnd.mk (fun hp=>⟨by unfold InI;omega,by omega,fun z hz=>Cnd.mk (fun hz1=> ?_) fun _=>snoc⟩) fun _=>snoc
  have hne:=hn hp (by rw[hz,hz1])
  have hpos:0<l.length:=List.length_pos_iff.2 hne
  refine fun _=>⟨by unfold InI;omega,by unfold InI;omega,by omega,fun u hu=>⟨by unfold InI;omega,⟨by omega,by omega,by simp;omega,fun s hm=> ?_,fun _ _ hx=> ?_⟩,by omega⟩⟩
  ·have:=hs u (getm hu)
   rcases List.mem_or_eq_of_mem_set hm with hm|rfl
   ·have:=hs s hm;omega
   ·exact⟨this.1,by simp only;omega,by simp⟩
  ·exact hne (by rw[←List.length_eq_zero_iff] at hx⊢;simpa using hx)
 ·refine⟨by unfold InI;omega,⟨by omega,by omega,by omega,fun s hm=>by have:=hs s hm;omega,fun _ hx=> ?_⟩,by omega⟩
  rw[show (i+1 - 1).toNat=i.toNat by omega,hy] at hx
  cases hx;exact absurd rfl hf
theorem z02{l:List Col}{now:Int}{K:List Int->Prop}(h: ∀b:List Int,b.length=10000->K b):Vj l now K:=by
 unfold Vj
 refine⟨⟨by decide,Int.le_refl _,by unfold Sml;decide⟩,Lp2.ind (fun (i:Int) (b:List Int)=>0<=i/\i<=10000/\b.length=10000) (fun (i:Int) _=>(10000 - i).toNat) ?_ ⟨by omega,by omega,by rw[List.length_replicate];decide⟩⟩
 rintro i b ⟨i0,i1,hb⟩ _
 refine Cnd.mk (fun hc=>⟨by omega,fun y hy=>⟨by unfold InI;omega,⟨by omega,by omega,by simpa using hb⟩,by omega⟩⟩) fun _=> ?_
 refine Lp2.ind (fun (i:Int) (b:List Int)=>0<=i/\i<=l.length/\b.length=10000) (fun (i:Int) _=>(l.length - i).toNat) ?_ ⟨by omega,by omega,hb⟩
 rintro i b ⟨i0,i1,hb⟩ _
 refine Cnd.mk (fun hc=>⟨by omega,fun y hy=> ?_⟩) fun _=>h b hb
 refine Lp2.ind (fun (j:Int) (b:List Int)=>0<=j/\b.length=10000) (fun (j:Int) _=>(10000 - j).toNat) ?_ ⟨by omega,hb⟩
 rintro j b ⟨j0,hb⟩
 refine⟨by omega,fun z hz=>Cnd.mk (fun hc=>⟨by omega,fun u hu=>⟨by omega,fun w hw=>⟨by omega,fun x hx=>⟨by unfold InI;omega,⟨by omega,by simpa using hb⟩,by omega⟩⟩⟩⟩) fun _=>⟨by unfold InI;omega,⟨by omega,by omega,hb⟩,by omega⟩⟩
theorem z2n{u:List Int}{now:Int}{K:List Spn->Prop}(hu:u.length<=10000)(h: ∀l,SpsS l->K l):q9r u now K:=by
 unfold q9r z4y
 refine fun _=>⟨⟨by omega,Int.le_refl _,by unfold Sml;omega⟩,Lp2.ind (fun (i:Int) (b:List Bool)=>0<=i/\i<=u.length/\b.length=u.length) (fun (i:Int) _=>(u.length - i).toNat) ?_ ⟨by omega,by omega,by simp⟩⟩
 rintro i b ⟨i0,i1,hb⟩ _
 exact Cnd.mk (fun hc=>⟨by omega,fun y hy=>⟨by omega,fun z hz=>⟨by unfold InI;omega,⟨by omega,by omega,by simpa using hb⟩,by omega⟩⟩⟩) fun _=>q33 (by omega) h
theorem q7o{a b:List Spn}{K:List Spn->Prop}(h: ∀l,SpsS l->K l):q9s a b K:=by
 unfold q9s z4z
 refine q2x fun x hx=>q2x fun y hy=>Lp2.ind (fun (i:Int) (b:List Bool)=>0<=i/\i<=10000/\b.length=10000) (fun (i:Int) _=>(10000 - i).toNat) ?_ ⟨by omega,by omega,hx⟩
 rintro i b ⟨i0,i1,hb⟩ _
 exact Cnd.mk (fun hc=>⟨by omega,fun y hy=>Cnd.mk (fun _=>⟨by omega,fun _ _=>⟨by unfold InI;omega,⟨by omega,by omega,by simpa using hb⟩,by omega⟩⟩) fun _=>⟨by omega,fun _ _=>⟨by omega,fun _ _=>⟨by unfold InI;omega,⟨by omega,by omega,by simpa using hb⟩,by omega⟩⟩⟩⟩) fun _=>q33 (by omega) h
theorem z9h{a b:List Spn}{K:List Spn->Prop}(h: ∀l,SpsS l->K l):Hn a b K:=by
 unfold Hn q9u
 refine q2x fun x hx=>q2x fun y hy=>Lp2.ind (fun (i:Int) (b:List Bool)=>0<=i/\i<=10000/\b.length=10000) (fun (i:Int) _=>(10000 - i).toNat) ?_ ⟨by omega,by omega,hx⟩
 rintro i b ⟨i0,i1,hb⟩ _
 exact Cnd.mk (fun hc=>⟨by omega,fun y hy=>Cnd.mk (fun _=>⟨by omega,fun _ _=>⟨by omega,fun _ _=>⟨by unfold InI;omega,⟨by omega,by omega,by simpa using hb⟩,by omega⟩⟩⟩) fun _=>⟨by omega,fun _ _=>⟨by unfold InI;omega,⟨by omega,by omega,by simpa using hb⟩,by omega⟩⟩⟩) fun _=>q33 (by omega) h
theorem j7m{a b:List Spn}{K:List Spn->Prop}(h: ∀l,SpsS l->K l):q0g a b K:=by
 unfold q0g q7g
 refine q2x fun x hx=>q2x fun y hy=>Lp2.ind (fun (i:Int) (b:List Bool)=>0<=i/\i<=10000/\b.length=10000) (fun (i:Int) _=>(10000 - i).toNat) ?_ ⟨by omega,by omega,hx⟩
 rintro i b ⟨i0,i1,hb⟩ _
 exact Cnd.mk (fun hc=>⟨by omega,fun y hy=>Cnd.mk (fun _=>⟨by omega,fun _ _=>⟨by omega,fun _ _=>⟨by unfold InI;omega,⟨by omega,by omega,by simpa using hb⟩,by omega⟩⟩⟩) fun _=>⟨by omega,fun _ _=>⟨by unfold InI;omega,⟨by omega,by omega,by simpa using hb⟩,by omega⟩⟩⟩) fun _=>q33 (by omega) h
theorem w0g{a:List Spn}{n:Int}{K:List Spn->Prop}(hn: -1000000<=n/\n<=1000000)(h: ∀l,SpsS l->K l):q9v a n K:=by
 unfold q9v z41
 refine q2x fun x hx=>Lp3.ind (fun (m i:Int) (b:List Bool)=>0<=i/\i<=10000/\b.length=10000/\ -1000000 - i<=m/\m<=1000000) (fun _ (i:Int) _=>(10000 - i).toNat) ?_ ⟨by omega,by omega,hx,by omega,by omega⟩
 rintro m i b ⟨i0,i1,hb,m0,m1⟩ _
 refine Cnd.mk (fun hc=>⟨by omega,fun y hy=> ?_⟩) fun _=>q33 (by omega) h
 have step:(0<=i/\i<(b.length:Int))/\ ∀y5,b[i.toNat]? =some y5->Cnd (y5=true) (InI (m - 1)/\InI (i+1)/\((0<=i+1/\i+1<=10000/\b.length=10000/\ -1000000 - (i+1)<=m - 1/\m - 1<=1000000)/\(10000 - (i+1)).toNat<(10000 - i).toNat)) (InI (i+1)/\((0<=i+1/\i+1<=10000/\b.length=10000/\ -1000000 - (i+1)<=m/\m<=1000000)/\(10000 - (i+1)).toNat<(10000 - i).toNat)):=
  ⟨by omega,fun _ _=>Cnd.mk (fun _=>⟨by unfold InI;omega,by unfold InI;omega,by omega,by omega⟩) fun _=>⟨by unfold InI;omega,by omega,by omega⟩⟩
 exact Cnd.mk (fun _=>Cnd.mk (fun _=>⟨by omega,fun _ _=>⟨by unfold InI;omega,⟨by omega,by omega,by simpa using hb,by omega,by omega⟩,by omega⟩⟩) fun _=>step) fun _=>step
theorem v6v(n:Int):0<=Go.IntKind.u8.wrap n/\Go.IntKind.u8.wrap n<=255:=by
 have e:Go.IntKind.u8.wrap n=n % 256:=rfl
 rw[e];omega
theorem w6g{s:ByteArray}{K:Bool->Prop}(hs:s.size<=1000)(h: ∀r,K r):q8t s K:=by
 unfold q8t
 refine Lp1.ind (fun (i:Int)=>0<=i/\i<=s.size) (fun (i:Int)=>(s.size - i).toNat) ?_ ⟨by omega,by omega⟩
 rintro i ⟨i0,i1⟩
 (repeat' (first|exact h _|assumption|(unfold InI;omega)|omega|refine Cnd.mk (fun _=> ?_) fun _=> ?_|refine⟨?_,?_⟩|intro _))
theorem w6h{e:Ex}{K:Bool->Prop}(h: ∀r,K r):q8u e K:=by
 unfold q8u
 (repeat' (first|exact h _|assumption|(unfold InI;omega)|omega|refine Cnd.mk (fun _=> ?_) fun _=> ?_|refine⟨?_,?_⟩|intro _))
theorem w0h{e:Ex}{K:Bool->Prop}(h: ∀r:Bool,(r=true->9<=e.op->e.op<=11->e.values≠[])->K r):q2h e K:=by
 unfold q2h q9w
 intro _ _
 refine Jn2.mk (fun _ v=>v=true->9<=e.op->e.op<=11->e.values.length=1) ?_ fun k v hv=> ?_
 ·refine Cnd.mk (fun _ _ _ _ _=>by omega) fun _=>Cnd.mk (fun _ _ _ _ _=>by omega) fun _=>Cnd.mk (fun _ _ _ _ _=>by omega) fun _=>Cnd.mk (fun _ _ _ _ _=>by omega) fun _=>q32 fun r hr=>Cnd.mk (fun _=>Cnd.mk (fun _ _ _ _=>by omega) fun _ _ hd _ _=>by have:=of_decide_eq_true hd;omega) fun hc _ h1 h2=>absurd (hr.2 ⟨by omega,by omega⟩) hc
 ·have no:K false:=h _ fun h=>by cases h
  refine q32 fun r _=>Cnd.mk (fun _=>Cnd.mk (fun hv'=> ?_) fun _=>no) fun _=>no
  have yes: ∀r,K r:=fun r=>h r fun _ h1 h2 hn=>by have:=hv hv' h1 h2;rw[hn] at this;cases this
  (repeat' (first|exact yes _|exact no|assumption|(unfold InI;omega)|omega|refine Cnd.mk (fun _=> ?_) fun _=> ?_|refine⟨?_,?_⟩|intro _))
theorem w2z{v:Val}{K:Bool->Prop}(h: ∀r,K r):q5k v K:=by
 unfold q5k
 (repeat' (first|exact h _|assumption|(unfold InI;omega)|omega|refine Cnd.mk (fun _=> ?_) fun _=> ?_|refine⟨?_,?_⟩|intro _))
theorem j3c{l:List Rng}{n:Int}{K:Int->Prop}(h: ∀r,0<=r->r<=100->K r):q2k l n K:=by
 unfold q2k
 intro _
 refine Cnd.mk (fun _=>h _ (by omega) (by omega)) fun _=> ?_
 refine Lp2.ind (fun _ (i:Int)=>0<=i/\i<=l.length) (fun _ (i:Int)=>(l.length - i).toNat) ?_ ⟨by omega,by omega⟩
 rintro a i ⟨i0,i1⟩
 (repeat' (first|exact h _ (by omega) (by omega)|assumption|(unfold InI;omega)|omega|refine Cnd.mk (fun _=> ?_) fun _=> ?_|refine⟨?_,?_⟩|intro _))
theorem w22{l:List Spn}{K:Int->Prop}(h: ∀r,0<=r->r<=100->K r):q5p l K:=by
 unfold q5p
 intro _
 refine Cnd.mk (fun _=>h _ (by omega) (by omega)) fun _=> ?_
 refine Lp1.ind (fun (i:Int)=>0<=i/\i<=l.length) (fun (i:Int)=>(l.length - i).toNat) ?_ ⟨by omega,by omega⟩
 rintro i ⟨i0,i1⟩
 (repeat' (first|exact h _ (by omega) (by omega)|assumption|(unfold InI;omega)|omega|refine Cnd.mk (fun _=> ?_) fun _=> ?_|refine⟨?_,?_⟩|intro _))
theorem w0i{α:Type}{l:List α}{f:α->ByteArray}{K:List ByteArray->Prop}(hl:l.length<=1000000)(h:K (l.map f)):
  Lp2 (fun (r:List ByteArray) (i:Int) Y=>l.length<=9223372036854775807->Cnd (i<(l.length:Int)) ((0<=i/\i<(l.length:Int))/\ ∀y,l[i.toNat]? =some y->Sml (r++[f y]).length/\InI (i+1)/\Y (r++[f y]) (i+1)) (K r)) [] 0:=by
 refine Lp2.ind (fun (r:List ByteArray) (i:Int)=>0<=i/\i<=l.length/\r=(l.take i.toNat).map f) (fun _ (i:Int)=>(l.length - i).toNat) ?_ ⟨Int.le_refl 0,by omega,by simp⟩
 rintro r i ⟨i0,i1,rfl⟩ _
 refine Cnd.mk (fun hc=>⟨by omega,fun y hy=>⟨by unfold Sml;simp;omega,by unfold InI;omega,⟨by omega,by omega,?_⟩,by omega⟩⟩) fun hc=> ?_
 ·rw[show (i+1).toNat=i.toNat+1 by omega,List.take_add_one,hy];simp
 ·rw[List.take_of_length_le (by omega)];exact h
theorem q2y{l:List Seg}{K:List ByteArray->Prop}(hl:l.length<=1000000)(h:K (l.map Seg.key)):q81 l K:=w0i hl h
theorem v3c{i:Nat}:(29:Int)*10 ^ (i+1)=10*(29*10 ^ i):=by rw[Int.pow_succ];omega
theorem z8q{s:ByteArray}{K:Int->Int->Prop}(hs:s.size<=1000)(h: ∀n e,InI n->0<=e->e<=100->K n e):Vt s K:=by
 unfold Vt
 refine Jn1.mk (fun d=>d.size<=1000) ?_ fun d hd=> ?_
 ·(repeat' (first|(show (s.extract _ _).size<=1000;rw[ByteArray.size_extract];omega)|assumption|(unfold InI;omega)|omega|refine Cnd.mk (fun _=> ?_) fun _=> ?_|refine⟨?_,?_⟩|intro _))
 refine Lp1.ind (fun (i:Int)=>0<=i/\i<=d.size) (fun (i:Int)=>(d.size - i).toNat) ?_ ⟨by omega,by omega⟩
 rintro i ⟨i0,i1⟩
 have fin:d.size<=13->Lp2 (fun (Qy Hf:Int) v7p=>Cnd (Hf<(↑d.size:Int)) (InI ((10:Int)*Qy)/\((0:Int)<=Hf/\Hf<(↑d.size:Int))/\ ∀b5,d[Hf.toNat]? =some b5->InI (Go.IntKind.u8.wrap ((↑b5.toNat:Int) - (48:Int)))/\InI ((10:Int)*Qy+Go.IntKind.u8.wrap ((↑b5.toNat:Int) - (48:Int)))/\InI (Hf+(1:Int))/\v7p ((10:Int)*Qy+Go.IntKind.u8.wrap ((↑b5.toNat:Int) - (48:Int))) (Hf+(1:Int))) (Cnd ((1099511627776:Int)<Qy) (K (0:Int) (3:Int)) (Cnd ((↑d.size:Int)<(↑s.size:Int)) (InI ((0:Int) - Qy)/\K ((0:Int) - Qy) (0:Int)) (K Qy (0:Int))))) (0:Int) (0:Int):=fun h13=>by
  refine Lp2.ind (fun (n j:Int)=>0<=j/\j<=d.size/\0<=n/\n+29<=29*10 ^ j.toNat) (fun _ (j:Int)=>(d.size - j).toNat) ?_ ⟨by omega,by omega,by omega,by simp⟩
  rintro n j ⟨j0,j1,n0,n1⟩
  have hp:(10:Int) ^ j.toNat<=10 ^ 13:=by
   have:=Nat.pow_le_pow_right (n:=10) (by decide) (show j.toNat<=13 by omega)
   exact_mod_cast this
  refine Cnd.mk (fun hc=>⟨by unfold InI;omega,by omega,fun b _=> ?_⟩) fun hc=> ?_
  ·obtain⟨w0,w1⟩:=v6v ((b.toNat:Int) - 48)
   refine⟨by unfold InI;omega,by unfold InI;omega,by unfold InI;omega,⟨by omega,by omega,by omega,?_⟩,by omega⟩
   rw[show (j+1).toNat=j.toNat+1 by omega,v3c];omega
  ·exact Cnd.mk (fun _=>h _ _ (by unfold InI;omega) (by omega) (by omega)) fun _=>Cnd.mk (fun _=>⟨by unfold InI;omega,h _ _ (by unfold InI;omega) (by omega) (by omega)⟩) fun _=>h _ _ (by unfold InI;omega) (by omega) (by omega)
 have k1:=h 0 1 (by unfold InI;omega) (by omega) (by omega)
 have k3:=h 0 3 (by unfold InI;omega) (by omega) (by omega)
 refine Cnd.mk (fun hc=>⟨by omega,fun b hb=>Cnd.mk (fun _=>k1) fun _=>⟨by omega,fun b' hb'=>Cnd.mk (fun _=>k1) fun _=>⟨by unfold InI;omega,by omega,by omega⟩⟩⟩) fun _=> ?_
 refine Cnd.mk (fun _=>k1) fun he=>⟨⟨by omega,?_⟩,fun b hb=>Cnd.mk (fun _=>Cnd.mk (fun _=>Cnd.mk (fun _=>k3) fun _=>fin (by omega)) fun _=>k1) fun _=>Cnd.mk (fun _=>k3) fun _=>fin (by omega)⟩
 refine Int.not_le.1 fun hn=>he ?_
 have:d.size=0:=by omega
 exact ByteArray.ext (Array.eq_empty_of_size_eq_zero this)
theorem w6i{t:Int}{e:Ex}{K:Bool->Prop}(h: ∀r,K r):Gv t e K:=by
 unfold Gv
 refine Cnd.mk (fun _=>h _) fun _=>Cnd.mk (fun _=> ?_) fun _ _=>Cnd.mk (fun _=>h _) fun _=>⟨by omega,fun y hy=>Cnd.mk (fun _=>h _) fun _=>Jn1.mk (fun _=>True) ?_ fun x _=> ?_⟩
 ·refine Lp1.ind (fun (i:Int)=>0<=i/\i<=e.values.length) (fun (i:Int)=>(e.values.length - i).toNat) ?_ ⟨by omega,by omega⟩
  rintro i ⟨i0,i1⟩
  (repeat' (first|exact h _|assumption|(unfold InI;omega)|omega|refine Cnd.mk (fun _=> ?_) fun _=> ?_|refine⟨?_,?_⟩|intro _))
 ·(repeat' (first|exact trivial|assumption|(unfold InI;omega)|omega|refine Cnd.mk (fun _=> ?_) fun _=> ?_|refine⟨?_,?_⟩|intro _))
 ·(repeat' (first|exact h _|assumption|(unfold InI;omega)|omega|refine Cnd.mk (fun _=> ?_) fun _=> ?_|refine⟨?_,?_⟩|intro _))
theorem z2o{v:Envt}{K:List ByteArray->Prop}(hl:v.flags.length<=1000000)(h:K (v.flags.map Flg.key)):q73 v K:=w0i hl h
def q2z(f:Flg):List Edg:=f.needs.map fun q=>Edg.mk f.key q.flag
theorem z03{v:Envt}{K:List Edg->Prop}(hl:v.flags.length<=1000)(hn: ∀f∈v.flags,f.needs.length<=1000)(h:K (v.flags.flatMap q2z)):q08 v K:=by
 unfold q08
 have hb: ∀l:List Flg,(∀f∈l,f.needs.length<=1000)->(l.flatMap q2z).length<=1000*l.length:=by
  intro l
  induction l with
  |nil=>simp
  |cons f l ih=>intro hf;have h1:=hf f (by simp);have h2:=ih fun g hg=>hf g (by simp[hg]);simp only[List.flatMap_cons,List.length_append,q2z,List.length_map,List.length_cons] at*;omega
 refine Lp2.ind (fun (r:List Edg) (i:Int)=>0<=i/\i<=v.flags.length/\r=(v.flags.take i.toNat).flatMap q2z) (fun _ (i:Int)=>(v.flags.length - i).toNat) ?_ ⟨Int.le_refl 0,by omega,by simp⟩
 rintro r i ⟨i0,i1,rfl⟩ _
 refine Cnd.mk (fun hc=> ?_) fun hc=> ?_
 ·obtain⟨f,hf⟩: ∃f,v.flags[i.toNat]? =some f:=⟨_,List.getElem?_eq_getElem (by omega)⟩
  have hfn:=hn f (getm hf)
  have hbt:=hb (v.flags.take i.toNat) fun g hg=>hn g (List.mem_of_mem_take hg)
  rw[List.length_take] at hbt
  refine Lp2.ind (fun (r:List Edg) (j:Int)=>0<=j/\j<=f.needs.length/\r=(v.flags.take i.toNat).flatMap q2z++(f.needs.take j.toNat).map fun q=>Edg.mk f.key q.flag) (fun _ (j:Int)=>(f.needs.length - j).toNat) ?_ ⟨by omega,by omega,by simp⟩
  rintro r j ⟨j0,j1,rfl⟩
  refine⟨by omega,fun g hg=> ?_⟩
  rw[hf] at hg;cases hg
  refine fun _=>Cnd.mk (fun hc=>⟨by omega,fun g hg=> ?_⟩) fun hc=>⟨by unfold InI;omega,⟨by omega,by omega,?_⟩,by omega⟩
  ·rw[hf] at hg;cases hg
   refine⟨by omega,fun g hg=> ?_⟩
   rw[hf] at hg;cases hg
   refine⟨by omega,fun q hq=>⟨?_,by unfold InI;omega,⟨by omega,by omega,?_⟩,by omega⟩⟩
   ·unfold Sml;simp only[List.length_append,List.length_map,List.length_take,List.length_cons,List.length_nil];omega
   ·rw[show (j+1).toNat=j.toNat+1 by omega,List.take_add_one,hq];simp
  ·rw[List.take_of_length_le (show f.needs.length<=j.toNat by omega),show (i+1).toNat=i.toNat+1 by omega,List.take_add_one,hf];simp[q2z]
 ·rw[List.take_of_length_le (by omega)];exact h
end Go.En
end
noncomputable section
set_option maxRecDepth 100000
namespace Go.Sg
open Go
abbrev bts(s:ByteArray):List UInt8:=s.data.toList
def isD(c:UInt8):Bool:=decide (48<=c.toNat) && decide (c.toNat<=57)
def y1d(n:Nat)(c:UInt8):Nat:=10*n+(c.toNat - 48)
def valD(n:Nat)(l:List UInt8):Nat:=l.foldl y1d n
def digs(s:ByteArray):ByteArray:=if s[0]? =some 45 then s.extract 1 s.size else s
def pnum(s:ByteArray):Int×Int:=
 if (bts (digs s)).all isD=false then (0,1)
 else if (digs s).size=0∨((digs s)[0]? =some 48/\s≠ByteArray.mk (Array.mk [48])) then (0,1)
 else if 1099511627776<valD 0 (bts (digs s)) then (0,3)
 else (if (digs s).size<s.size then -(valD 0 (bts (digs s)):Int) else valD 0 (bts (digs s)),0)
def dot(s:ByteArray)(k:Nat):Nat:=k+((bts s).drop k).idxOf 46
def okp(p:Int×Int):Bool:=decide (p.2=0) && decide (0<=p.1) && decide (p.1<=999999)
def v6w(s:ByteArray)(k:Nat):Int×Int:=pnum (s.extract k (dot s k))
def v88(s:ByteArray):Prop:=(dot s 0<s.size/\okp (v6w s 0)=true)/\(dot s (dot s 0+1)<s.size/\okp (v6w s (dot s 0+1))=true)/\ ¬dot s (dot s (dot s 0+1)+1)<s.size/\okp (v6w s (dot s (dot s 0+1)+1))=true
instance (s:ByteArray):Decidable (v88 s):=by unfold v88;infer_instance
end Go.Sg
end
noncomputable section
set_option maxRecDepth 100000
namespace Go.En
open Go Go.Fl Go.Fl.Lk Go.Fx Go.Sg
theorem take_snoc{l:List UInt8}{i:Nat}{b:UInt8}(h:l[i]? =some b):l.take (i+1)=l.take i++[b]:=by rw[List.take_add_one,h];rfl
end Go.En
end
noncomputable section
set_option maxRecDepth 100000
namespace Go.En
open Go Go.Fl Go.Fl.Lk Go.Fx Go.Sg
def sg(l g:Prop)[Decidable l][Decidable g]:Int:=if l then -1 else if g then 1 else 0
end Go.En
end
noncomputable section
set_option maxRecDepth 100000
namespace Go.En
open Go Go.Fl Go.Fl.Lk Go.Fx Go.Sg
open Classical in
def dec(p:Prop):Bool:=decide p
theorem j7n{p:Prop}:dec p=true↔p:=by unfold dec;exact @decide_eq_true_iff p (Classical.propDecidable p)
theorem v89{p:Prop}{r:Bool}(h:r=true↔p):r=dec p:=by rw[Bool.eq_iff_iff,h,j7n]
theorem q7p{p:Prop}(h:p):dec p=true:=j7n.2 h
theorem W5{p:Prop}(h: ¬p):dec p=false:=by rw[Bool.eq_false_iff];exact fun e=>h (j7n.1 e)
theorem j3d{a b:List ByteArray}{K:Bool->Prop}(h: ∀r,(r=true↔a=b)->K r):Jq a b K:=by
 unfold Jq
 intro ha hb
 refine Cnd.mk (fun hl _=> ?_) fun hl=>h _ ⟨fun h=>(by cases h),fun e=>by rw[e] at hl;exact absurd rfl hl⟩
 refine Lp1.ind (fun (i:Int)=>0<=i/\i<=a.length/\a.take i.toNat=b.take i.toNat) (fun (i:Int)=>(a.length - i).toNat) ?_ ⟨by omega,by omega,by simp⟩
 rintro i ⟨i0,i1,he⟩
 refine Cnd.mk (fun hc=>⟨by omega,fun x hx=>⟨by omega,fun y hy=>Cnd.mk (fun hc=>⟨by unfold InI;omega,⟨by omega,by omega,?_⟩,by omega⟩) fun hc=>h _ ⟨fun h=>(by cases h),fun h=> ?_⟩⟩⟩) fun hc=>h _ ⟨fun _=> ?_,fun _=>rfl⟩
 ·rw[show (i+1).toNat=i.toNat+1 by omega,List.take_add_one,List.take_add_one,he,hx,hy,hc]
 ·subst h;rw[hx] at hy;cases hy;exact absurd rfl hc
 ·rwa [List.take_of_length_le (by omega),List.take_of_length_le (by omega)] at he
def ValB(w:Val):Prop:=w.3.size<=2000000/\w.4.length<=2000000
end Go.En
end
noncomputable section
set_option maxRecDepth 100000
namespace Go.Gr
open Go.Fl Go.Fl.Lk
abbrev E2:=ByteArray×ByteArray
variable {ns ms:List ByteArray}{E D:List E2}{o o':List ByteArray}{x y:ByteArray}
def Rch(E:List E2)(x y:ByteArray):Prop:= ∀p:ByteArray->Prop,(∀e∈E,e.1=x∨p e.1->p e.2)->p y
theorem Rch.step{e:E2}(h:Rch E x e.1)(he:e∈E):Rch E x e.2:=fun p hp=>hp e he (.inr (h p hp))
def nd(E:List E2)(x:ByteArray):List ByteArray:=(E.filter fun e=>decide (e.1=x)).map (·.2)
end Go.Gr
end
noncomputable section
set_option maxRecDepth 100000
namespace Go.En
open Go Go.Fl Go.Fl.Lk Go.Fx Go.Sg
mutual
def evl(T:Ex->Bool)(I:ByteArray->Bool):Ex->Bool
 |⟨op,kind,name,values,kids⟩=>if op=1 then true else if op=2 then evlA T I kids else if op=3 then evlO T I kids else if op=4 then evlN T I kids else if op=5 then I name else T ⟨op,kind,name,values,kids⟩
def evlA(T:Ex->Bool)(I:ByteArray->Bool):List Ex->Bool
 |[]=>true
 |k::l=>if evl T I k=true then evlA T I l else false
def evlO(T:Ex->Bool)(I:ByteArray->Bool):List Ex->Bool
 |[]=>false
 |k::l=>if evl T I k=true then true else evlO T I l
def evlN(T:Ex->Bool)(I:ByteArray->Bool):List Ex->Bool
 |[]=>false
 |k::_=> !(evl T I k)
end
mutual
def subs:Ex->List Ex
 |⟨op,kind,name,values,kids⟩=>⟨op,kind,name,values,kids⟩::w6j kids
def w6j:List Ex->List Ex
 |[]=>[]
 |k::l=>subs k++w6j l
end
theorem v0c(e:Ex):subs e=e::w6j e.5:=by cases e;rfl
theorem j3e{a:Ex}{l:List Ex}:a∈w6j l↔ ∃k∈l,a∈subs k:=by
 induction l with
 |nil=>simp[w6j]
 |cons k l ih=>simp[w6j,ih]
mutual
def wt:Ex->Nat
 |⟨_,_,_,values,kids⟩=>1+wtV values+wtL kids
def wtL:List Ex->Nat
 |[]=>0
 |k::l=>wt k+wtL l
def wtV:List Val->Nat
 |[]=>0
 |v::l=>1+v.4.length+wtV l
end
theorem v3d(e:Ex):wt e=1+wtV e.4+wtL e.5:=by cases e;rfl
theorem v9a(e:Ex):1<=wt e:=by rw[v3d];omega
theorem v6x{k:Ex}{l:List Ex}(h:k∈l):wt k<=wtL l:=by
 induction l with
 |nil=>simp at h
 |cons a l ih=>
  simp only[wtL]
  rcases List.mem_cons.1 h with rfl|h
  ·omega
  ·have:=ih h;omega
theorem v9b{e k:Ex}(h:k∈e.5):wt k<wt e:=by have:=v6x h;rw[v3d e];omega
def EvB(e:Ex):Prop:= ∀a∈subs e,∀w∈a.4,ValB w
end Go.En
end
noncomputable section
set_option maxRecDepth 100000
namespace Go.En
open Go Go.Fl Go.Fl.Lk Go.Fx
theorem v6y{l:List ByteArray}(ha:Asc l){i:Nat}{s:ByteArray}(h1: ∀y∈l.take i,blt y s)(h2: ∀y∈l.drop i,blt s y):Asc (l.take i++[s]++l.drop i):=by
 unfold Asc at*
 rw[←List.take_append_drop i l,List.pairwise_append] at ha
 obtain⟨a1,a2,a3⟩:=ha
 rw[List.append_assoc,List.pairwise_append,List.singleton_append,List.pairwise_cons]
 refine⟨a1,⟨h2,a2⟩,fun a ha b hb=> ?_⟩
 rcases List.mem_cons.1 hb with rfl|hb
 ·exact h1 a ha
 ·exact a3 a ha b hb
theorem z60{l:List ByteArray}{s:ByteArray}{K:List ByteArray->Prop}(ha:Asc l)(hl:l.length<=1100000)(h: ∀r,Asc r->(∀y,y∈r↔y∈l∨y=s)->K r):Ri l s K:=by
 unfold Ri
 refine Lp1.ind (fun (i:Int)=>0<=i/\i<=l.length/\ ∀y∈l.take i.toNat,blt y s) (fun (i:Int)=>(l.length - i).toNat) ?_ ⟨by omega,by omega,by simp⟩
 rintro i ⟨i0,i1,hb⟩ _
 have ins:(∀y∈l.drop i.toNat,blt s y)->((0:Int)<=0/\0<=i/\i<=(l.length:Int))/\Sml ([]++List.drop (Int.toNat 0) (List.take i.toNat l)).length/\(0<=i/\i<=(l.length:Int)/\(l.length:Int)<=(l.length:Int))/\Sml ([]++List.drop (Int.toNat 0) (List.take i.toNat l)++[s]).length/\
   Sml ([]++List.drop (Int.toNat 0) (List.take i.toNat l)++[s]++List.drop i.toNat (List.take (l.length:Int).toNat l)).length/\K ([]++List.drop (Int.toNat 0) (List.take i.toNat l)++[s]++List.drop i.toNat (List.take (l.length:Int).toNat l)):=fun hd=>by
  have e:[]++List.drop (Int.toNat 0) (List.take i.toNat l)++[s]++List.drop i.toNat (List.take (l.length:Int).toNat l)=l.take i.toNat++[s]++l.drop i.toNat:=by simp
  refine⟨by omega,by unfold Sml;simp;omega,by omega,by unfold Sml;simp;omega,by unfold Sml;simp;omega,?_⟩
  rw[e]
  refine h _ (v6y ha hb hd) fun y=> ?_
  rw[List.mem_append,List.mem_append,List.mem_singleton]
  conv=>rhs;rw[←List.take_append_drop i.toNat l,List.mem_append]
  constructor
  ·rintro ((a|a)|a)
   ·exact .inl (.inl a)
   ·exact .inr a
   ·exact .inl (.inr a)
  ·rintro ((a|a)|a)
   ·exact .inl (.inl a)
   ·exact .inr a
   ·exact .inl (.inr a)
 have dropc: ∀{y:ByteArray},l[i.toNat]? =some y-> ∀z∈l.drop i.toNat,z=y∨blt y z:=fun {y} hy z hz=>by
  have hlt:=(List.getElem?_eq_some_iff.1 hy).1
  rw[List.drop_eq_getElem_cons hlt] at hz
  have e:l[i.toNat]=y:=(List.getElem?_eq_some_iff.1 hy).2
  rcases List.mem_cons.1 hz with hz|hz
  ·exact .inl (hz.trans e)
  ·unfold Asc at ha
   rw[←List.take_append_drop i.toNat l,List.pairwise_append,List.drop_eq_getElem_cons hlt,List.pairwise_cons,e] at ha
   exact .inr (ha.2.1.1 z hz)
 refine Cnd.mk (fun hc=>⟨by omega,fun y hy=>Cnd.mk (fun hlt=>⟨by unfold InI;omega,⟨by omega,by omega,?_⟩,by omega⟩) fun hn _=>Cnd.mk (fun _=>⟨by omega,fun z hz=>Cnd.mk (fun e=> ?_) fun e=>ins fun z' hz'=> ?_⟩) fun hx=>absurd hc hx⟩) fun hc _=>Cnd.mk (fun hx=>absurd hx hc) fun _=>ins ?_
 ·rw[show (i+1).toNat=i.toNat+1 by omega,List.take_add_one,hy]
  exact W9 hb hlt
 ·exact h _ ha fun y=>⟨.inl,fun hy=>hy.elim id fun q=>by rw[q,←e];exact getm hz⟩
 ·rw[hy] at hz;cases hz
  rcases dropc hy z' hz' with rfl|hlt
  ·exact Classical.byContradiction fun hb=>e (w1c hn hb)
  ·exact Classical.byContradiction fun hb=>by
    have h1:=w1c hn (fun k=>hb (j8o k hlt))
    exact e h1
 ·intro z hz
  rw[List.drop_of_length_le (by omega)] at hz;simp at hz
theorem j7o:Asc []:=List.Pairwise.nil
end Go.En
end
noncomputable section
set_option maxRecDepth 100000
namespace Go.En
open Go Go.Fl Go.Fl.Lk Go.Fx Go.Sg
theorem z61{a b:Val}{K:Bool->Prop}(h: ∀r,(r=true↔a=b)->K r):H3 a b K:=by
 unfold H3 z1v
 have no:(a≠b)->K false:=fun hn=>h _ ⟨fun h=>(by cases h),fun e=>absurd e hn⟩
 refine Cnd.mk (fun h1=>Cnd.mk (fun h2=>Cnd.mk (fun h3=>j3d fun r hr=>h r (hr.trans ⟨fun h4=> ?_,fun e=>by rw[e]⟩)) fun h=>no fun e=>h (by rw[e])) fun h=>no fun e=>h (by rw[e])) fun h=>no fun e=>h (by rw[e])
 cases a;cases b;simp_all
theorem w0j: ∀(n:Nat) {a b:Ex} {K:Bool->Prop},wt b<=n->(∀r,(r=true↔a=b)->K r)->q93 a b K:=by
 intro n a b K hn h X hX
 induction n generalizing a b K with
 |zero=>have:=v9a b;omega
 |succ n ih=>
 refine hX _ _ _ ?_
 unfold z42
 have no:(a≠b)->K false:=fun hn=>h _ ⟨fun h=>(by cases h),fun e=>absurd e hn⟩
 refine Cnd.mk (fun h1=>Cnd.mk (fun h2=>Cnd.mk (fun h3 ha4 _=>Cnd.mk (fun hl _=> ?_) fun h=>no fun e=>h (by rw[e])) fun h=>no fun e=>h (by rw[e])) fun h=>no fun e=>h (by rw[e])) fun h=>no fun e=>h (by rw[e])
 refine Lp1.ind (fun (i:Int)=>0<=i/\i<=a.4.length/\a.4.take i.toNat=b.4.take i.toNat) (fun (i:Int)=>(a.4.length - i).toNat) ?_ ⟨by omega,by omega,by simp⟩
 rintro i ⟨i0,i1,he⟩
 refine Cnd.mk (fun hc=>⟨by omega,fun x hx=>⟨by omega,fun y hy=>z61 fun r hr=>Cnd.mk (fun hb=>⟨by unfold InI;omega,⟨by omega,by omega,?_⟩,by omega⟩) fun hb=>no fun e=> ?_⟩⟩) fun hc ha5 _=>Cnd.mk (fun hl5 _=> ?_) fun h=>no fun e=>h (by rw[e])
 ·rw[show (i+1).toNat=i.toNat+1 by omega,List.take_add_one,List.take_add_one,he,hx,hy,hr.1 hb]
 ·subst e;rw[hx] at hy;cases hy;exact hb (hr.2 rfl)
 rw[List.take_of_length_le (by omega),List.take_of_length_le (by omega)] at he
 refine Lp1.ind (fun (i:Int)=>0<=i/\i<=a.5.length/\a.5.take i.toNat=b.5.take i.toNat) (fun (i:Int)=>(a.5.length - i).toNat) ?_ ⟨by omega,by omega,by simp⟩
 rintro i ⟨i0,i1,he5⟩
 refine Cnd.mk (fun hc=>⟨by omega,fun x hx=>⟨by omega,fun y hy=> ?_⟩⟩) fun hc=>h _ ⟨fun _=> ?_,fun _=>rfl⟩
 ·dsimp only;rw[Wg,Wg]
  have hkid:=v9b (getm hy)
  refine ih (by omega) fun r hr=>Cnd.mk (fun hb=>⟨by unfold InI;omega,⟨by omega,by omega,?_⟩,by omega⟩) fun hb=>no fun e=> ?_
  ·rw[show (i+1).toNat=i.toNat+1 by omega,List.take_add_one,List.take_add_one,he5,hx,hy,hr.1 hb]
  ·subst e;rw[hx] at hy;cases hy;exact hb (hr.2 rfl)
 ·rw[List.take_of_length_le (by omega),List.take_of_length_le (by omega)] at he5
  cases a;cases b;simp_all
def atm(e:Ex):Prop:=e.1=5∨(6<=e.1/\e.1<=15)
def nms(e:Ex):List ByteArray:=((subs e).filter fun a=>decide (a.1=5)).map Ex.name
theorem w23{e:Ex}{x:ByteArray}:x∈nms e↔ ∃a∈subs e,a.1=5/\a.3=x:=by
 unfold nms
 simp only[List.mem_map,List.mem_filter,decide_eq_true_eq]
 exact⟨fun ⟨a,⟨h1,h2⟩,h3⟩=>⟨a,h1,h2,h3⟩,fun ⟨a,h1,h2,h3⟩=>⟨a,⟨h1,h2⟩,h3⟩⟩
theorem j5w(e:Ex)(x:ByteArray):x∈nms e↔(e.1=5/\e.3=x)∨ ∃k∈e.5,x∈nms k:=by
 rw[w23,v0c]
 constructor
 ·rintro⟨a,ha,h⟩
  rcases List.mem_cons.1 ha with rfl|ha
  ·exact .inl h
  ·obtain⟨k,hk,ha⟩:=j3e.1 ha
   exact .inr ⟨k,hk,w23.2 ⟨a,ha,h⟩⟩
 ·rintro (h|⟨k,hk,h⟩)
  ·exact⟨e,List.mem_cons_self,h⟩
  ·obtain⟨a,ha,h⟩:=w23.1 h
   exact⟨a,List.mem_cons_of_mem _ (j3e.2 ⟨k,hk,ha⟩),h⟩
end Go.En
end
noncomputable section
set_option maxRecDepth 100000
namespace Go.En
open Go Go.Fl Go.Fl.Lk Go.Fx Go.Sg
structure ClE(segs:List ByteArray)(Q:Nat->Ex->Prop):Prop where
 hT: ∀k,Q k (Ex.mk 1 (ByteArray.mk (Array.mk [])) (ByteArray.mk (Array.mk [])) [] [])
 hS: ∀k b,b∈segs->Q k (Ex.mk 5 (ByteArray.mk (Array.mk [])) b [] [])
 ht: ∀k e,ExS 0 e->6<=e.1/\e.1<=15->Q k e
 hN: ∀k e,Q k e->Q (k+1) (Ex.mk 4 (ByteArray.mk (Array.mk [])) (ByteArray.mk (Array.mk [])) [] [e])
 hA: ∀k op l,op=2∨op=3->l.length<=3->l≠[]->(∀e∈l,Q k e∨ ∃e',Q k e'/\e=Ex.mk 4 (ByteArray.mk (Array.mk [])) (ByteArray.mk (Array.mk [])) [] [e'])->Q (k+1) (Ex.mk op (ByteArray.mk (Array.mk [])) (ByteArray.mk (Array.mk [])) [] l)
theorem ClE.and{segs:List ByteArray}{Q R:Nat->Ex->Prop}(a:ClE segs Q)(b:ClE segs R):ClE segs fun k e=>Q k e/\R k e:=
 ⟨fun k=>⟨a.hT k,b.hT k⟩,fun k x hx=>⟨a.hS k x hx,b.hS k x hx⟩,fun k e h1 h2=>⟨a.ht k e h1 h2,b.ht k e h1 h2⟩,fun k e h=>⟨a.hN k e h.1,b.hN k e h.2⟩,
  fun k op l h1 h2 h3 h=>⟨a.hA k op l h1 h2 h3 fun e he=>(h e he).imp (·.1) fun ⟨e',h,h'⟩=>⟨e',h.1,h'⟩,b.hA k op l h1 h2 h3 fun e he=>(h e he).imp (·.2) fun ⟨e',h,h'⟩=>⟨e',h.2,h'⟩⟩⟩
theorem z8r{list:List Int}{segs:List ByteArray}{Q:Nat->Ex->Prop}(c:ClE segs Q):
  ∀(k:Nat) {at_ levels:Int} {K:Ex->Int->Prop},k<=100->levels<=k+1->1<=levels->DS list at_->(∀r a,Q k r->DS list a->K r a)->z57 list at_ segs levels K:=by
 obtain⟨hT,hS,ht,hN,hA⟩:=c
 intro k at_ levels K hk0 hk hl hD h X hX
 induction k generalizing at_ levels K with
 |zero=>
  refine hX _ _ _ _ _ ?_
  unfold j0t
  refine Qh hD (by decide) fun r a r0 r1 hD=>Jn1.mk (fun x=>0<=x/\x<=3) (Cnd.mk (fun _=>Cnd.mk (fun _=>⟨by unfold InI;omega,by omega,by omega⟩) fun _=>⟨by omega,by omega⟩) fun _=>by omega) fun x hx=> ?_
  have t:=w0e (K:=fun r a=>K (Ex.mk r.1 r.2 r.3 r.4 r.5) a) hD fun r a hr h6 hD=>h _ a (by rw[Wg];exact ht 0 r hr h6) hD
  refine Cnd.mk (fun _=>h _ _ (hT 0) hD) fun _=>Cnd.mk (fun _ _=>Cnd.mk (fun hc _=> ?_) fun _=>t) fun _=>Cnd.mk (fun hc=>by omega) fun _=> ?_
  ·exact Qh hD (by omega) fun r a r0 r1 hD=>⟨⟨r0,r1⟩,fun y hy=>h _ _ (hS 0 y (getm hy)) hD⟩
  ·exact Jn1.mk (fun x=>x=false) (Cnd.mk (fun hc=>by omega) fun _=>decide_eq_false (by omega)) fun x hx=>Cnd.mk (fun hc=>by rw[hx] at hc;cases hc) fun _=>t
 |succ k ih=>
  refine hX _ _ _ _ _ ?_
  unfold j0t
  have go: ∀{at_:Int} {K:Ex->Int->Prop},1<=levels - 1->DS list at_->(∀r a,Q k r->DS list a->K r a)->X list at_ segs (levels - 1) K:=fun h1 hD hK=>ih (by omega) (by omega) h1 hD hK
  refine Qh hD (by decide) fun r a r0 r1 hD=>Jn1.mk (fun x=>0<=x/\x<=7/\(levels<=1->x<=3)) (Cnd.mk (fun _=>Cnd.mk (fun _=>⟨by unfold InI;omega,by omega,by omega,by omega⟩) fun _=>⟨by omega,by omega,by omega⟩) fun _=>by omega) fun x hx=> ?_
  have t:=w0e (K:=fun r a=>K (Ex.mk r.1 r.2 r.3 r.4 r.5) a) hD fun r a hr h6 hD=>h _ a (by rw[Wg];exact ht _ r hr h6) hD
  refine Cnd.mk (fun _=>h _ _ (hT _) hD) fun _=>Cnd.mk (fun _ _=>Cnd.mk (fun hc _=> ?_) fun _=>t) fun _=>Cnd.mk (fun hc=> ?_) fun _=> ?_
  ·exact Qh hD (by omega) fun r a r0 r1 hD=>⟨⟨r0,r1⟩,fun y hy=>h _ _ (hS _ y (getm hy)) hD⟩
  ·refine⟨by unfold InI;omega,go (by omega) hD fun e a he hD=>h _ _ ?_ hD⟩
   rw[Wg];exact hN k e he
  refine Jn1.mk (fun y=>y=true->2<=levels) (Cnd.mk (fun hc _=>by omega) fun _ hc=>by have:=of_decide_eq_true hc;omega) fun y hy=>Cnd.mk (fun hc=> ?_) fun _=>t
  have hy:=hy hc
  refine Qh hD (by decide) fun r a r0 r1 hD=>⟨by unfold InI;omega,Qh hD (by decide) fun q a q0 q1 hD=>⟨by unfold InI;omega,?_⟩⟩
  refine LpH.ind (fun x=>0<=x.1/\x.1<=2+q/\DS list x.2.1/\x.2.2=(2+r,ByteArray.mk (Array.mk []),ByteArray.mk (Array.mk []),[],x.2.2.2.2.2.2.1,())/\(x.2.2.2.2.2.2.1.length:Int)=x.1/\ ∀e∈x.2.2.2.2.2.2.1,Q k e∨ ∃e',Q k e'/\e=Ex.mk 4 (ByteArray.mk (Array.mk [])) (ByteArray.mk (Array.mk [])) [] [e']) (fun x=>(3 - x.1).toNat) ?_ ⟨Int.le_refl 0,by simp only;omega,hD,rfl,rfl,by simp⟩
  rintro⟨i,a,x⟩ ⟨i0,i1,hD,hx,hl,he⟩
  simp only at i0 i1 hD hx hl he
  generalize x.2.2.2.2.1=l at*
  subst hx
  simp only at hl he⊢
  refine Cnd.mk (fun hc=>⟨by unfold InI;omega,go (by omega) hD fun e a hk hD=> ?_⟩) fun hc=>h _ _ (hA k (2+r) l (by omega) (by omega) (fun e=>by rw[e] at hl;simp at hl;omega) he) hD
  refine Jn1.mk (fun z=>(fun e=>Q k e∨ ∃e',Q k e'/\e=Ex.mk 4 (ByteArray.mk (Array.mk [])) (ByteArray.mk (Array.mk [])) [] [e']) (Ex.mk z.1 z.2.1 z.2.2.1 z.2.2.2.1 z.2.2.2.2.1)) (Cnd.mk (fun _=> .inr ⟨e,hk,by simp only;rw[Wg]⟩) fun _=> .inl (by simp only;rw[Wg];exact hk)) fun z hz=> ?_
  exact⟨by unfold Sml;simp;omega,by unfold InI;omega,⟨by omega,by omega,hD,trivial,by simp;omega,W9 he hz⟩,by omega⟩
structure DrE(segs:List ByteArray)(w:Nat)(e:Ex):Prop where
 wt:wt e<=w
 nms: ∀x∈nms e,x∈segs
 ev:EvB e
theorem EvB.mk'{e:Ex}(h: ∀w∈e.4,ValB w)(hk: ∀k∈e.5,EvB k):EvB e:=fun a ha=>by
 rw[v0c] at ha
 rcases List.mem_cons.1 ha with rfl|ha
 ·exact h
 ·obtain⟨k,hk',ha⟩:=j3e.1 ha
  exact hk k hk' a ha
theorem v9c{l:List Val}{b:Nat}(h: ∀v∈l,v.4.length<=b):wtV l<=l.length*(1+b):=by
 induction l with
 |nil=>simp[wtV]
 |cons v l ih=>
  have h1:=h v List.mem_cons_self
  have h2:=ih fun v hv=>h v (List.mem_cons_of_mem _ hv)
  simp only[wtV,List.length_cons,Nat.add_mul,Nat.one_mul] at*
  omega
theorem v9d{l:List Ex}{b:Nat}(h: ∀e∈l,wt e<=b):wtL l<=l.length*b:=by
 induction l with
 |nil=>simp[wtL]
 |cons v l ih=>
  have h1:=h v List.mem_cons_self
  have h2:=ih fun v hv=>h v (List.mem_cons_of_mem _ hv)
  simp only[wtL,List.length_cons,Nat.add_mul,Nat.one_mul] at*
  omega
def lvl:Nat->Nat
 |0=>45
 |k+1=>4+3*lvl k
theorem v0d(k:Nat):45<=lvl k:=by
 induction k with
 |zero=>exact Nat.le_refl _
 |succ k ih=>simp only[lvl];omega
theorem v0e{segs:List ByteArray}:ClE segs fun k e=>DrE segs (lvl k) e:=by
 have leaf: ∀{e:Ex} {x:ByteArray},e.5=[]->x∈nms e->e.1=5/\e.3=x:=fun {e x} h5 hx=>by
  rw[j5w,h5] at hx
  exact hx.elim id fun ⟨k,hk,_⟩=>by simp at hk
 refine⟨fun k=>⟨?_,fun x hx=> ?_,EvB.mk' (by simp) (by simp)⟩,fun k b hb=>⟨?_,fun x hx=> ?_,EvB.mk' (by simp) (by simp)⟩,fun k e he h6=>⟨?_,fun x hx=> ?_,EvB.mk' (fun w hw=> ?_) (by rw[he.2.2.2];simp)⟩,fun k e he=>⟨?_,fun x hx=> ?_,EvB.mk' (by simp) (by simpa using he.ev)⟩,fun k op l hop h3 hne he=>⟨?_,fun x hx=> ?_,EvB.mk' (by simp) fun e hm=> ?_⟩⟩
 ·have:=v0d k;simp only[wt,wtV,wtL];omega
 ·have:=(leaf rfl hx).1;simp at this
 ·have:=v0d k;simp only[wt,wtV,wtL];omega
 ·rw[←(leaf rfl hx).2];exact hb
 ·have h1:=v0d k
  have h2:=v9c (l:=e.4) (b:=10) fun v hv=>(he.vals.all v hv).len
  have h3:=he.vals.len
  rw[v3d,he.2.2.2]
  simp only[wtL];omega
 ·have:=(leaf he.2.2.2 hx).1;omega
 ·exact⟨Nat.le_trans (he.vals.all w hw).txt (by decide),Nat.le_trans (he.vals.all w hw).len (by decide)⟩
 ·have:=he.wt;simp only[wt,wtV,wtL,lvl];omega
 ·rw[j5w] at hx
  rcases hx with hx|⟨k,hk,hx⟩
  ·simp at hx
  ·have:k=e:=by simpa using hk
   rw[this] at hx;exact he.nms x hx
 ·rw[v3d]
  have:wtL l<=l.length*(1+lvl k):=v9d fun e hm=>by
   rcases he e hm with h|⟨e',h,rfl⟩
   ·have:=h.wt;omega
   ·have:=h.wt;simp only[wt,wtV,wtL];omega
  have h4:l.length*(1+lvl k)<=3*(1+lvl k):=Nat.mul_le_mul_right _ h3
  simp only[wtV,lvl];omega
 ·rw[j5w] at hx
  rcases hx with hx|⟨q,hq,hx⟩
  ·simp only at hx;omega
  ·rcases he q hq with h|⟨e',h,rfl⟩
   ·exact h.nms x hx
   ·rw[j5w] at hx
    rcases hx with hx|⟨k,hk,hx⟩
    ·simp at hx
    ·have:k=e':=by simpa using hk
     rw[this] at hx;exact h.nms x hx
 ·rcases he e hm with h|⟨e',h,rfl⟩
  ·exact h.ev
  ·exact EvB.mk' (by simp) (by simpa using h.ev)
theorem w24{segs:List ByteArray}(hs: ∀s∈segs,s.size<=100):ClE segs fun k e=>ExS (2*k) e:=
 ⟨fun k=>ExS.le (n:=0) ⟨.nil,⟨sz0,sz0⟩,opl (by simp),rfl⟩ (by omega),fun k b hb=>ExS.le (n:=0) ⟨.nil,⟨hs _ hb,sz0⟩,opl (by simp),rfl⟩ (by omega),fun k e he _=>he.le (by omega),fun k e he=>(v87 he sz0 sz0).le (by omega),
  fun k op l hop h3 hne he=>⟨.nil,⟨sz0,sz0⟩,⟨InI.mk (by simp only;omega) (by simp only;omega),fun _ _=>hne⟩,h3,fun e hm=>by
   rcases he e hm with h|⟨e',h,rfl⟩
   ·exact h.up
   ·exact v87 h sz0 sz0⟩⟩
def Byts(l:List Int):Prop:= ∀x∈l,0<=x/\x<256
theorem w4v{l:List Int}{most:Int}{K:List Int->Int->Prop}(hb:Byts l)(h0:0<=most)(h1:most<=1000)(h: ∀r,DS r 0->K r 0):j6v l most K:=by
 unfold j6v
 refine Jn1.mk (fun r=>DS r 0) ?_ h
 refine fun _=>Cnd.mk (fun hc=>⟨by omega,?_⟩) fun hc=>⟨by omega,by omega,by omega,hb⟩
 rw[show List.drop (Int.toNat 0) (List.take most.toNat l)=l.take most.toNat from rfl]
 exact⟨by rw[List.length_take];omega,by omega,by omega,fun x hx=>hb x (List.mem_of_mem_take hx)⟩
end Go.En
end
noncomputable section
set_option maxRecDepth 100000
namespace Go.En
open Go Go.Fl Go.Fl.Lk Go.Fx
theorem j7p{α:Type}{l:List α}{p:α->Bool}{i:Nat}{y:α}(hy:l[i]? =some y)(hp:p y=true):(l.drop i).find? p=some y:=by
 have hlt:=Qa hy
 rw[List.drop_eq_getElem_cons hlt,List.find?_cons]
 have e:l[i]=y:=by rw[List.getElem?_eq_getElem hlt] at hy;exact Option.some.inj hy
 rw[e,hp]
theorem w0k{α:Type}{l:List α}{p:α->Bool}{i:Nat}{y:α}(hy:l[i]? =some y)(hp:p y=false):(l.drop i).find? p=(l.drop (i+1)).find? p:=by
 have hlt:=Qa hy
 rw[List.drop_eq_getElem_cons hlt,List.find?_cons]
 have e:l[i]=y:=by rw[List.getElem?_eq_getElem hlt] at hy;exact Option.some.inj hy
 rw[e,hp]
theorem srch{α:Type}{l:List α}(p:α->Bool){G:Int->α->(Int->Prop)->Prop}{B:Prop}(hl:l.length<=1000000000)(hB:l.find? p=none->B)
  (hG: ∀(i:Nat) y Y,l[i]? =some y->i<l.length->(p y=true->l.find? p=some y)->(p y=false->InI ((i:Int)+1)/\Y ((i:Int)+1))->G (i:Int) y Y):
  Lp1 (fun x Y=>Cnd (x<(l.length:Int)) ((0<=x/\x<(l.length:Int))/\ ∀y,l[x.toNat]? =some y->G x y Y) B) 0:=by
 refine Lp1.ind (fun i=> ∃j:Nat,i=(j:Int)/\j<=l.length/\l.find? p=(l.drop j).find? p) (fun i=>(l.length - i).toNat) ?_ ⟨0,rfl,by omega,rfl⟩
 rintro i ⟨j,rfl,hj,hf⟩
 refine Cnd.mk (fun hc=>⟨by omega,fun y hy=> ?_⟩) fun hc=> ?_
 ·have hy:l[j]? =some y:=hy
  refine hG j y _ hy (by omega) (fun hp=>by rw[hf,j7p hy hp]) fun hp=>⟨by unfold InI;omega,⟨j+1,by omega,by omega,by rw[hf,w0k hy hp]⟩,by omega⟩
 ·refine hB ?_
  rw[hf,List.drop_eq_nil_of_le (by omega)];rfl
theorem y1e{α:Type}{l:List α}(p:α->Bool){G:Int->α->(Int->Prop)->Prop}{B:Prop}(hl:l.length<=1000000000)(hB:l.find? p=none->B)
  (hG: ∀(i:Nat) y Y,l[i]? =some y->i<l.length->(p y=true->l.find? p=some y)->(p y=false->InI ((i:Int)+1)/\Y ((i:Int)+1))->G (i:Int) y Y):
  Lp1 (fun x Y=>l.length<=(9223372036854775807:Nat)->Cnd (x<(l.length:Int)) ((0<=x/\x<(l.length:Int))/\ ∀y,l[x.toNat]? =some y->G x y Y) B) 0:=by
 refine Lp1.ind (fun i=> ∃j:Nat,i=(j:Int)/\j<=l.length/\l.find? p=(l.drop j).find? p) (fun i=>(l.length - i).toNat) ?_ ⟨0,rfl,by omega,rfl⟩
 rintro i ⟨j,rfl,hj,hf⟩ _
 refine Cnd.mk (fun hc=>⟨by omega,fun y hy=> ?_⟩) fun hc=> ?_
 ·have hy:l[j]? =some y:=hy
  refine hG j y _ hy (by omega) (fun hp=>by rw[hf,j7p hy hp]) fun hp=>⟨by unfold InI;omega,⟨j+1,by omega,by omega,by rw[hf,w0k hy hp]⟩,by omega⟩
 ·refine hB ?_
  rw[hf,List.drop_eq_nil_of_le (by omega)];rfl
abbrev noT:ByteArray:=ByteArray.mk (Array.mk [])
def xof(v:Envt)(key:ByteArray):Option Exper:=v.6.find? fun x=>decide (x.1=key)
def insV(l:List Spn)(b:Int):Bool:=(l.find? fun r=>decide (r.1<=b) && decide (b<r.2)).isSome
def lof(v:Envt)(key:ByteArray):Option Lay_:=v.5.find? fun l=>decide (l.1=key)
theorem dt{p:Prop}[Decidable p](h:p):decide p=true:=decide_eq_true h
theorem df{p:Prop}[Decidable p](h: ¬p):decide p=false:=decide_eq_false h
end Go.En
end
noncomputable section
set_option maxRecDepth 100000
namespace Go.En
open Go Go.Fl Go.Fl.Lk Go.Fx
theorem B3{s:ByteArray}{K:Bool->Prop}(h: ∀r,K r):Vs s K:=by
 unfold Vs z3g
 refine Cnd.mk (fun _=>h _) fun hs=>⟨by omega,Cnd.mk (fun _=> ?_) fun _=>h _⟩
 refine Lp1.ind (fun (i:Int)=>0<=i/\i<=s.size) (fun (i:Int)=>(s.size - i).toNat) ?_ ⟨by omega,by omega⟩
 rintro i ⟨i0,i1⟩
 (repeat' (first|exact h _|assumption|(unfold InI;omega)|omega|refine Cnd.mk (fun _=> ?_) fun _=> ?_|refine⟨?_,?_⟩|intro _))
theorem j4o{K:List ByteArray->Prop}(h: ∀l:List ByteArray,l.length<=100->K l):Rf K:=by
 unfold Rf
 exact h _ (by decide)
theorem G0{s:ByteArray}{K:Bool->Prop}(hs:s.size<=1000)(h: ∀r,K r):Uk s K:=by
 unfold Uk j0u
 refine w6g hs fun r=>Cnd.mk (fun _=>Cnd.mk (fun _=>h _) fun _=>j4o fun l hl=> ?_) fun _=>h _
 refine Lp1.ind (fun (i:Int)=>0<=i/\i<=l.length) (fun (i:Int)=>(l.length - i).toNat) ?_ ⟨by omega,by omega⟩
 rintro i ⟨i0,i1⟩
 (repeat' (first|exact h _|assumption|(unfold InI;omega)|omega|refine Cnd.mk (fun _=> ?_) fun _=> ?_|refine⟨?_,?_⟩|intro _))
theorem z4j{s:Sett}{K:Int->Prop}(hs:s.holdoutKind.size<=1000)(h: ∀r,K r):V2 s K:=by
 unfold V2 q40
 (repeat' (first|exact h _|refine B3 fun _=> ?_|refine G0 hs fun _=> ?_|assumption|(unfold InI;omega)|omega|refine Cnd.mk (fun _=> ?_) fun _=> ?_|refine⟨?_,?_⟩|intro _))
theorem z4k{l:List Decl}{K:Int->Prop}(hl: ∀d∈l,d.kind.size<=1000/\d.name.size<=1000)(h: ∀r,K r):V3 l K:=by
 unfold V3 q41
 refine fun _=>Cnd.mk (fun _=>h _) fun _=> ?_
 refine Lp1.ind (fun (i:Int)=>0<=i/\i<=l.length) (fun (i:Int)=>(l.length - i).toNat) ?_ ⟨by omega,by omega⟩
 rintro i ⟨i0,i1⟩ _
 refine Cnd.mk (fun hc=>⟨by omega,fun y hy=>G0 (hl y (getm hy)).1 fun _=>Cnd.mk (fun _=>⟨by omega,fun y hy=>G0 (hl y (getm hy)).2 fun _=> ?_⟩) fun _=>h _⟩) fun _=>h _
 (repeat' (first|exact h _|assumption|(unfold InI;omega)|omega|refine Cnd.mk (fun _=> ?_) fun _=> ?_|refine⟨?_,?_⟩|intro _))
theorem z62{l:List ByteArray}{K:Int->Prop}(h: ∀r,K r):Hp l K:=by
 unfold Hp q7b
 refine fun _=>Cnd.mk (fun _=>h _) fun _=> ?_
 refine Lp1.ind (fun (i:Int)=>0<=i/\i<=l.length) (fun (i:Int)=>(l.length - i).toNat) ?_ ⟨by omega,by omega⟩
 rintro i ⟨i0,i1⟩
 (repeat' (first|exact h _|refine B3 fun _=> ?_|assumption|(unfold InI;omega)|omega|refine Cnd.mk (fun _=> ?_) fun _=> ?_|refine⟨?_,?_⟩|intro _))
theorem w6k{l:List ByteArray}{K:Int->Prop}(h: ∀r,K r):q8w l K:=by
 unfold q8w z6f
 refine fun _=>Cnd.mk (fun _=>h _) fun _=> ?_
 refine Lp1.ind (fun (i:Int)=>0<=i/\i<=l.length) (fun (i:Int)=>(l.length - i).toNat) ?_ ⟨by omega,by omega⟩
 rintro i ⟨i0,i1⟩ _
 refine Cnd.mk (fun hc=>⟨by omega,fun y hy=>B3 fun _=>Cnd.mk (fun _=>⟨by unfold InI;omega,⟨by omega,by omega⟩,by omega⟩) fun _=>h _⟩) fun _=> ?_
 refine Lp1.ind (fun (i:Int)=>1<=i/\i<=l.length+1) (fun (i:Int)=>(l.length+1 - i).toNat) ?_ ⟨by omega,by omega⟩
 rintro i ⟨i0,i1⟩
 (repeat' (first|exact h _|assumption|(unfold InI;omega)|omega|refine Cnd.mk (fun _=> ?_) fun _=> ?_|refine⟨?_,?_⟩|intro _))
theorem w25{s:ByteArray}{K:A3->Bool->Prop}(hs:s.size<=1000)(h: ∀a r,K a r):q5l s K:=by
 unfold q5l z3i
 refine LpH.ind (fun x=>0<=x.1/\0<=x.2.1/\x.2.1<=3/\(x.2.1<3->x.1<=(s.size:Int))) (fun x=>(3 - x.2.1).toNat) ?_ ⟨by simp,by simp,by simp,by simp⟩
 rintro⟨a,i,x⟩ ⟨a0,i0,i1,a1⟩
 simp only at a0 a1 i0 i1⊢
 refine Cnd.mk (fun hc=> ?_) fun _=>h _ _
 have a1:=a1 hc
 have sz: ∀j:Int,(s.extract a.toNat j.toNat).size<=1000:=fun j=>by rw[ByteArray.size_extract];omega
 refine Lp1.ind (fun (j:Int)=>a<=j/\j<=s.size) (fun (j:Int)=>(s.size - j).toNat) ?_ ⟨by omega,by omega⟩
 rintro j ⟨j0,j1⟩
 (repeat' (first|exact h _ _|exact trivial|refine z8q (sz _) fun _ _ _ _ _=> ?_|(intro _;simp only[decide_eq_decide] at*;omega)|assumption|(unfold InI;omega)|omega|refine Cnd.mk (fun _=> ?_) fun _=> ?_|refine⟨?_,?_⟩|intro _))
theorem j3f{v:Val}{K:Int->Prop}(hv:v.text.size<=1000)(h: ∀r,K r):q2j v K:=by
 unfold q2j z3j
 (repeat' (first|exact h _|refine w2z fun _=> ?_|refine B3 fun _=> ?_|refine w25 hv fun _ _=> ?_|refine w6k fun _=> ?_|assumption|(unfold InI;omega)|omega|refine Cnd.mk (fun _=> ?_) fun _=> ?_|refine⟨?_,?_⟩|intro _))
theorem w6l{n:Nat}{e:Ex}{K:Int->Prop}(he:ExS n e)(h: ∀r,K r):Hq e K:=by
 unfold Hq z6h
 have hv: ∀v∈e.values,v.text.size<=1000:=fun v hv=>by have:=(he.vals.all v hv).txt;omega
 have hn:=he.nm
 have hk:=he.kd
 rw[Wg]
 refine Cnd.mk (fun _=>h _) fun _=>Cnd.mk (fun _=>h _) fun _=>w0h fun r hr=>Cnd.mk (fun hc=> ?_) fun _=>h _
 have hne:=hr hc
 have z:e.op=9∨e.op=10∨e.op=11->(0:Int)<(e.values.length:Int):=fun ho=>by
  have:=List.length_pos_iff.2 (hne (by omega) (by omega));omega
 (repeat' (first|exact h _|refine q32 fun _ _=> ?_|refine G0 (by omega) fun _=> ?_|(refine j3f (hv _ (getm (by assumption))) fun _=> ?_)|(refine Lp1.ind (fun (i:Int)=>0<=i/\i<=e.kids.length+e.values.length) (fun (i:Int)=>(e.kids.length+e.values.length - i).toNat) (fun i hi=> ?_) ⟨by omega,by omega⟩)|assumption|(unfold InI;omega)|omega|refine Cnd.mk (fun _=> ?_) fun _=> ?_|refine⟨?_,?_⟩|intro _))
theorem w6m: ∀(n:Nat) {e:Ex} {d m:Int} {K:Int->Int->Prop},ExS n e->0<=d->d<=11->0<=m->(∀r m,0<=m->K r m)->R8 e d m K:=by
 intro n e d m K he d0 d1 m0 h X hX
 induction n using Nat.strongRecOn generalizing e d m K with
 |_ n ih=>
 refine hX _ _ _ _ ?_
 unfold q56
 rw[Wg]
 refine Cnd.mk (fun _=>h _ _ m0) fun _=>⟨by unfold InI;omega,Cnd.mk (fun _=>h _ _ (by omega)) fun _=>w6l he fun _=>Cnd.mk (fun _=> ?_) fun _=>h _ _ (by omega)⟩
 refine Lp2.ind (fun (i m:Int)=>0<=i/\i<=e.kids.length/\0<=m) (fun (i _:Int)=>(e.kids.length - i).toNat) ?_ ⟨by omega,by omega,by omega⟩
 rintro i m ⟨i0,i1,m0⟩ _
 refine Cnd.mk (fun hc=>⟨by omega,fun y hy=>⟨by unfold InI;omega,?_⟩⟩) fun _=>h _ _ m0
 obtain⟨q,hq,hk⟩:=he.kid (getm hy)
 rw[Wg]
 exact ih q (by omega) hk (by omega) (by omega) m0 fun r m m0=>Cnd.mk (fun _=>⟨by unfold InI;omega,⟨by omega,by omega,m0⟩,by omega⟩) fun _=>h _ _ m0
theorem z8s{n:Nat}{e:Ex}{K:Int->Prop}(he:ExS n e)(h: ∀r,K r):q3u e K:=by
 unfold q3u z6i
 rw[Wg]
 exact w6m n he (by decide) (by decide) (by decide) fun r _ _=>h r
theorem j7q{g:Seg}{K:Int->Prop}(hg:SegS g)(h: ∀r,K r):B9 g K:=by
 unfold B9 q7c
 have h1:=hg.key
 have h2:=hg.kind
 rw[Wg]
 (repeat' (first|exact h _|refine G0 (by omega) fun _=> ?_|refine z62 fun _=> ?_|refine w6h fun _=> ?_|refine z8s hg.cond fun _=> ?_|assumption|(unfold InI;omega)|omega|refine Cnd.mk (fun _=> ?_) fun _=> ?_|refine⟨?_,?_⟩|intro _))
theorem z4l{l:List Seg}{K:Int->Prop}(hl: ∀g∈l,SegS g)(h: ∀r,K r):V4 l K:=by
 unfold V4 q42
 refine fun _=>Cnd.mk (fun _=>h _) fun _=> ?_
 refine Lp1.ind (fun (i:Int)=>0<=i/\i<=l.length) (fun (i:Int)=>(l.length - i).toNat) ?_ ⟨by omega,by omega⟩
 rintro i ⟨i0,i1⟩ _
 refine Cnd.mk (fun hc=>⟨by omega,fun y hy=> ?_⟩) fun _=>h _
 dsimp only;rw[Wg]
 refine j7q (hl y (getm hy)) fun _=> ?_
 (repeat' (first|exact h _|assumption|(unfold InI;omega)|omega|refine Cnd.mk (fun _=> ?_) fun _=> ?_|refine⟨?_,?_⟩|intro _))
theorem z97{f:Flg}{K:Int->Prop}(hf: ∀v∈f.variations,ValS v)(h: ∀r,K r):Up f K:=by
 unfold Up q05
 have hv: ∀v∈f.variations,v.text.size<=1000:=fun v hv=>by have:=(hf v hv).txt;omega
 (repeat' (first|exact h _|(refine j3f (hv _ (getm (by assumption))) fun _=> ?_)|(refine Lp1.ind (fun (i:Int)=>0<=i/\i<=f.variations.length) (fun (i:Int)=>(f.variations.length - i).toNat) (fun i hi=> ?_) ⟨by omega,by omega⟩)|assumption|(unfold InI;omega)|omega|refine Cnd.mk (fun _=> ?_) fun _=> ?_|refine⟨?_,?_⟩|intro _))
theorem z5j{l:List Prq}{K:Int->Prop}(hl: ∀q∈l,q.flag.size<=100)(h: ∀r,K r):Wr l K:=by
 unfold Wr G8
 refine fun _=>Cnd.mk (fun _=>h _) fun _=> ?_
 refine Lp1.ind (fun (i:Int)=>0<=i/\i<=l.length) (fun (i:Int)=>(l.length - i).toNat) ?_ ⟨by omega,by omega⟩
 rintro i ⟨i0,i1⟩ _
 refine Cnd.mk (fun hc=>⟨by omega,fun y hy=>G0 (by have:=hl y (getm hy);omega) fun _=> ?_⟩) fun _=>h _
 (repeat' (first|exact h _|assumption|(unfold InI;omega)|omega|refine Cnd.mk (fun _=> ?_) fun _=> ?_|refine⟨?_,?_⟩|intro _))
theorem j7r{l:List Tgt}{n:Int}{K:Int->Prop}(hl: ∀t∈l,t.kind.size<=100)(h: ∀r,K r):q0a l n K:=by
 unfold q0a q7d
 refine fun _=>Cnd.mk (fun _=>h _) fun _=> ?_
 refine Lp1.ind (fun (i:Int)=>0<=i/\i<=l.length) (fun (i:Int)=>(l.length - i).toNat) ?_ ⟨by omega,by omega⟩
 rintro i ⟨i0,i1⟩ _
 refine Cnd.mk (fun hc=>⟨by omega,fun y hy=>G0 (by have:=hl y (getm hy);omega) fun _=> ?_⟩) fun _=>h _
 (repeat' (first|exact h _|refine z62 fun _=> ?_|assumption|(unfold InI;omega)|omega|refine Cnd.mk (fun _=> ?_) fun _=> ?_|refine⟨?_,?_⟩|intro _))
theorem j3g{m n:Int}{s:Srv}{K:Int->Prop}(hs:SrvS m s)(h: ∀r,K r):q2m s n K:=by
 unfold q2m z3k
 have h1:=hs.kind
 have h2:=hs.by_
 (repeat' (first|exact h _|refine G0 (by omega) fun _=> ?_|refine B3 fun _=> ?_|refine j3c fun _ _ _=> ?_|assumption|(unfold InI;omega)|omega|refine Cnd.mk (fun _=> ?_) fun _=> ?_|refine⟨?_,?_⟩|intro _))
theorem w26{m n:Int}{l:List Rul}{K:Int->Prop}(hl: ∀r∈l,RulS m r)(h: ∀r,K r):q5n l n K:=by
 unfold q5n z3l
 refine fun _=>Cnd.mk (fun _=>h _) fun _=> ?_
 refine Lp1.ind (fun (i:Int)=>0<=i/\i<=l.length) (fun (i:Int)=>(l.length - i).toNat) ?_ ⟨by omega,by omega⟩
 rintro i ⟨i0,i1⟩ _
 refine Cnd.mk (fun hc=>⟨by omega,fun y hy=>G0 (by have:=(hl y (getm hy)).name;omega) fun _=>Cnd.mk (fun _=> ?_) fun _=>h _⟩) fun _=>h _
 refine Lp1.ind (fun (j:Int)=>0<=j/\j<=i) (fun (j:Int)=>(i - j).toNat) ?_ ⟨by omega,by omega⟩
 rintro j ⟨j0,j1⟩
 refine Cnd.mk (fun hc=>⟨by omega,fun y hy=>⟨by omega,fun z hz=>Cnd.mk (fun _=>h _) fun _=>⟨by unfold InI;omega,⟨by omega,by omega⟩,by omega⟩⟩⟩) fun _=>⟨by omega,fun y hy=> ?_⟩
 dsimp only;rw[Wg]
 refine z8s (hl y (getm hy)).cond fun _=>Cnd.mk (fun _=>⟨by omega,fun z hz=>j3g (hl z (getm hz)).serve fun _=> ?_⟩) fun _=>h _
 (repeat' (first|exact h _|assumption|(unfold InI;omega)|omega|refine Cnd.mk (fun _=> ?_) fun _=> ?_|refine⟨?_,?_⟩|intro _))
theorem j5x{f:Flg}{K:Int->Prop}(hf:FlgS f)(h: ∀r,K r):q3x f K:=by
 unfold q3x z6j
 have h1:=hf.key
 (repeat' (first|exact h _|refine G0 (by omega) fun _=> ?_|refine z97 hf.vals fun _=> ?_|refine z5j hf.needs fun _=> ?_|refine j7r hf.tgts fun _=> ?_|refine w26 hf.rules fun _=> ?_|refine j3g hf.dflt fun _=> ?_|assumption|(unfold InI;omega)|omega|refine Cnd.mk (fun _=> ?_) fun _=> ?_|refine⟨?_,?_⟩|intro _))
theorem w27{l:List Flg}{K:Int->Prop}(hl: ∀f∈l,FlgS f)(h: ∀r,K r):q5o l K:=by
 unfold q5o z3m
 refine fun _=>Cnd.mk (fun _=>h _) fun _=> ?_
 refine Lp1.ind (fun (i:Int)=>0<=i/\i<=l.length) (fun (i:Int)=>(l.length - i).toNat) ?_ ⟨by omega,by omega⟩
 rintro i ⟨i0,i1⟩ _
 refine Cnd.mk (fun hc=>⟨by omega,fun y hy=>j5x (hl y (getm hy)) fun _=> ?_⟩) fun _=>h _
 (repeat' (first|exact h _|assumption|(unfold InI;omega)|omega|refine Cnd.mk (fun _=> ?_) fun _=> ?_|refine⟨?_,?_⟩|intro _))
theorem w28{l:Lay_}{K:Int->Prop}(hl:LayS l)(h: ∀r,K r):Rg l K:=by
 unfold Rg q80
 have h1:=hl.key
 have h2:=hl.kind
 (repeat' (first|exact h _|refine G0 (by omega) fun _=> ?_|refine B3 fun _=> ?_|(refine Lp1.ind (fun (i:Int)=>0<=i/\i<=l.cooling.length) (fun (i:Int)=>(l.cooling.length - i).toNat) (fun i hi=> ?_) ⟨by omega,by omega⟩)|assumption|(unfold InI;omega)|omega|refine Cnd.mk (fun _=> ?_) fun _=> ?_|refine⟨?_,?_⟩|intro _))
theorem z9i{l:List Lay_}{K:Int->Prop}(hl: ∀f∈l,LayS f)(h: ∀r,K r):Wz l K:=by
 unfold Wz q58
 refine fun _=>Cnd.mk (fun _=>h _) fun _=> ?_
 refine Lp1.ind (fun (i:Int)=>0<=i/\i<=l.length) (fun (i:Int)=>(l.length - i).toNat) ?_ ⟨by omega,by omega⟩
 rintro i ⟨i0,i1⟩ _
 refine Cnd.mk (fun hc=>⟨by omega,fun y hy=>w28 (hl y (getm hy)) fun _=> ?_⟩) fun _=>h _
 (repeat' (first|exact h _|assumption|(unfold InI;omega)|omega|refine Cnd.mk (fun _=> ?_) fun _=> ?_|refine⟨?_,?_⟩|intro _))
theorem z04{x:Exper}{K:Int->Prop}(hx:ExpS x)(h: ∀r,K r):Jk x K:=by
 unfold Jk Ht
 have h1:=hx.key
 have h2:=hx.layer
 have h3:=hx.flag
 rw[Wg]
 (repeat' (first|exact h _|refine G0 (by omega) fun _=> ?_|refine B3 fun _=> ?_|refine w22 fun _ _ _=> ?_|refine j3c fun _ _ _=> ?_|refine z8s hx.cond fun _=> ?_|assumption|(unfold InI;omega)|omega|refine Cnd.mk (fun _=> ?_) fun _=> ?_|refine⟨?_,?_⟩|intro _))
theorem z8t{l:List Exper}{K:Int->Prop}(hl: ∀f∈l,ExpS f)(h: ∀r,K r):Vu l K:=by
 unfold Vu Bi
 refine fun _=>Cnd.mk (fun _=>h _) fun _=> ?_
 refine Lp1.ind (fun (i:Int)=>0<=i/\i<=l.length) (fun (i:Int)=>(l.length - i).toNat) ?_ ⟨by omega,by omega⟩
 rintro i ⟨i0,i1⟩ _
 refine Cnd.mk (fun hc=>⟨by omega,fun y hy=> ?_⟩) fun _=>h _
 dsimp only;rw[Wg]
 refine z04 (hl y (getm hy)) fun _=> ?_
 (repeat' (first|exact h _|assumption|(unfold InI;omega)|omega|refine Cnd.mk (fun _=> ?_) fun _=> ?_|refine⟨?_,?_⟩|intro _))
theorem z8u{v:Envt}{K:Int->Prop}(hv:EnvS v)(h: ∀r,K r):Vv v K:=by
 unfold Vv Bj
 refine z4j (show v.settings.holdoutKind.size<=1000 by have:=hv.hkind;omega) fun _=>Cnd.mk (fun _=>z4k (fun d hd=>by have:=hv.attrs d hd;omega) fun _=> ?_) fun _=>h _
 (repeat' (first|exact h _|refine z4l hv.segs fun _=> ?_|refine w27 hv.flags fun _=> ?_|refine z9i hv.layers fun _=> ?_|refine z8t hv.exps fun _=> ?_|assumption|(unfold InI;omega)|omega|refine Cnd.mk (fun _=> ?_) fun _=> ?_|refine⟨?_,?_⟩|intro _))
end Go.En
end
noncomputable section
set_option maxRecDepth 100000
namespace Go.Dg
open Go.Fl
abbrev Nd:=Int×Int×Int
def nd(ns:List Nd)(id:Int):Nd:=ns.getD id.toNat (0,0,0)
def top(ns:List Nd)(id:Int):Int:=if id<0 then 1001 else (nd ns id).1
def Ok(ns:List Nd)(id:Int):Prop:= -1002<id/\id<ns.length
def evF(ns:List Nd)(h:Int->Bool):Nat->Int->Int
 |0,id=> -1 - id
 |n+1,id=>if id<0 then -1 - id else evF ns h n (if h (nd ns id).1=true then (nd ns id).2.1 else (nd ns id).2.2)
def ev(ns:List Nd)(h:Int->Bool)(id:Int):Int:=evF ns h (id.toNat+1) id
structure Nod(ns:List Nd):Prop where
 nod: ∀i:Int,0<=i->i<ns.length->0<=(nd ns i).1/\(nd ns i).1<=1000/\ -1002<(nd ns i).2.1/\(nd ns i).2.1<i/\ -1002<(nd ns i).2.2/\(nd ns i).2.2<i/\
  (nd ns i).2.1≠(nd ns i).2.2/\(nd ns i).1<top ns (nd ns i).2.1/\(nd ns i).1<top ns (nd ns i).2.2
 one: ∀i j:Int,0<=i->i<ns.length->0<=j->j<ns.length->nd ns i=nd ns j->i=j
structure Inv(ns:List Nd)(ids:Nd->Option Int):Prop where
 nod:Nod ns
 ids: ∀n (id:Int),ids n=some id↔0<=id/\id<ns.length/\nd ns id=n
theorem q1r{ns:List Nd}{h:Int->Bool}{id:Int}(hi:id<0):ev ns h id= -1 - id:=by
 simp[ev,evF,hi]
theorem w4w{ns:List Nd}(hN:Nod ns){h:Int->Bool}: ∀(n m:Nat) (id:Int),id<ns.length->id<n->id<m->evF ns h n id=evF ns h m id:=by
 intro n
 induction n with
 |zero=>
  intro m id _ h1 _
  have:id<0:=by omega
  cases m with
  |zero=>rfl
  |succ m=>simp[evF,this]
 |succ n ih=>
  intro m id hl h1 h2
  cases m with
  |zero=>
   have:id<0:=by omega
   simp[evF,this]
  |succ m=>
   simp only[evF]
   by_cases hi:id<0
   ·simp[hi]
   ·simp only[hi,if_false]
    obtain⟨_,_,_,a,_,b,_⟩:=hN.nod id (by omega) hl
    cases ht:h (nd ns id).1 with
    |true=>simp only[if_true];exact ih m _ (by omega) (by omega) (by omega)
    |false=>simp only[Bool.false_eq_true,if_false];exact ih m _ (by omega) (by omega) (by omega)
theorem q62{ns:List Nd}(hN:Nod ns){h:Int->Bool}{id:Int}(hi:0<=id)(hl:id<ns.length):
  ev ns h id=if h (nd ns id).1=true then ev ns h (nd ns id).2.1 else ev ns h (nd ns id).2.2:=by
 obtain⟨_,_,_,a,_,b,_⟩:=hN.nod id hi hl
 have hn: ¬id<0:=by omega
 show evF ns h (id.toNat+1) id=_
 simp only[evF,hn,if_false]
 cases ht:h (nd ns id).1 with
 |true=>simp only[if_true];exact w4w hN _ _ _ (by omega) (by omega) (by omega)
 |false=>simp only[Bool.false_eq_true,if_false];exact w4w hN _ _ _ (by omega) (by omega) (by omega)
theorem j5y{ns:List Nd}(hN:Nod ns){id:Int}(hl:id<ns.length):0<=top ns id/\top ns id<=1001/\(0<=id->top ns id<=1000):=by
 by_cases hi:id<0
 ·simp only[top,hi,if_true];omega
 ·obtain⟨a,b,_⟩:=hN.nod id (by omega) hl
  simp only[top,hi,if_false];omega
theorem ind{ns:List Nd}(hN:Nod ns){p:Int->Prop}(h0: ∀id:Int, -1002<id->id<0->p id)
  (h1: ∀id:Int,0<=id->id<ns.length->p (nd ns id).2.1->p (nd ns id).2.2->p id){id:Int}(hi:Ok ns id):p id:=by
 have key: ∀(k:Nat) (id:Int),id<k->Ok ns id->p id:=by
  intro k
  induction k with
  |zero=>exact fun id hk hi=>h0 id hi.1 hk
  |succ k ih=>
   intro id hk hi
   by_cases hn:id<0
   ·exact h0 id hi.1 hn
   ·obtain⟨_,_,a,b,c,d,_⟩:=hN.nod id (by omega) hi.2
    have:=hi.2
    exact h1 id (by omega) hi.2 (ih _ (by omega) ⟨a,by omega⟩) (ih _ (by omega) ⟨c,by omega⟩)
 exact key (id.toNat+1) id (by omega) hi
theorem v9e{ns:List Nd}(hN:Nod ns){h h':Int->Bool}{id:Int}(hi:Ok ns id):(∀t,top ns id<=t->h t=h' t)->ev ns h id=ev ns h' id:=by
 refine ind hN (p:=fun id=>(∀t,top ns id<=t->h t=h' t)->ev ns h id=ev ns h' id) ?_ ?_ hi
 ·intro id _ hn _
  rw[q1r hn,q1r hn]
 ·intro id hp hl ih1 ih2 he
  obtain⟨_,_,_,_,_,_,_,a,b⟩:=hN.nod id hp hl
  have ht:top ns id=(nd ns id).1:=by simp only[top,if_neg (show ¬id<0 by omega)]
  rw[q62 hN hp hl,q62 hN hp hl,←he _ (by omega),ih1 fun t h=>he t (by omega),ih2 fun t h=>he t (by omega)]
def setB(h:Int->Bool)(t:Int)(b:Bool):Int->Bool:=fun x=>if x=t then b else h x
theorem j5z{ns:List Nd}(hN:Nod ns){h:Int->Bool}{t:Int}{b:Bool}{id:Int}(hi:Ok ns id)(ht:t<top ns id):ev ns (setB h t b) id=ev ns h id:=
 v9e hN hi fun x hx=>by simp only[setB,if_neg (show ¬x=t by omega)]
theorem w4x{ns:List Nd}(hN:Nod ns){h:Int->Bool}{id:Int}(hi:0<=id)(hl:id<ns.length):ev ns (setB h (nd ns id).1 true) id=ev ns h (nd ns id).2.1:=by
 obtain⟨_,_,c,d,_,_,_,a,b⟩:=hN.nod id hi hl
 rw[q62 hN hi hl]
 simp only[setB,if_true]
 exact j5z hN ⟨c,by omega⟩ a
theorem v3e{ns:List Nd}(hN:Nod ns){h:Int->Bool}{id:Int}(hi:0<=id)(hl:id<ns.length):ev ns (setB h (nd ns id).1 false) id=ev ns h (nd ns id).2.2:=by
 obtain⟨_,_,_,_,c,d,_,a,b⟩:=hN.nod id hi hl
 rw[q62 hN hi hl]
 simp only[setB,if_true]
 exact j5z hN ⟨c,by omega⟩ b
theorem canon{ns:List Nd}(hN:Nod ns): ∀{a b:Int},Ok ns a->Ok ns b->(∀h,ev ns h a=ev ns h b)->a=b:=by
 have key: ∀(k:Nat) (a b:Int),a<k->b<k->Ok ns a->Ok ns b->(∀h,ev ns h a=ev ns h b)->a=b:=by
  intro k
  induction k with
  |zero=>
   intro a b hk hk' _ _ he
   have:=he fun _=>true
   rw[q1r (by omega),q1r (by omega)] at this
   omega
  |succ k ih=>
   intro a b hk hk' ha hb he
   have up: ∀a b:Int,a<((k+1:Nat):Int)->b<((k+1:Nat):Int)->Ok ns a->Ok ns b->(∀h,ev ns h a=ev ns h b)->0<=a->top ns a<top ns b->False:=by
    intro a b hk hk' ha hb he hp ht
    obtain⟨_,_,c1,c2,c3,c4,ne,a1,a2⟩:=hN.nod a hp ha.2
    have h1:=ha.2
    have e:top ns a=(nd ns a).1:=by simp only[top,if_neg (show ¬a<0 by omega)]
    refine ne (ih _ _ (by omega) (by omega) ⟨c1,by omega⟩ ⟨c3,by omega⟩ fun h=> ?_)
    rw[←w4x hN hp ha.2,←v3e hN hp ha.2,he,he,j5z hN hb (by omega),j5z hN hb (by omega)]
   by_cases ha0:a<0
   ·by_cases hb0:b<0
    ·have:=he fun _=>true
     rw[q1r ha0,q1r hb0] at this
     omega
    ·exact absurd (by
      have:=(j5y hN hb.2).2.2 (by omega)
      have h2:top ns a=1001:=by simp only[top,if_pos ha0]
      omega) (fun h=>up b a hk' hk hb ha (fun h=>(he h).symm) (by omega) h)
   ·by_cases hb0:b<0
    ·exact absurd (by
      have:=(j5y hN ha.2).2.2 (by omega)
      have h2:top ns b=1001:=by simp only[top,if_pos hb0]
      omega) (fun h=>up a b hk hk' ha hb he (by omega) h)
    ·have h1:=ha.2
     have h2:=hb.2
     rcases Int.lt_trichotomy (top ns a) (top ns b) with h|h|h
     ·exact (up a b hk hk' ha hb he (by omega) h).elim
     ·have ea:top ns a=(nd ns a).1:=by simp only[top,if_neg ha0]
      have eb:top ns b=(nd ns b).1:=by simp only[top,if_neg hb0]
      have et:(nd ns a).1=(nd ns b).1:=by omega
      obtain⟨_,_,c1,c2,c3,c4,_⟩:=hN.nod a (by omega) ha.2
      obtain⟨_,_,d1,d2,d3,d4,_⟩:=hN.nod b (by omega) hb.2
      have ey:(nd ns a).2.1=(nd ns b).2.1:=ih _ _ (by omega) (by omega) ⟨c1,by omega⟩ ⟨d1,by omega⟩ fun h=>by
       rw[←w4x hN (by omega) ha.2,←w4x hN (by omega) hb.2,←et,he]
      have en:(nd ns a).2.2=(nd ns b).2.2:=ih _ _ (by omega) (by omega) ⟨c3,by omega⟩ ⟨d3,by omega⟩ fun h=>by
       rw[←v3e hN (by omega) ha.2,←v3e hN (by omega) hb.2,←et,he]
      exact hN.one a b (by omega) ha.2 (by omega) hb.2 (Prod.ext et (Prod.ext ey en))
     ·exact (up b a hk' hk hb ha (fun h=>(he h).symm) (by omega) h).elim
 exact fun {a b} ha hb he=>key (ns.length+1) a b (by have:=ha.2;omega) (by have:=hb.2;omega) ha hb he
theorem v9f{ns ms:List Nd}{id:Int}(h1:id<ns.length)(h0:0<=id):nd (ns++ms) id=nd ns id:=by
 simp only[nd,List.getD_eq_getElem?_getD]
 rw[List.getElem?_append_left (by omega)]
theorem z2p{ns ns':List Nd}(hp:ns<+:ns'){id:Int}(h1:id<ns.length)(h0:0<=id):nd ns' id=nd ns id:=by
 obtain⟨ms,rfl⟩:=hp
 exact v9f h1 h0
theorem z0f{ns ns':List Nd}(hp:ns<+:ns'){id:Int}(h1:id<ns.length):top ns' id=top ns id:=by
 by_cases h:id<0
 ·simp only[top,if_pos h]
 ·simp only[top,if_neg h,z2p hp h1 (by omega)]
theorem Ok.pre{ns ns':List Nd}(hp:ns<+:ns'){id:Int}(h:Ok ns id):Ok ns' id:=by
 have:=hp.length_le
 exact⟨h.1,by have:=h.2;omega⟩
theorem q34{ns ns':List Nd}(hN:Nod ns)(hN':Nod ns')(hp:ns<+:ns'){h:Int->Bool}{id:Int}(hi:Ok ns id):ev ns' h id=ev ns h id:=by
 refine ind hN (p:=fun id=>ev ns' h id=ev ns h id) ?_ ?_ hi
 ·intro id _ hn
  rw[q1r hn,q1r hn]
 ·intro id h0 hl i1 i2
  have hl':=hp.length_le
  rw[q62 hN h0 hl,q62 hN' h0 (by omega),z2p hp hl h0,i1,i2]
def Tb(ns:List Nd)(b:Int):Prop:= ∀i:Int,0<=i->i<ns.length->(nd ns i).1<b
theorem z2q{ns:List Nd}{n:Nd}:nd (ns++[n]) ns.length=n:=by
 simp[nd,List.getD_eq_getElem?_getD]
theorem Nod.add{ns:List Nd}(hN:Nod ns){t y n:Int}(ht:0<=t)(ht':t<=1000)(hy:Ok ns y)(hn:Ok ns n)(hne:y≠n)(h1:t<top ns y)(h2:t<top ns n)
  (hnew: ∀i:Int,0<=i->i<ns.length->nd ns i≠(t,y,n)):Nod (ns++[(t,y,n)]):=by
 have hp:ns<+:ns++[(t,y,n)]:=List.prefix_append _ _
 have hlen:((ns++[(t,y,n)]).length:Int)=ns.length+1:=by simp
 refine⟨fun i h0 hl=> ?_,fun i j h0 hl k0 kl he=> ?_⟩
 ·by_cases hi:i<ns.length
  ·rw[z2p hp hi h0]
   obtain⟨a1,a2,a3,a4,a5,a6,a7,a8,a9⟩:=hN.nod i h0 hi
   rw[z0f hp (by omega),z0f hp (by omega)]
   exact⟨a1,a2,a3,a4,a5,a6,a7,a8,a9⟩
  ·have:i=ns.length:=by omega
   subst this
   rw[z2q]
   have hy2:=hy.2
   have hn2:=hn.2
   rw[z0f hp hy2,z0f hp hn2]
   exact⟨ht,ht',hy.1,hy2,hn.1,hn2,hne,h1,h2⟩
 ·by_cases hi:i<ns.length
  ·by_cases hj:j<ns.length
   ·rw[z2p hp hi h0,z2p hp hj k0] at he
    exact hN.one i j h0 hi k0 hj he
   ·have:j=ns.length:=by omega
    subst this
    rw[z2q,z2p hp hi h0] at he
    exact absurd he (hnew i h0 hi)
  ·have:i=ns.length:=by omega
   subst this
   by_cases hj:j<ns.length
   ·rw[z2q,z2p hp hj k0] at he
    exact absurd he.symm (hnew j k0 hj)
   ·omega
theorem Inv.add{ns:List Nd}{ids:Nd->Option Int}(hI:Inv ns ids){t y n:Int}(ht:0<=t)(ht':t<=1000)(hy:Ok ns y)(hn:Ok ns n)(hne:y≠n)(h1:t<top ns y)(h2:t<top ns n)
  (hnew:ids (t,y,n)=none):Inv (ns++[(t,y,n)]) (put ids (t,y,n) ns.length):=by
 have hnew': ∀i:Int,0<=i->i<ns.length->nd ns i≠(t,y,n):=fun i h0 hl he=>by
  rw[(hI.ids _ i).2 ⟨h0,hl,he⟩] at hnew
  cases hnew
 have hp:ns<+:ns++[(t,y,n)]:=List.prefix_append _ _
 have hlen:((ns++[(t,y,n)]).length:Int)=ns.length+1:=by simp
 refine⟨hI.nod.add ht ht' hy hn hne h1 h2 hnew',fun m id=> ?_⟩
 simp only[put]
 by_cases hm:m=(t,y,n)
 ·subst hm
  simp only[if_true,Option.some.injEq]
  constructor
  ·intro h
   subst h
   exact⟨by omega,by omega,z2q⟩
  ·rintro⟨a,b,c⟩
   by_cases hid:id<ns.length
   ·rw[z2p hp hid a] at c
    exact absurd c (hnew' id a hid)
   ·omega
 ·simp only[if_neg hm]
  rw[hI.ids]
  constructor
  ·rintro⟨a,b,c⟩
   exact⟨a,by omega,by rw[z2p hp b a];exact c⟩
  ·rintro⟨a,b,c⟩
   by_cases hid:id<ns.length
   ·exact⟨a,hid,by rw[z2p hp hid a] at c;exact c⟩
   ·have:id=ns.length:=by omega
    subst this
    rw[z2q] at c
    exact absurd c.symm hm
def z9j(ns:List Nd)(t y n:Int):Prop:=0<=t/\t<=1000/\Ok ns y/\Ok ns n/\t<top ns y/\t<top ns n
instance (ns:List Nd)(id:Int):Decidable (Ok ns id):=by unfold Ok;infer_instance
instance (ns:List Nd)(t y n:Int):Decidable (z9j ns t y n):=by unfold z9j;infer_instance
def node(ns:List Nd)(ids:Nd->Option Int)(full:Bool)(t y n:Int):Int×List Nd×(Nd->Option Int)×Bool:=
 if z9j ns t y n then
  if y=n then (y,ns,ids,full)
  else match ids (t,y,n) with
   |some id=>(id,ns,ids,full)
   |none=>if 4000<=ns.length then (-1002,ns,ids,true) else (ns.length,ns++[(t,y,n)],put ids (t,y,n) ns.length,full)
 else (-1002,ns,ids,full)
structure Grew(ns:List Nd)(ids:Nd->Option Int)(full:Bool)(k:Nat)(ns':List Nd)(ids':Nd->Option Int)(full':Bool):Prop where
 inv:Inv ns' ids'
 pre:ns<+:ns'
 len:ns'.length<=4000
 room:full'=full∨ns'.length=4000
 most:ns'.length<=ns.length+k
theorem Grew.refl{ns:List Nd}{ids:Nd->Option Int}{full:Bool}(hI:Inv ns ids)(hl:ns.length<=4000)(k:Nat):Grew ns ids full k ns ids full:=
 ⟨hI,List.prefix_refl _,hl,.inl rfl,by omega⟩
theorem Grew.trans{ns ns' ns'':List Nd}{ids ids' ids'':Nd->Option Int}{f f' f'':Bool}{k k' m:Nat}(h:Grew ns ids f k ns' ids' f')(h':Grew ns' ids' f' k' ns'' ids'' f'')(hm:k+k'<=m):
  Grew ns ids f m ns'' ids'' f'':=by
 refine⟨h'.inv,h.pre.trans h'.pre,h'.len,?_,?_⟩
 ·rcases h'.room with e|e
  ·rcases h.room with e'|e'
   ·exact .inl (e.trans e')
   ·have:=h'.pre.length_le
    have:=h'.len
    exact .inr (by omega)
  ·exact .inr e
 ·have:=h.most
  have:=h'.most
  omega
theorem v0f{ns:List Nd}{ids:Nd->Option Int}{full:Bool}(hI:Inv ns ids)(hl:ns.length<=4000){t y n:Int}(hO:z9j ns t y n){r:Int}{ns':List Nd}{ids':Nd->Option Int}{full':Bool}
  (he:node ns ids full t y n=(r,ns',ids',full')):Grew ns ids full 1 ns' ids' full'/\(∀b,Tb ns b->t<b->Tb ns' b)/\
   ((r= -1002/\ns'.length=4000/\full'=true)∨(full'=full/\Ok ns' r/\t<=top ns' r/\ ∀h,ev ns' h r=if h t=true then ev ns h y else ev ns h n)):=by
 obtain⟨h1,h2,hy,hn,h3,h4⟩:=hO
 rw[node,if_pos ⟨h1,h2,hy,hn,h3,h4⟩] at he
 by_cases hyn:y=n
 ·rw[if_pos hyn] at he
  cases he
  subst hyn
  exact⟨.refl hI hl 1,fun b h _=>h,.inr ⟨rfl,hy,by omega,fun h=>by simp⟩⟩
 ·rw[if_neg hyn] at he
  cases hid:ids (t,y,n) with
  |some id=>
   rw[hid] at he
   cases he
   obtain⟨a,b,c⟩:=(hI.ids _ _).1 hid
   refine⟨.refl hI hl 1,fun b h _=>h,.inr ⟨rfl,⟨by omega,b⟩,?_,fun h=> ?_⟩⟩
   ·simp only[top,if_neg (show ¬r<0 by omega),c];omega
   ·rw[q62 hI.nod a b,c]
  |none=>
   rw[hid] at he
   simp only at he
   by_cases hf:4000<=ns.length
   ·rw[if_pos hf] at he
    cases he
    exact⟨⟨hI,List.prefix_refl _,hl,.inr (by omega),by omega⟩,fun b h _=>h,.inl ⟨rfl,by omega,rfl⟩⟩
   ·rw[if_neg hf] at he
    cases he
    have hp:ns<+:ns++[(t,y,n)]:=List.prefix_append _ _
    have hI':=hI.add h1 h2 hy hn hyn h3 h4 hid
    have hlen:((ns++[(t,y,n)]).length:Int)=ns.length+1:=by simp
    refine⟨⟨hI',hp,by simp;omega,.inl rfl,by simp⟩,fun b hb ht i h0 hl=> ?_,.inr ⟨rfl,⟨by omega,by omega⟩,?_,fun h=> ?_⟩⟩
    ·by_cases hi:i<ns.length
     ·rw[z2p hp hi h0];exact hb i h0 hi
     ·have:i=ns.length:=by omega
      subst this
      rw[z2q];exact ht
    ·simp only[top,if_neg (show ¬(ns.length:Int)<0 by omega),z2q];omega
    ·rw[q62 hI'.nod (by omega) (by omega),z2q]
     simp only
     rw[q34 hI.nod hI'.nod hp hy,q34 hI.nod hI'.nod hp hn]
theorem w4y{ns:List Nd}{ids:Nd->Option Int}{full:Bool}{t y n:Int}(hO: ¬z9j ns t y n):node ns ids full t y n=(-1002,ns,ids,full):=by
 rw[node,if_neg hO]
def mtop(ns:List Nd)(f g h:Int):Int:=min (min (top ns f) (top ns g)) (top ns h)
def Cse(ns:List Nd)(f g h r:Int):Prop:= ∀v,ev ns v r=if ev ns v f=1 then ev ns v g else ev ns v h
def Cond(ns:List Nd)(f:Int):Prop:= ∀v,ev ns v f=0∨ev ns v f=1
def sd(ns:List Nd)(x t:Int):Int×Int:=if top ns x=t then ((nd ns x).2.1,(nd ns x).2.2) else (x,x)
theorem v6z{ns:List Nd}(hN:Nod ns){x t:Int}(hx:Ok ns x)(ht:t<=1000)(hl:t<=top ns x):
  Ok ns (sd ns x t).1/\Ok ns (sd ns x t).2/\t<top ns (sd ns x t).1/\t<top ns (sd ns x t).2/\ ∀v,ev ns v x=if v t=true then ev ns v (sd ns x t).1 else ev ns v (sd ns x t).2:=by
 unfold sd
 by_cases he:top ns x=t
 ·rw[if_pos he]
  have h0: ¬x<0:=fun hn=>by simp only[top,if_pos hn] at he;omega
  have hx2:=hx.2
  obtain⟨_,_,a,b,c,d,_,e,g⟩:=hN.nod x (by omega) hx.2
  have ht':(nd ns x).1=t:=by simp only[top,if_neg h0] at he;exact he
  refine⟨⟨a,by omega⟩,⟨c,by omega⟩,by rw[←ht'];exact e,by rw[←ht'];exact g,fun v=> ?_⟩
  rw[q62 hN (by omega) hx.2,ht']
 ·rw[if_neg he]
  refine⟨hx,hx,by show t<top ns x;omega,by show t<top ns x;omega,fun v=>by simp⟩
def Kn(ns:List Nd)(m:Nd->Option Int):Prop:= ∀f g h id,m (f,g,h)=some id->(id= -1002/\ns.length=4000)∨(Ok ns f/\Ok ns g/\Ok ns h/\Ok ns id/\Cse ns f g h id/\mtop ns f g h<=top ns id)
theorem Kn.nil(ns:List Nd):Kn ns fun _=>none:=fun _ _ _ _ h=>by cases h
theorem v0g{ns ns':List Nd}(hp:ns<+:ns'){f g h:Int}(hf:Ok ns f)(hg:Ok ns g)(hh:Ok ns h):mtop ns' f g h=mtop ns f g h:=by
 unfold mtop;rw[z0f hp hf.2,z0f hp hg.2,z0f hp hh.2]
theorem Cse.pre{ns ns':List Nd}(hN:Nod ns)(hN':Nod ns')(hp:ns<+:ns'){f g h r:Int}(hf:Ok ns f)(hg:Ok ns g)(hh:Ok ns h)(hr:Ok ns r)(hs:Cse ns f g h r):Cse ns' f g h r:=fun v=>by
 rw[q34 hN hN' hp hf,q34 hN hN' hp hg,q34 hN hN' hp hh,q34 hN hN' hp hr];exact hs v
theorem Kn.pre{ns ns':List Nd}(hN:Nod ns)(hN':Nod ns')(hp:ns<+:ns')(hl:ns'.length<=4000){m:Nd->Option Int}(hK:Kn ns m):Kn ns' m:=fun f g h id hm=>by
 rcases hK f g h id hm with ⟨h1,h2⟩|⟨h1,h2,h3,h4,h5,h6⟩
 ·have:=hp.length_le
  exact .inl ⟨h1,by omega⟩
 ·exact .inr ⟨h1.pre hp,h2.pre hp,h3.pre hp,h4.pre hp,h5.pre hN hN' hp h1 h2 h3 h4,by rw[v0g hp h1 h2 h3,z0f hp h4.2];exact h6⟩
theorem Kn.put{ns:List Nd}{m:Nd->Option Int}(hK:Kn ns m){f g h r:Int}(hr:(r= -1002/\ns.length=4000)∨(Ok ns f/\Ok ns g/\Ok ns h/\Ok ns r/\Cse ns f g h r/\mtop ns f g h<=top ns r)):Kn ns (put m (f,g,h) r):=fun f' g' h' id hm=>by
 unfold Fl.put at hm
 split at hm
 ·rename_i he
  cases hm
  simp only[Prod.mk.injEq] at he
  obtain⟨rfl,rfl,rfl⟩:=he
  exact hr
 ·exact hK f' g' h' id hm
structure Cho(ns:List Nd)(ids:Nd->Option Int)(full:Bool)(f g h:Int)(r:Int)(ns':List Nd)(ids':Nd->Option Int)(full':Bool):Prop where
 grew:Grew ns ids full 4000 ns' ids' full'
 few: ∀b,Tb ns b->Tb ns' b/\ns'.length+1<=ns.length+2 ^ (b - mtop ns f g h).toNat
 res:(r= -1002/\ns'.length=4000)∨(Ok ns' r/\Cse ns' f g h r/\mtop ns f g h<=top ns' r)
end Go.Dg
end
noncomputable section
set_option maxRecDepth 100000
namespace Go.En
open Go Go.Fl Go.Fx Go.Dg
theorem v0h{ns:List Nd}{id:Int}{y:Nd}(h:ns[id.toNat]? =some y):nd ns id=y:=by
 simp[nd,List.getD_eq_getElem?_getD,h]
theorem z4m{ns:List Nd}{ids:Nd->Option Int}{full:Bool}{id:Int}{K:Bool->List Nd->(Nd->Option Int)->Bool->Prop}(h:K (decide (Ok ns id)) ns ids full):W8 ns ids full id K:=by
 unfold W8
 refine⟨fun h1 _=> ?_,fun h1=> ?_⟩
 ·have:decide (id<(ns.length:Int))=decide (Ok ns id):=decide_eq_decide.2 ⟨fun a=>⟨h1,a⟩,fun a=>a.2⟩
  rw[this];exact h
 ·have:decide (Ok ns id)=false:=decide_eq_false fun a=>h1 a.1
  rw[this] at h;exact h
theorem z2r{ns:List Nd}{ids:Nd->Option Int}{full:Bool}{id:Int}{K:Int->List Nd->(Nd->Option Int)->Bool->Prop}(hi:Ok ns id)(h:K (top ns id) ns ids full):Zo ns ids full id K:=by
 unfold Zo
 refine⟨fun hn=> ?_,fun hn=>⟨⟨by omega,hi.2⟩,fun y hy=> ?_⟩⟩
 ·simp only[top,if_pos hn] at h;exact h
 ·simp only[top,if_neg hn,v0h hy] at h;exact h
theorem j3h{ns:List Nd}{ids:Nd->Option Int}{full:Bool}{id t:Int}{K:Int->Int->List Nd->(Nd->Option Int)->Bool->Prop}(hi:Ok ns id)(ht:t<=1000)(h:K (sd ns id t).1 (sd ns id t).2 ns ids full):Zk ns ids full id t K:=by
 unfold Zk
 refine z2r hi ⟨fun he=> ?_,fun he=> ?_⟩
 ·have h0: ¬id<0:=fun hn=>by simp only[top,if_pos hn] at he;omega
  refine⟨⟨by omega,hi.2⟩,fun y hy=>⟨⟨by omega,hi.2⟩,fun z hz=> ?_⟩⟩
  rw[hy] at hz
  cases hz
  simp only[sd,if_pos he,v0h hy] at h
  exact h
 ·simp only[sd,if_neg he] at h;exact h
theorem w4z{ns:List Nd}{ids:Nd->Option Int}{full:Bool}{t y n:Int}{K:Int->List Nd->(Nd->Option Int)->Bool->Prop}(hl:ns.length<=4000)
  (h:K (node ns ids full t y n).1 (node ns ids full t y n).2.1 (node ns ids full t y n).2.2.1 (node ns ids full t y n).2.2.2):Qw ns ids full t y n K:=by
 unfold Qw
 by_cases hO:z9j ns t y n
 ·obtain⟨h1,h2,h3,h4,h5,h6⟩:=hO
  refine Cnd.no (by omega) (Cnd.no (by omega) (z4m (Cnd.yes (decide_eq_true h3) (z4m (Cnd.yes (decide_eq_true h4) (z2r h3 (Cnd.no (by omega) (z2r h4 (Cnd.no (by omega) ?_)))))))))
  rw[node,if_pos ⟨h1,h2,h3,h4,h5,h6⟩] at h
  refine⟨fun he=> ?_,fun he=> ?_⟩
  ·rw[if_pos he] at h;exact h
  rw[if_neg he] at h
  cases hid:ids (t,y,n) with
  |some id=>rw[hid] at h;exact Cnd.yes rfl h
  |none=>
   rw[hid] at h
   refine Cnd.no (by simp) fun _=>⟨fun hf=> ?_,fun hf=> ?_⟩
   ·rw[if_pos (by omega)] at h;exact h
   rw[if_neg (by omega)] at h
   have hlen:((ns++[(t,y,n)]).length:Int)=ns.length+1:=by simp
   have e1:((ns++[(t,y,n)]).length:Int) - 1=ns.length:=by omega
   have hs:Sml (ns++[(t,y,n)]).length:=by unfold Sml;simp;omega
   have hi:InI (((ns++[(t,y,n)]).length:Int) - 1):=by constructor<;>omega
   exact fun _=>⟨hs,fun _=>⟨hi,by rw[e1];exact h⟩⟩
 ·rw[w4y hO] at h
  refine⟨fun _=>h,fun h1=>⟨fun _=>h,fun h2=>z4m ⟨fun h3=>z4m ⟨fun h4=>z2r (of_decide_eq_true h3) ⟨fun _=>h,fun h5=>z2r (of_decide_eq_true h4) ⟨fun _=>h,fun h6=> ?_⟩⟩,fun _=>h⟩,fun _=>h⟩⟩⟩
  exact absurd ⟨by omega,by omega,of_decide_eq_true h3,of_decide_eq_true h4,by omega,by omega⟩ hO
theorem w0l{X:List Nd->(Nd->Option Int)->Bool->Int->Int->Int->(Nd->Option Int)->(Int->List Nd->(Nd->Option Int)->Bool->(Nd->Option Int)->Prop)->Prop}{ns:List Nd}{ids:Nd->Option Int}{full:Bool}{f g h:Int}{m:Nd->Option Int}{K:Int->List Nd->(Nd->Option Int)->Bool->(Nd->Option Int)->Prop}(hI:Inv ns ids)(hl:ns.length<=4000)(_:Ok ns f)(hg:Ok ns g)(hh:Ok ns h)(hc:Cond ns f)(hm:Kn ns m)(hn:f<0)
  (hK: ∀r ns' ids' full' m',Cho ns ids full f g h r ns' ids' full'->Kn ns' m'->K r ns' ids' full' m'):Z8 Zo Zk Qw X ns ids full f g h m K:=by
 have hc0:=hc fun _=>true
 rw[q1r hn] at hc0
 have mk: ∀r,((f= -2/\r=g)∨(f= -1/\r=h))->Cho ns ids full f g h r ns ids full:=by
  rintro r hr
  refine⟨.refl hI hl _,fun b hb=>⟨hb,by have:=Nat.two_pow_pos ((b - mtop ns f g h).toNat);omega⟩,.inr ?_⟩
  rcases hr with ⟨h1,rfl⟩|⟨h1,rfl⟩
  ·exact⟨hg,fun v=>by rw[q1r (id:=f) hn,if_pos (by omega)],by unfold mtop;omega⟩
  ·exact⟨hh,fun v=>by rw[q1r (id:=f) hn,if_neg (by omega)],by unfold mtop;omega⟩
 unfold Z8
 refine⟨fun he=>hK _ _ _ _ _ (mk g (.inl ⟨he,rfl⟩)) hm,fun he=>⟨fun hgh=> ?_,fun hgh=>⟨fun he'=>hK _ _ _ _ _ (mk h (.inr ⟨he',rfl⟩)) hm,fun he'=>absurd hc0 (by omega)⟩⟩⟩
 exact hK _ _ _ _ _ (mk g (.inr ⟨by omega,hgh⟩)) hm
theorem w6n: ∀(ns:List Nd) (ids:Nd->Option Int) (full:Bool) (f g h:Int) (m:Nd->Option Int) (K:Int->List Nd->(Nd->Option Int)->Bool->(Nd->Option Int)->Prop),Inv ns ids->ns.length<=4000->Ok ns f->Ok ns g->Ok ns h->Cond ns f->Kn ns m->
  (∀r ns' ids' full' m',Cho ns ids full f g h r ns' ids' full'->Kn ns' m'->K r ns' ids' full' m')->Zu ns ids full f g h m K:=by
 intro ns ids full f g h m K hI hl hf hg hh hc hm hK X hX
 have key: ∀(k:Nat) (ns:List Nd) (ids:Nd->Option Int) (full:Bool) (f g h:Int) (m:Nd->Option Int) (K:Int->List Nd->(Nd->Option Int)->Bool->(Nd->Option Int)->Prop),(1001 - mtop ns f g h).toNat<=k->Inv ns ids->ns.length<=4000->Ok ns f->Ok ns g->Ok ns h->Cond ns f->Kn ns m->
   (∀r ns' ids' full' m',Cho ns ids full f g h r ns' ids' full'->Kn ns' m'->K r ns' ids' full' m')->X ns ids full f g h m K:=by
  intro k
  induction k with
  |zero=>
   intro ns ids full f g h m K hk hI hl hf hg hh hc hm hK
   refine hX _ _ _ _ _ _ _ _ ?_
   have ht:=(j5y hI.nod hf.2)
   have hn:f<0:=by
    refine Int.not_le.1 fun h0=> ?_
    have:=ht.2.2 h0
    unfold mtop at hk;omega
   exact w0l hI hl hf hg hh hc hm hn hK
  |succ k ih=>
   intro ns ids full f g h m K hk hI hl hf hg hh hc hm hK
   refine hX _ _ _ _ _ _ _ _ ?_
   by_cases hn:f<0
   ·exact w0l hI hl hf hg hh hc hm hn hK
   have same: ∀r,(g=h/\r=g)->Cho ns ids full f g h r ns ids full:=by
    rintro r ⟨rfl,rfl⟩
    exact⟨.refl hI hl _,fun b hb=>⟨hb,by have:=Nat.two_pow_pos ((b - mtop ns f r r).toNat);omega⟩,.inr ⟨hg,fun v=>by simp,by unfold mtop;omega⟩⟩
   unfold Z8
   refine Cnd.no (by omega) ⟨fun hgh=>hK _ _ _ _ _ (same g ⟨hgh,rfl⟩) hm,fun hgh=>Cnd.no (by omega) ⟨fun hs=> ?_,fun _=> ?_⟩⟩
   ·obtain⟨id,hid⟩:=Option.isSome_iff_exists.1 hs
    rw[hid]
    refine hK _ _ _ _ _ ⟨.refl hI hl _,fun b hb=>⟨hb,by have:=Nat.two_pow_pos ((b - mtop ns f g h).toNat);omega⟩,?_⟩ hm
    rcases hm f g h id hid with h1|⟨_,_,_,h4,h5,h6⟩
    ·exact .inl h1
    ·exact .inr ⟨h4,h5,h6⟩
   have t0:=j5y hI.nod hf.2
   have t1:=j5y hI.nod hg.2
   have t2:=j5y hI.nod hh.2
   have hft:=t0.2.2 (by omega)
   have ht:mtop ns f g h<=1000:=by unfold mtop;omega
   have ht0:0<=mtop ns f g h:=by unfold mtop;omega
   refine z2r hf (z2r hg (z2r hh ?_))
   rw[show min (min (top ns f) (top ns g)) (top ns h)=mtop ns f g h from rfl]
   refine j3h hf ht (j3h hg ht (j3h hh ht ?_))
   obtain⟨fa,fb,fc,fd,fe⟩:=v6z hI.nod hf ht (by unfold mtop;omega)
   obtain⟨ga,gb,gc,gd,ge⟩:=v6z hI.nod hg ht (by unfold mtop;omega)
   obtain⟨ha,hb,hc',hd,he⟩:=v6z hI.nod hh ht (by unfold mtop;omega)
   have cy:Cond ns (sd ns f (mtop ns f g h)).1:=fun v=>by
    have:=hc (setB v (mtop ns f g h) true)
    rw[fe] at this
    simp only[setB,if_true] at this
    rw[j5z hI.nod fa fc] at this
    exact this
   have cn:Cond ns (sd ns f (mtop ns f g h)).2:=fun v=>by
    have:=hc (setB v (mtop ns f g h) false)
    rw[fe] at this
    simp only[setB,if_true,Bool.false_eq_true,if_false] at this
    rw[j5z hI.nod fb fd] at this
    exact this
   have hty:mtop ns f g h<mtop ns (sd ns f (mtop ns f g h)).1 (sd ns g (mtop ns f g h)).1 (sd ns h (mtop ns f g h)).1:=by
    show _<min (min _ _) _;omega
   have htn:mtop ns f g h<mtop ns (sd ns f (mtop ns f g h)).2 (sd ns g (mtop ns f g h)).2 (sd ns h (mtop ns f g h)).2:=by
    show _<min (min _ _) _;omega
   refine ih _ _ _ _ _ _ _ _ (by omega) hI hl fa ga ha cy hm fun r1 ns1 ids1 full1 m1 C1 hm1=> ?_
   have hp1:=C1.grew.pre
   have hN1:=C1.grew.inv.nod
   have htn1:mtop ns1 (sd ns f (mtop ns f g h)).2 (sd ns g (mtop ns f g h)).2 (sd ns h (mtop ns f g h)).2=mtop ns (sd ns f (mtop ns f g h)).2 (sd ns g (mtop ns f g h)).2 (sd ns h (mtop ns f g h)).2:=v0g hp1 fb gb hb
   refine ih _ _ _ _ _ _ _ _ (by rw[htn1];omega) C1.grew.inv C1.grew.len (fb.pre hp1) (gb.pre hp1) (hb.pre hp1) (fun v=>by rw[q34 hI.nod hN1 hp1 fb];exact cn v) hm1 fun r2 ns2 ids2 full2 m2 C2 hm2=> ?_
   have hp2:=C2.grew.pre
   have hN2:=C2.grew.inv.nod
   have hp:=hp1.trans hp2
   have few2: ∀b,Tb ns b->Tb ns2 b/\ns2.length+2<=ns.length+2 ^ (b - mtop ns f g h).toNat:=fun b hb0=>by
    obtain⟨a1,a2⟩:=C1.few b hb0
    obtain⟨a3,a4⟩:=C2.few b a1
    rw[htn1] at a4
    have hlt:mtop ns f g h<b:=by
     have hq:=hb0 f (by omega) hf.2
     have:top ns f=(nd ns f).1:=by simp only[top,if_neg hn]
     unfold mtop;omega
    refine⟨a3,?_⟩
    have e:2 ^ (b - mtop ns f g h).toNat=2*2 ^ (b - mtop ns f g h - 1).toNat:=by
     rw[show (b - mtop ns f g h).toNat=(b - mtop ns f g h - 1).toNat+1 by omega,Nat.pow_succ];omega
    have p1:=Nat.pow_le_pow_right (show 0<2 by omega) (show (b - mtop ns (sd ns f (mtop ns f g h)).1 (sd ns g (mtop ns f g h)).1 (sd ns h (mtop ns f g h)).1).toNat<=(b - mtop ns f g h - 1).toNat by omega)
    have p2:=Nat.pow_le_pow_right (show 0<2 by omega) (show (b - mtop ns (sd ns f (mtop ns f g h)).2 (sd ns g (mtop ns f g h)).2 (sd ns h (mtop ns f g h)).2).toNat<=(b - mtop ns f g h - 1).toNat by omega)
    omega
   have gr2:Grew ns ids full 4000 ns2 ids2 full2:=by
    have:=C1.grew.trans C2.grew (Nat.le_refl _)
    exact⟨this.inv,this.pre,this.len,this.room,by have:=this.len;omega⟩
   have bad:ns2.length=4000->Cho ns ids full f g h (-1002) ns2 ids2 full2:=fun hb0=>⟨gr2,fun b hb1=>⟨(few2 b hb1).1,by have:=(few2 b hb1).2;omega⟩,.inl ⟨rfl,hb0⟩⟩
   have full1:r1= -1002->ns2.length=4000:=fun e=>by
    rcases C1.res with h1|h1
    ·have:=hp2.length_le
     have:=C2.grew.len
     omega
    ·have:=h1.1.1;omega
   have full2':r2= -1002->ns2.length=4000:=fun e=>by
    rcases C2.res with h1|h1
    ·exact h1.2
    ·have:=h1.1.1;omega
   have hbad:ns2.length=4000->Kn ns2 (Fl.put m2 (f,g,h) (-1002)):=fun hb0=>hm2.put (.inl ⟨rfl,hb0⟩)
   refine Jn4.mk (fun a b c d=>K a b d c (put m2 (f,g,h) a)) ?_ fun _ _ _ _ h=>h
   refine⟨fun e1=>hK _ _ _ _ _ (bad (full1 e1)) (hbad (full1 e1)),fun e1=>⟨fun e2=>hK _ _ _ _ _ (bad (full2' e2)) (hbad (full2' e2)),fun e2=> ?_⟩⟩
   have o1:Ok ns1 r1/\Cse ns1 (sd ns f (mtop ns f g h)).1 (sd ns g (mtop ns f g h)).1 (sd ns h (mtop ns f g h)).1 r1/\mtop ns (sd ns f (mtop ns f g h)).1 (sd ns g (mtop ns f g h)).1 (sd ns h (mtop ns f g h)).1<=top ns1 r1:=by
    rcases C1.res with h1|h1
    ·exact absurd h1.1 e1
    ·exact h1
   have o2:Ok ns2 r2/\Cse ns2 (sd ns f (mtop ns f g h)).2 (sd ns g (mtop ns f g h)).2 (sd ns h (mtop ns f g h)).2 r2/\mtop ns1 (sd ns f (mtop ns f g h)).2 (sd ns g (mtop ns f g h)).2 (sd ns h (mtop ns f g h)).2<=top ns2 r2:=by
    rcases C2.res with h1|h1
    ·exact absurd h1.1 e2
    ·exact h1
   have o1t:top ns2 r1=top ns1 r1:=z0f hp2 o1.1.2
   have hO:z9j ns2 (mtop ns f g h) r1 r2:=⟨ht0,ht,o1.1.pre hp2,o2.1,by rw[o1t];have:=o1.2.2;omega,by have:=o2.2.2;rw[htn1] at this;omega⟩
   refine w4z C2.grew.len ?_
   obtain⟨hg3,htb,hres⟩:=v0f C2.grew.inv C2.grew.len hO (r:=(node ns2 ids2 full2 (mtop ns f g h) r1 r2).1) (ns':=(node ns2 ids2 full2 (mtop ns f g h) r1 r2).2.1) (ids':=(node ns2 ids2 full2 (mtop ns f g h) r1 r2).2.2.1) (full':=(node ns2 ids2 full2 (mtop ns f g h) r1 r2).2.2.2) rfl
   generalize (node ns2 ids2 full2 (mtop ns f g h) r1 r2).1=r3 at hg3 htb hres
   generalize (node ns2 ids2 full2 (mtop ns f g h) r1 r2).2.1=ns3 at hg3 htb hres
   generalize (node ns2 ids2 full2 (mtop ns f g h) r1 r2).2.2.1=ids3 at hg3 htb hres
   generalize (node ns2 ids2 full2 (mtop ns f g h) r1 r2).2.2.2=full3 at hg3 htb hres
   have hp3:=hp.trans hg3.pre
   have hN3:=hg3.inv.nod
   have hr3:(r3= -1002/\ns3.length=4000)∨(Ok ns3 r3/\Cse ns3 f g h r3/\mtop ns f g h<=top ns3 r3):=by
    rcases hres with h1|⟨_,h1,h2,h3⟩
    ·exact .inl ⟨h1.1,h1.2.1⟩
    ·refine .inr ⟨h1,fun v=> ?_,h2⟩
     rw[h3,q34 hI.nod hN3 hp3 hf,q34 hI.nod hN3 hp3 hg,q34 hI.nod hN3 hp3 hh,fe,ge,he]
     cases v (mtop ns f g h) with
     |true=>
      simp only[if_true]
      rw[q34 hN1 hN2 hp2 o1.1,o1.2.1,q34 hI.nod hN1 hp1 fa,q34 hI.nod hN1 hp1 ga,q34 hI.nod hN1 hp1 ha]
     |false=>
      simp only[Bool.false_eq_true,if_false]
      rw[o2.2.1,q34 hI.nod hN2 hp fb,q34 hI.nod hN2 hp gb,q34 hI.nod hN2 hp hb]
   have hcho:Cho ns ids full f g h r3 ns3 ids3 full3:=by
    refine⟨?_,fun b hb0=>⟨?_,?_⟩,hr3⟩
    ·have:=gr2.trans hg3 (Nat.le_refl _)
     exact⟨this.inv,this.pre,this.len,this.room,by have:=this.len;omega⟩
    ·have hlt:mtop ns f g h<b:=by
      have hq:=hb0 f (by omega) hf.2
      have:top ns f=(nd ns f).1:=by simp only[top,if_neg hn]
      unfold mtop;omega
     exact htb b (few2 b hb0).1 hlt
    ·have:=(few2 b hb0).2
     have:=hg3.most
     omega
   refine hK _ _ _ _ _ hcho (Kn.put (hm2.pre hN2 hN3 hg3.pre hg3.len) ?_)
   rcases hr3 with h1|⟨h1,h2,h3⟩
   ·exact .inl h1
   ·exact .inr ⟨hf.pre hp3,hg.pre hp3,hh.pre hp3,h1,h2,by rw[v0g hp3 hf hg hh];exact h3⟩
 exact key _ ns ids full f g h m K (Nat.le_refl _) hI hl hf hg hh hc hm hK
inductive Rch(ns:List Nd):Int->Int->Prop
 |self (a:Int):Rch ns a a
 |yes {a x:Int}:0<=a->Rch ns (nd ns a).2.1 x->Rch ns a x
 |no {a x:Int}:0<=a->Rch ns (nd ns a).2.2 x->Rch ns a x
theorem Rch.step{ns:List Nd}{a b c:Int}(h:Rch ns a b)(k:Rch ns b c):Rch ns a c:=by
 induction h with
 |self=>exact k
 |yes h0 _ ih=>exact .yes h0 (ih k)
 |no h0 _ ih=>exact .no h0 (ih k)
theorem kids{ns:List Nd}(hN:Nod ns){a:Int}(h:Ok ns a)(h0:0<=a):Ok ns (nd ns a).2.1/\Ok ns (nd ns a).2.2/\(nd ns a).2.1<a/\(nd ns a).2.2<a:=by
 have h2:=h.2
 obtain⟨_,_,a1,a2,a3,a4,_⟩:=hN.nod a h0 h.2
 exact⟨⟨a1,by omega⟩,⟨a3,by omega⟩,a2,a4⟩
theorem Rch.ok{ns:List Nd}(hN:Nod ns){a x:Int}(h:Rch ns a x):Ok ns a->Ok ns x:=by
 induction h with
 |self=>exact id
 |yes h0 _ ih=>exact fun h=>ih (kids hN h h0).1
 |no h0 _ ih=>exact fun h=>ih (kids hN h h0).2.1
def Tr(F:Int->Option Bool):Prop:= ∀x,F x=none∨F x=some true
theorem Tr.get{F:Int->Option Bool}(h:Tr F){x:Int}:(F x).getD false=true↔(F x).isSome=true:=by
 rcases h x with e|e<;>simp[e]
theorem Tr.nil:Tr fun _=>none:=fun _=> .inl rfl
theorem Tr.put{F:Int->Option Bool}(h:Tr F)(x:Int):Tr (put F x true):=fun y=>by
 unfold Fl.put
 split
 ·exact .inr rfl
 ·exact h y
theorem Bm{F:Int->Option Bool}{x y:Int}:(put F x true y).isSome=true↔y=x∨(F y).isSome=true:=by
 unfold Fl.put
 split
 ·rename_i h;simp[h]
 ·rename_i h;simp[h]
theorem Rch.sub{ns:List Nd}{F:Int->Option Bool}{id x:Int}(h:Rch ns id x)(i:(F id).isSome=true)(c: ∀x,(F x).isSome=true->0<=x->(F (nd ns x).2.1).isSome=true/\(F (nd ns x).2.2).isSome=true):(F x).isSome=true:=by
 induction h with
 |self=>exact i
 |yes h0 _ ih=>exact ih (c _ i h0).1
 |no h0 _ ih=>exact ih (c _ i h0).2
def Rc(ns:List Nd)(id:Int)(F:Int->Option Bool):Prop:=Tr F/\ ∀x,(F x).isSome=true↔Rch ns id x
def univ(ns:List Nd):List Int:=(List.range (ns.length+1001)).map fun (i:Nat)=>(i:Int) - 1001
def left(ns:List Nd)(F:Int->Option Bool):Nat:=(univ ns).countP fun x=>(F x).isNone
theorem v3f{ns:List Nd}{x:Int}(h:Ok ns x):x∈univ ns:=by
 obtain⟨h1,h2⟩:=h
 exact List.mem_map.2 ⟨(x+1001).toNat,List.mem_range.2 (by omega),by omega⟩
theorem v0i{l:List Int}{F:Int->Option Bool}{x:Int}(hx:x∈l)(hn:F x=none):(l.countP fun y=>(put F x true y).isNone)<l.countP fun y=>(F y).isNone:=by
 induction l with
 |nil=>cases hx
 |cons a l ih=>
  have le:(l.countP fun y=>(put F x true y).isNone)<=l.countP fun y=>(F y).isNone:=by
   refine List.countP_mono_left fun y _ h=> ?_
   unfold Fl.put at h
   split at h
   ·cases h
   ·exact h
  rw[List.countP_cons,List.countP_cons]
  by_cases ha:a=x
  ·subst ha
   simp only[Fl.put,if_true,Option.isNone_some,Bool.false_eq_true,if_false,hn,Option.isNone_none]
   simp only[Fl.put] at le
   omega
  ·have:=ih ((List.mem_cons.1 hx).resolve_left fun e=>ha e.symm)
   have e:put F x true a=F a:=by simp[Fl.put,ha]
   rw[e]
   omega
theorem v3g{ns:List Nd}{F:Int->Option Bool}{x:Int}(h:Ok ns x)(hn:F x=none):left ns (put F x true)<left ns F:=v0i (v3f h) hn
theorem v60{ns:List Nd}{F:Int->Option Bool}:left ns F<=ns.length+1001:=by
 have:=List.countP_le_length (p:=fun x=>(F x).isNone) (l:=univ ns)
 simpa [left,univ] using this
theorem v0j{ns:List Nd}{ids:Nd->Option Int}{full:Bool}{id:Int}{K:(Int->Option Bool)->List Nd->(Nd->Option Int)->Bool->Prop}(hN:Nod ns)(hl:ns.length<=4000)(hid:Ok ns id)(h: ∀F,Rc ns id F->K F ns ids full):
  Vr ns ids full id K:=by
 unfold Vr
 refine Lp2.ind (fun todo F=>Tr F/\(∀x∈todo,Ok ns x/\Rch ns id x)/\(∀x,(F x).isSome=true->Ok ns x/\Rch ns id x)/\((F id).isSome=true∨id∈todo)/\
  (∀x,(F x).isSome=true->0<=x->((F (nd ns x).2.1).isSome=true∨(nd ns x).2.1∈todo)/\((F (nd ns x).2.2).isSome=true∨(nd ns x).2.2∈todo))/\todo.length+3*left ns F<=15004)
  (fun todo F=>todo.length+3*left ns F) (fun todo F hI _=> ?_) ⟨Tr.nil,by simpa using ⟨hid,.self _⟩,by simp,.inr (by simp),by simp,by have:=v60 (ns:=ns) (F:=fun _=>none);simp;omega⟩
 obtain⟨i1,i2,i3,i4,i5,i6⟩:=hI
 refine⟨fun hpos=>fun _=>⟨⟨by omega,by omega⟩,⟨by omega,by omega⟩,fun y hy _=>⟨⟨by omega,by omega⟩,⟨by omega,by omega⟩,?_⟩⟩,fun hpos=> ?_⟩
 ·have ht:((todo.length:Int) - 1).toNat=todo.length - 1:=by omega
  rw[ht] at hy⊢
  have hne:todo≠[]:=fun e=>by subst e;simp at hpos
  have hsp:todo=todo.take (todo.length - 1)++[y]:=by
   have h1:todo.getLast hne=y:=by
    rw[List.getLast_eq_getElem]
    rw[List.getElem?_eq_getElem (by omega)] at hy
    exact Option.some.inj hy
   rw[←h1,←List.dropLast_eq_take,List.dropLast_concat_getLast]
  generalize hA:todo.take (todo.length - 1)=A at hsp⊢
  have hlen:todo.length=A.length+1:=by rw[hsp];simp
  obtain⟨hy1,hy2⟩:=i2 y (by rw[hsp];simp)
  have sub: ∀x,x∈todo->x∈A∨x=y:=fun x hx=>by rw[hsp] at hx;simpa using hx
  refine⟨fun hs=>⟨⟨i1,fun x hx=>i2 x (by rw[hsp];simp[hx]),i3,?_,fun x hx h0=> ?_,by omega⟩,by omega⟩,fun hs=> ?_⟩
  ·have hs:=(i1.get).1 hs
   rcases i4 with h|h
   ·exact .inl h
   ·rcases sub _ h with h|rfl
    ·exact .inr h
    ·exact .inl hs
  ·have hs:=(i1.get).1 hs
   obtain⟨a,b⟩:=i5 x hx h0
   refine⟨a.elim .inl fun h=> ?_,b.elim .inl fun h=> ?_⟩
   ·rcases sub _ h with h|h
    ·exact .inr h
    ·exact .inl (by rw[h];exact hs)
   ·rcases sub _ h with h|h
    ·exact .inr h
    ·exact .inl (by rw[h];exact hs)
  ·have hn:F y=none:=by
    rcases i1 y with e|e
    ·exact e
    ·rw[e] at hs;simp at hs
   have hlt:=v3g hy1 hn
   refine⟨fun h0=>⟨⟨h0,hy1.2⟩,fun z hz=>⟨⟨h0,hy1.2⟩,fun z' hz'=> ?_⟩⟩,fun h0=>⟨⟨i1.put y,fun x hx=>i2 x (by rw[hsp];simp[hx]),fun x hx=> ?_,?_,fun x hx hx0=> ?_,by omega⟩,by omega⟩⟩
   ·rw[hz] at hz'
    cases hz'
    have ez:=v0h hz
    obtain⟨k1,k2,_⟩:=kids hN hy1 h0
    rw[ez] at k1 k2
    refine⟨by unfold Sml;simp;omega,⟨i1.put y,fun x hx=> ?_,fun x hx=> ?_,?_,fun x hx hx0=> ?_,by simp;omega⟩,by simp;omega⟩
    ·simp only[List.mem_append,List.mem_cons,List.not_mem_nil,or_false] at hx
     rcases hx with hx|rfl|rfl
     ·exact i2 x (by rw[hsp];simp[hx])
     ·exact⟨k1,hy2.step (.yes h0 (by rw[ez];exact .self _))⟩
     ·exact⟨k2,hy2.step (.no h0 (by rw[ez];exact .self _))⟩
    ·rcases Bm.1 hx with rfl|hx
     ·exact⟨hy1,hy2⟩
     ·exact i3 x hx
    ·rcases i4 with h|h
     ·exact .inl (Bm.2 (.inr h))
     ·rcases sub _ h with h|rfl
      ·exact .inr (by simp[h])
      ·exact .inl (Bm.2 (.inl rfl))
    ·have mv: ∀q,(F q).isSome=true∨q∈todo->(put F y true q).isSome=true∨q∈A++[z.2.1,z.2.2]:=fun q hq=>by
      rcases hq with h|h
      ·exact .inl (Bm.2 (.inr h))
      ·rcases sub _ h with h|rfl
       ·exact .inr (by simp[h])
       ·exact .inl (Bm.2 (.inl rfl))
     rcases Bm.1 hx with rfl|hx
     ·rw[ez];exact⟨.inr (by simp),.inr (by simp)⟩
     ·obtain⟨a,b⟩:=i5 x hx hx0
      exact⟨mv _ a,mv _ b⟩
   ·rcases Bm.1 hx with rfl|hx
    ·exact⟨hy1,hy2⟩
    ·exact i3 x hx
   ·rcases i4 with h|h
    ·exact .inl (Bm.2 (.inr h))
    ·rcases sub _ h with h|rfl
     ·exact .inr h
     ·exact .inl (Bm.2 (.inl rfl))
   ·have mv: ∀q,(F q).isSome=true∨q∈todo->(put F y true q).isSome=true∨q∈A:=fun q hq=>by
     rcases hq with h|h
     ·exact .inl (Bm.2 (.inr h))
     ·rcases sub _ h with h|rfl
      ·exact .inr h
      ·exact .inl (Bm.2 (.inl rfl))
    rcases Bm.1 hx with rfl|hx
    ·exact absurd hx0 h0
    ·obtain⟨a,b⟩:=i5 x hx hx0
     exact⟨mv _ a,mv _ b⟩
 ·have hnil:todo=[]:=List.eq_nil_of_length_eq_zero (by omega)
  subst hnil
  refine h F ⟨i1,fun x=>⟨fun hx=>(i3 x hx).2,fun hx=> ?_⟩⟩
  have i4:(F id).isSome=true:=i4.resolve_right (by simp)
  exact hx.sub i4 fun x hx h0=>⟨(i5 x hx h0).1.resolve_right (by simp),(i5 x hx h0).2.resolve_right (by simp)⟩
theorem j7s{α:Type}[DecidableEq α]{l l':List α}(h:l.Nodup)(hs: ∀x∈l,x∈l'):l.length<=l'.length:=by
 induction l generalizing l' with
 |nil=>simp
 |cons a l ih=>
  rw[List.nodup_cons] at h
  have:=ih (l':=l'.erase a) h.2 fun x hx=>by
   have hne:x≠a:=fun e=>h.1 (e▸hx)
   exact (List.mem_erase_of_ne hne).2 (hs x (by simp[hx]))
  rw[List.length_erase_of_mem (hs a (by simp))] at this
  have hp:=List.length_pos_of_mem (hs a (by simp))
  simp only[List.length_cons]
  omega
def Lvs(ns:List Nd)(id:Int)(l:List Int):Prop:=l.Pairwise (· < ·)/\ ∀n,n∈l↔Ok ns id/\0<=n/\Rch ns id (-1 - n)
theorem w6o{ns:List Nd}{ids:Nd->Option Int}{full:Bool}{id:Int}{K:List Int->List Nd->(Nd->Option Int)->Bool->Prop}(hN:Nod ns)(hl:ns.length<=4000)(h: ∀l,Lvs ns id l->K l ns ids full):Vd ns ids full id K:=by
 unfold Vd
 by_cases hid:Ok ns id
 ·refine z4m (Cnd.yes (decide_eq_true hid) (v0j hN hl hid fun F hF=> ?_))
  refine Lp2.ind (fun l n=>0<=n/\n<=1001/\l.length<=n/\l.Pairwise (· < ·)/\ ∀x,x∈l↔0<=x/\x<n/\Rch ns id (-1 - x)) (fun _ n=>(1001 - n).toNat) (fun l n hI=> ?_) ⟨by omega,by omega,by simp,by simp,fun x=>by simp;omega⟩
  obtain⟨h0,h1,h2,h3,h4⟩:=hI
  refine⟨fun hn=>⟨⟨by omega,by omega⟩,fun hs=> ?_,fun hs=> ?_⟩,fun hn=> ?_⟩
  ·have hs:=(hF.2 _).1 ((hF.1.get).1 hs)
   refine⟨by unfold Sml;simp;omega,⟨by omega,by omega⟩,⟨by omega,by omega,by simp;omega,?_,fun x=> ?_⟩,by omega⟩
   ·rw[List.pairwise_append]
    exact⟨h3,by simp,fun a ha b hb=>by simp at hb;subst hb;exact ((h4 a).1 ha).2.1⟩
   ·simp only[List.mem_append,List.mem_singleton,h4]
    constructor
    ·rintro (⟨a,b,c⟩|rfl)
     ·exact⟨a,by omega,c⟩
     ·exact⟨h0,by omega,hs⟩
    ·rintro⟨a,b,c⟩
     by_cases hx:x=n
     ·exact .inr hx
     ·exact .inl ⟨a,by omega,c⟩
  ·have hs: ¬Rch ns id (-1 - n):=fun hr=>hs ((hF.1.get).2 ((hF.2 _).2 hr))
   refine⟨⟨by omega,by omega⟩,⟨by omega,by omega,by omega,h3,fun x=> ?_⟩,by omega⟩
   rw[h4]
   constructor
   ·rintro⟨a,b,c⟩;exact⟨a,by omega,c⟩
   ·rintro⟨a,b,c⟩
    refine⟨a,?_,c⟩
    by_cases hx:x=n
    ·subst hx;exact absurd c hs
    ·omega
  ·refine h l ⟨h3,fun x=> ?_⟩
   rw[h4]
   constructor
   ·rintro⟨a,_,c⟩;exact⟨hid,a,c⟩
   ·rintro⟨_,a,c⟩
    have:=(c.ok hN hid).1
    exact⟨a,by omega,c⟩
 ·exact z4m (Cnd.no (by simpa using hid) (h [] ⟨by simp,fun n=>by simp[hid]⟩))
theorem w40{ns:List Nd}(hN:Nod ns){id:Int}(hid:Ok ns id)(n:Int)(hn:0<=n):Rch ns id (-1 - n)↔ ∃v,ev ns v id=n:=by
 constructor
 ·intro h
  generalize hx: -1 - n=x at h
  induction h with
  |self a=>exact⟨fun _=>true,by rw[q1r (by omega)];omega⟩
  | @yes a x h0 _ ih=>
   obtain⟨v,hv⟩:=ih (kids hN hid h0).1 hx
   exact⟨setB v (nd ns a).1 true,by rw[w4x hN h0 hid.2];exact hv⟩
  | @no a x h0 _ ih=>
   obtain⟨v,hv⟩:=ih (kids hN hid h0).2.1 hx
   exact⟨setB v (nd ns a).1 false,by rw[v3e hN h0 hid.2];exact hv⟩
 ·rintro⟨v,hv⟩
  revert hv
  refine ind hN (p:=fun id=>ev ns v id=n->Rch ns id (-1 - n)) (fun id h1 h2 he=> ?_) (fun id h1 h2 i1 i2 he=> ?_) hid
  ·rw[q1r h2] at he
   rw[show -1 - n=id by omega];exact .self _
  ·rw[q62 hN h1 h2] at he
   split at he
   ·exact .yes h1 (i1 he)
   ·exact .no h1 (i2 he)
theorem v0k{ns:List Nd}(hN:Nod ns){id:Int}(hid:Ok ns id)(v:Int->Bool):0<=ev ns v id:=by
 refine ind hN (p:=fun id=>0<=ev ns v id) (fun id h1 h2=> ?_) (fun id h1 h2 i1 i2=> ?_) hid
 ·rw[q1r h2];omega
 ·rw[q62 hN h1 h2];split<;>assumption
theorem v3h{ns:List Nd}(hN:Nod ns){id:Int}(hid:Ok ns id){l:List Int}(hl:Lvs ns id l):Cond ns id↔ ∀n∈l,n<=1:=by
 constructor
 ·intro h n hn
  obtain⟨_,h0,hr⟩:=(hl.2 n).1 hn
  obtain⟨v,hv⟩:=(w40 hN hid n h0).1 hr
  have:=h v
  omega
 ·intro h v
  have h0:=v0k hN hid v
  have:=h (ev ns v id) ((hl.2 _).2 ⟨hid,h0,(w40 hN hid _ h0).2 ⟨v,rfl⟩⟩)
  omega
def OpR(p:Prop)(ns:List Nd)(ids:Nd->Option Int)(full:Bool)(f g h r:Int)(ns':List Nd)(ids':Nd->Option Int)(full':Bool):Prop:=
 (p/\Cho ns ids full f g h r ns' ids' full')∨(¬p/\r= -1002/\ns'=ns/\ids'=ids/\full'=full)
def ChR(ns:List Nd)(ids:Nd->Option Int)(full:Bool)(f g h r:Int)(ns':List Nd)(ids':Nd->Option Int)(full':Bool):Prop:=
 (Ok ns f/\Cond ns f/\Ok ns g/\Ok ns h/\Cho ns ids full f g h r ns' ids' full')∨(¬(Ok ns f/\Cond ns f/\Ok ns g/\Ok ns h)/\r= -1002/\ns'=ns/\ids'=ids/\full'=full)
theorem j7t{ns:List Nd}{ids:Nd->Option Int}{full:Bool}{id:Int}{K:Bool->List Nd->(Nd->Option Int)->Bool->Prop}(hN:Nod ns)(hl:ns.length<=4000)(h: ∀b,(b=true↔Ok ns id/\Cond ns id)->K b ns ids full):Zw ns ids full id K:=by
 unfold Zw
 by_cases hid:Ok ns id
 ·refine z4m (Cnd.yes (decide_eq_true hid) (w6o hN hl fun l hL=> ?_))
  have hc:=v3h hN hid hL
  refine Lp1.ind (fun i:Int=>0<=i/\i<=l.length/\ ∀j:Nat,j<i.toNat-> ∀n,l[j]? =some n->n<=1) (fun i:Int=>l.length - i.toNat) (fun i hi hlen=> ?_) ⟨by omega,by omega,fun j hj=>by omega⟩
  obtain⟨h0,h1,h2⟩:=hi
  refine⟨fun hlt=>⟨⟨h0,hlt⟩,fun y hy=>⟨fun h3=>h false ⟨fun e=>(by cases e),fun a=> ?_⟩,fun h3=>⟨⟨by omega,by omega⟩,⟨by omega,by omega,fun j hj n hn=> ?_⟩,by omega⟩⟩⟩,fun hlt=>h true ⟨fun _=>⟨hid,hc.2 fun n hn=> ?_⟩,fun _=>rfl⟩⟩
  ·have:=hc.1 a.2 y (List.mem_of_getElem? hy);omega
  ·by_cases hji:j=i.toNat
   ·subst hji;rw[hy] at hn;cases hn;omega
   ·exact h2 j (by omega) n hn
  ·obtain⟨j,hj⟩:=List.mem_iff_getElem?.1 hn
   exact h2 j (by have:=(List.getElem?_eq_some_iff.1 hj).1;omega) n hj
 ·exact z4m (Cnd.no (by simpa using hid) (h false ⟨fun e=>(by cases e),fun a=>absurd a.1 hid⟩))
theorem z8v{ns:List Nd}{ids:Nd->Option Int}{full:Bool}{f g h:Int}{K:Int->List Nd->(Nd->Option Int)->Bool->Prop}(hI:Inv ns ids)(hl:ns.length<=4000)
  (hK: ∀r ns' ids' full',ChR ns ids full f g h r ns' ids' full'->K r ns' ids' full'):Jw ns ids full f g h K:=by
 unfold Jw
 refine j7t hI.nod hl fun b hb=>⟨fun hbt=> ?_,fun hbt=> ?_⟩
 ·obtain⟨hf,hc⟩:=hb.1 hbt
  refine z4m ⟨fun hg=>z4m ⟨fun hh=> ?_,fun hh=> ?_⟩,fun hg=> ?_⟩
  ·exact w6n _ _ _ _ _ _ _ _ hI hl hf (of_decide_eq_true hg) (of_decide_eq_true hh) hc (Kn.nil ns) fun r ns' ids' full' m' C _=>hK _ _ _ _ (.inl ⟨hf,hc,of_decide_eq_true hg,of_decide_eq_true hh,C⟩)
  ·exact hK _ _ _ _ (.inr ⟨fun a=>hh (decide_eq_true a.2.2.2),rfl,rfl,rfl,rfl⟩)
  ·exact hK _ _ _ _ (.inr ⟨fun a=>hg (decide_eq_true a.2.2.1),rfl,rfl,rfl,rfl⟩)
 ·exact hK _ _ _ _ (.inr ⟨fun a=>hbt (hb.2 ⟨a.1,a.2.1⟩),rfl,rfl,rfl,rfl⟩)
theorem v61{ns:List Nd}{ids:Nd->Option Int}{full:Bool}{f g:Int}{K:Int->List Nd->(Nd->Option Int)->Bool->Prop}(hI:Inv ns ids)(hl:ns.length<=4000)
  (hK: ∀r ns' ids' full',OpR (Ok ns f/\Cond ns f/\Ok ns g/\Cond ns g) ns ids full f g (-1) r ns' ids' full'->K r ns' ids' full'):Ji ns ids full f g K:=by
 unfold Ji
 refine j7t hI.nod hl fun b hb=>⟨fun hbt=> ?_,fun hbt=> ?_⟩
 ·refine z8v hI hl fun r ns' ids' full' C=>hK _ _ _ _ ?_
  rcases C with ⟨a1,a2,a3,a4,a5⟩|⟨a1,a2⟩
  ·exact .inl ⟨⟨a1,a2,hb.1 hbt⟩,a5⟩
  ·exact .inr ⟨fun a=>a1 ⟨a.1,a.2.1,a.2.2.1,⟨by omega,by omega⟩⟩,a2⟩
 ·exact hK _ _ _ _ (.inr ⟨fun a=>hbt (hb.2 a.2.2),rfl,rfl,rfl,rfl⟩)
theorem v4u{ns:List Nd}{ids:Nd->Option Int}{full:Bool}{f g:Int}{K:Int->List Nd->(Nd->Option Int)->Bool->Prop}(hI:Inv ns ids)(hl:ns.length<=4000)
  (hK: ∀r ns' ids' full',OpR (Ok ns f/\Cond ns f/\Ok ns g/\Cond ns g) ns ids full f (-2) g r ns' ids' full'->K r ns' ids' full'):Jn ns ids full f g K:=by
 unfold Jn
 refine j7t hI.nod hl fun b hb=>⟨fun hbt=> ?_,fun hbt=> ?_⟩
 ·refine z8v hI hl fun r ns' ids' full' C=>hK _ _ _ _ ?_
  rcases C with ⟨a1,a2,a3,a4,a5⟩|⟨a1,a2⟩
  ·exact .inl ⟨⟨a1,a2,hb.1 hbt⟩,a5⟩
  ·exact .inr ⟨fun a=>a1 ⟨a.1,a.2.1,⟨by omega,by omega⟩,a.2.2.1⟩,a2⟩
 ·exact hK _ _ _ _ (.inr ⟨fun a=>hbt (hb.2 a.2.2),rfl,rfl,rfl,rfl⟩)
theorem v62{ns:List Nd}{ids:Nd->Option Int}{full:Bool}{f:Int}{K:Int->List Nd->(Nd->Option Int)->Bool->Prop}(hI:Inv ns ids)(hl:ns.length<=4000)
  (hK: ∀r ns' ids' full',OpR (Ok ns f/\Cond ns f) ns ids full f (-1) (-2) r ns' ids' full'->K r ns' ids' full'):Jh ns ids full f K:=by
 unfold Jh
 refine z8v hI hl fun r ns' ids' full' C=>hK _ _ _ _ ?_
 rcases C with ⟨a1,a2,a3,a4,a5⟩|⟨a1,a2⟩
 ·exact .inl ⟨⟨a1,a2⟩,a5⟩
 ·exact .inr ⟨fun a=>a1 ⟨a.1,a.2,⟨by omega,by omega⟩,⟨by omega,by omega⟩⟩,a2⟩
end Go.En
end
noncomputable section
set_option maxRecDepth 100000
namespace Go.En
open Go Go.Fl Go.Fl.Lk Go.Fx Go.Dg
theorem w0m{v:Envt}{layer but:ByteArray}{now:Int}{K:List Spn->Prop}(h: ∀l,l.length<=10000->K l):q9t v layer but now K:=by
 unfold q9t z40
 refine q3h fun r hr=>Cnd.mk (fun _=>h _ (by simp)) fun hn=> ?_
 refine Jn1.mk (fun l=>SpsS l) ?_ fun l hl=> ?_
 ·rcases hr with ⟨e,_⟩|⟨a,b,_⟩
  ·omega
  refine⟨⟨a,b⟩,fun y hy=>⟨⟨a,b⟩,fun z hz=> ?_⟩⟩
  refine⟨z02 fun u hu=>z2n (by omega) fun l _=>q7o fun l hl=>hl,z02 fun u hu=>⟨z2n (by omega) fun l _=>q7o fun l hl=>hl,z2n (by omega) fun l _=>q7o fun l hl=>hl⟩⟩
 ·refine Lp2.ind (fun (l:List Spn) (i:Int)=>0<=i/\i<=v.experiments.length/\SpsS l) (fun _ (i:Int)=>(v.experiments.length - i).toNat) ?_ ⟨by omega,by omega,hl⟩
  rintro l i ⟨i0,i1,hl⟩
  have hlen:=hl.len
  (repeat' (first|exact h _ (by omega)|refine q7o fun l hl=> ?_|assumption|(unfold InI;omega)|omega|refine Cnd.mk (fun _=> ?_) fun _=> ?_|refine⟨?_,?_⟩|intro _))
theorem w29{v:Envt}{layer:ByteArray}{now:Int}{K:List Spn->Int->Prop}(h: ∀l e,SpsS l->K l e):z3f v layer now K:=by
 unfold z3f z74
 have nil:SpsS []:=⟨by simp,by simp⟩
 exact w2y fun _ _=>Cnd.mk (fun _=>q3h fun _ _=>Cnd.mk (fun _=>h _ _ nil) fun _=>w0m fun _ _=>z9h fun l hl=>h _ _ hl) fun _=>h _ _ nil
def lim:Nat->Nat
 |0=>1
 |n+1=>1+3*lim n
theorem j3i: ∀(n:Nat) {l:List Ex} {e:Ex} {K:List Ex->Prop},n<=5->ExS n e->(∀x∈l,ExS 5 x)->l.length+lim n<=1000000->(∀r,(∀x∈r,ExS 5 x)->r.length<=l.length+lim n->K r)->J2 l e K:=by
 intro n l e K hn he hl hB h X hX
 induction n using Nat.strongRecOn generalizing l e K with
 |_ n ih=>
 refine hX _ _ _ ?_
 unfold Ug
 rw[Wg]
 have lp:1<=lim n:=by cases n<;>simp[lim]
 refine Jn1.mk (fun r=>(∀x∈r,ExS 5 x)/\r.length<=l.length+1) ?_ fun r hr=> ?_
 ·have same:(∀x∈l,ExS 5 x)/\l.length<=l.length+1:=⟨hl,by omega⟩
  have more:Sml ([]++l).length/\Sml ([]++l++[e]).length/\((∀x∈[]++l++[e],ExS 5 x)/\([]++l++[e]).length<=l.length+1):=by
   refine⟨by unfold Sml;simp;omega,by unfold Sml;simp;omega,?_,by simp⟩
   rw[List.nil_append]
   exact W9 hl (he.le hn)
  have ix:Zx l e fun x=>Cnd (x<0) ((Sml ([]++l).length/\Sml ([]++l++[e]).length/\((∀x∈[]++l++[e],ExS 5 x)/\([]++l++[e]).length<=l.length+1))/\Sml ([]++l).length/\Sml ([]++l++[e]).length/\((∀x∈[]++l++[e],ExS 5 x)/\([]++l++[e]).length<=l.length+1)) ((∀x∈l,ExS 5 x)/\l.length<=l.length+1):=
   z9g hl fun r _=>Cnd.mk (fun _=>⟨more,more⟩) fun _=>same
  exact Cnd.mk (fun _=>ix) fun _=>q32 fun r _=>Cnd.mk (fun _=>ix) fun _=>same
 ·obtain⟨hr,hlen⟩:=hr
  have hk:=he.kids
  cases n with
  |zero=>
   have hk0:e.kids=[]:=he.2.2.2
   refine Lp2.ind (fun (q:List Ex) (i:Int)=>q=r/\0<=i) (fun _ _=>0) ?_ ⟨rfl,by omega⟩
   rintro q i ⟨rfl,i0⟩ _
   refine Cnd.mk (fun hc=> ?_) fun _=>h _ hr (by simp[lim];omega)
   rw[hk0]
   exact⟨by rw[hk0] at hc;simp at hc;omega,fun y hy=>by simp at hy⟩
  |succ n=>
  refine Lp2.ind (fun (q:List Ex) (i:Int)=>0<=i/\i<=e.kids.length/\(∀x∈q,ExS 5 x)/\q.length<=r.length+i.toNat*lim n) (fun _ (i:Int)=>(e.kids.length - i).toNat) ?_ ⟨by omega,by omega,hr,by simp⟩
  rintro q i ⟨i0,i1,hq,hql⟩ _
  have hle:i.toNat*lim n<=3*lim n:=Nat.mul_le_mul_right _ (by omega)
  have hB:l.length+(1+3*lim n)<=1000000:=hB
  refine Cnd.mk (fun hc=>⟨by omega,fun y hy=> ?_⟩) fun _=>h _ hq (by show q.length<=l.length+(1+3*lim n);omega)
  obtain⟨m,hm,hk⟩:=he.kid (getm hy)
  obtain rfl:m=n:=by omega
  rw[Wg]
  have hle2:i.toNat*lim m<=2*lim m:=Nat.mul_le_mul_right _ (by omega)
  refine ih m (by omega) (by omega) hk hq (by omega) fun s hs hsl=>⟨by unfold InI;omega,⟨by omega,by omega,hs,?_⟩,by omega⟩
  ·rw[show (i+1).toNat=i.toNat+1 by omega,Nat.add_mul,Nat.one_mul];omega
theorem lim4:lim 4=121:=rfl
theorem z98{l:List Rul}{K:List Ex->Prop}(hl:l.length<=100)(hr: ∀r∈l,ExS 4 r.cond)(h: ∀r,(∀x∈r,ExS 5 x)->r.length<=100000->K r):Um l K:=by
 unfold Um q0y
 refine Lp2.ind (fun (q:List Ex) (i:Int)=>0<=i/\i<=l.length/\(∀x∈q,ExS 5 x)/\q.length<=i.toNat*121) (fun _ (i:Int)=>(l.length - i).toNat) ?_ ⟨by omega,by omega,by simp,by simp⟩
 rintro q i ⟨i0,i1,hq,hql⟩ _
 refine Cnd.mk (fun hc=>⟨by omega,fun y hy=> ?_⟩) fun _=>h _ hq (by omega)
 dsimp only;rw[Wg]
 refine j3i 4 (by omega) (hr y (getm hy)) hq (by rw[lim4];omega) fun s hs hsl=>⟨by unfold InI;omega,⟨by omega,by omega,hs,?_⟩,by omega⟩
 rw[lim4] at hsl;omega
def StS(ns:List Nd)(ids:Nd->Option Int):Prop:=Inv ns ids/\ns.length<=4000
theorem OpR.st{p:Prop}{ns:List Nd}{ids:Nd->Option Int}{full:Bool}{f g h r:Int}{ns':List Nd}{ids':Nd->Option Int}{full':Bool}(h:OpR p ns ids full f g h r ns' ids' full')(hS:StS ns ids):StS ns' ids':=by
 rcases h with ⟨_,C⟩|⟨_,_,e1,e2,_⟩
 ·exact⟨C.grew.inv,C.grew.len⟩
 ·rw[e1,e2];exact hS
theorem v63{ns:List Nd}{ids:Nd->Option Int}{full:Bool}{t y n:Int}(hS:StS ns ids):StS (node ns ids full t y n).2.1 (node ns ids full t y n).2.2.1:=by
 by_cases hO:z9j ns t y n
 ·obtain⟨h1,_⟩:=v0f (full:=full) hS.1 hS.2 hO (he:=rfl)
  exact⟨h1.inv,h1.len⟩
 ·rw[w4y hO];exact hS
theorem v64:Inv [] fun _=>none:=⟨⟨fun i h0 hl=>by simp at hl;omega,fun i j h0 hl=>by simp at hl;omega⟩,fun n id=>by simp;omega⟩
theorem z99: ∀(n:Nat) {ns:List Nd} {ids:Nd->Option Int} {full:Bool} {atoms:List Ex} {e:Ex} {K:Int->List Nd->(Nd->Option Int)->Bool->Prop},ExS n e->(∀x∈atoms,ExS 5 x)->StS ns ids->(∀r ns ids full,StS ns ids->K r ns ids full)->Jj ns ids full atoms e K:=by
 intro n ns ids full atoms e K he ha hS h X hX
 induction n using Nat.strongRecOn generalizing ns ids full e K with
 |_ n ih=>
 refine hX _ _ _ _ _ _ ?_
 unfold Vi
 rw[Wg]
 have hop:=he.opK
 have zero:2<=e.op->e.op<=4->(0:Int)<(e.kids.length:Int):=fun a b=>by have:=List.length_pos_iff.2 (hop a b);omega
 have kid: ∀{y:Ex} {ns ids full} {K:Int->List Nd->(Nd->Option Int)->Bool->Prop},y∈e.kids->StS ns ids->(∀r ns ids full,StS ns ids->K r ns ids full)->X ns ids full atoms (Ex.mk y.1 y.2 y.3 y.4 y.5) K:=fun hy hS hK=>by
  obtain⟨m,hm,hk⟩:=he.kid hy
  rw[Wg]
  exact ih m (by omega) hk hS hK
 refine Cnd.mk (fun _=>h _ _ _ _ hS) fun _=>Cnd.mk (fun h4=>⟨⟨by omega,zero (by omega) (by omega)⟩,fun y hy=>kid (getm hy) hS fun r ns ids full hS=>v62 hS.1 hS.2 fun r ns ids full C=>h _ _ _ _ (C.st hS)⟩) fun _=> ?_
 refine Jn1.mk (fun b=>b=true->2<=e.op/\e.op<=4) (Cnd.mk (fun hc _=>by omega) fun _ hd=>by have:=of_decide_eq_true hd;omega) fun b hb=>Cnd.mk (fun hc=>⟨⟨by omega,zero (hb hc).1 (hb hc).2⟩,fun y hy=>kid (getm hy) hS fun r ns ids full hS=> ?_⟩) fun _=> ?_
 ·refine Lp5.ind (fun (_ i:Int) ns _ ids=>1<=i/\i<=e.kids.length+1/\StS ns ids) (fun _ (i:Int) _ _ _=>(e.kids.length+1 - i).toNat) ?_ ⟨by omega,by omega,hS⟩
  rintro f i ns full ids ⟨i0,i1,hS⟩ _
  refine Cnd.mk (fun hc=>⟨by omega,fun y hy=>kid (getm hy) hS fun r ns ids full hS=> ?_⟩) fun _=>h _ _ _ _ hS
  exact Cnd.mk (fun _=>v61 hS.1 hS.2 fun r ns ids full C=>⟨by unfold InI;omega,⟨by omega,by omega,C.st hS⟩,by omega⟩) fun _=>v4u hS.1 hS.2 fun r ns ids full C=>⟨by unfold InI;omega,⟨by omega,by omega,C.st hS⟩,by omega⟩
 ·exact z9g ha fun r hr=>Cnd.mk (fun _=>h _ _ _ _ hS) fun _=>w4z hS.2 (h _ _ _ _ (v63 hS))
theorem q1s{l:List Rul}{K:List Int->Int->Bool->Prop}(hl:l.length<=100)(hr: ∀r∈l,ExS 4 r.cond)(h: ∀o n b,o.length<=100->K o n b):Zv l K:=by
 unfold Zv Re
 refine z98 hl hr fun atoms ha _=> ?_
 refine LpH.ind (fun (x:Int×List Int×Int×List Nd×Bool×(Nd->Option Int)×Unit)=>0<=x.2.2.1/\x.2.2.1<=(l.length:Int)/\(x.2.1.length:Int)<=x.2.2.1/\StS x.2.2.2.1 x.2.2.2.2.2.1) (fun x=>((l.length:Int) - x.2.2.1).toNat) ?_ ⟨by simp,by simp,by simp,v64,by simp⟩
 rintro⟨some_,out,i,ns,full,ids,u⟩ ⟨i0,i1,ho,hS⟩
 simp only at i0 i1 ho hS⊢
 refine fun _=>Cnd.mk (fun hc=>⟨by omega,fun y hy=> ?_⟩) fun _ _=>h _ _ _ (by omega)
 dsimp only;rw[Wg]
 refine z99 4 (hr y (getm hy)) ha hS fun r ns ids full hS=>v4u hS.1 hS.2 fun r ns ids full C=>Cnd.mk (fun _ _=>h _ _ _ (by simp)) fun _=>Cnd.mk (fun _=> ?_) fun _=> ?_
 ·exact⟨by unfold InI;omega,by unfold Sml;simp;omega,by unfold InI;omega,⟨by omega,by omega,by simp;omega,C.st hS⟩,by omega⟩
 ·exact⟨by unfold InI;omega,⟨by omega,by omega,by omega,C.st hS⟩,by omega⟩
theorem j7u{l m:List ByteArray}(hl:Asc l)(hs: ∀x∈l,x∈m):l.length<=m.length:=j7s (j1a hl) hs
theorem w3a{edges:List Edg}{node:ByteArray}{K:List ByteArray->Prop}(hE:edges.length<=100000)(h: ∀r,Asc r->(∀x∈r,x∈edges.map Edg.dst)->K r):q0d edges node K:=by
 unfold q0d q83
 have len: ∀{o:List ByteArray},Asc o->(∀x∈o,x∈edges.map Edg.dst)->o.length<=edges.length:=fun a b=>by have:=j7u a b;simpa using this
 refine Lp2.ind (fun (o t:List ByteArray)=>Asc o/\(∀x∈o,x∈edges.map Edg.dst)/\t.length<=o.length+1) (fun o t=>2*(edges.length - o.length)+t.length) ?_ ⟨j7o,by simp,by simp⟩
 rintro o t ⟨ho,hs,ht⟩ _
 refine Cnd.mk (fun hc=>⟨by omega,fun n hn=>⟨by omega,?_⟩⟩) fun _=>h o ho hs
 have hlo:=len ho hs
 refine Lp3.ind (fun (o' t':List ByteArray) (i:Int)=>0<=i/\i<=edges.length/\Asc o'/\(∀x∈o',x∈edges.map Edg.dst)/\t'.length<=o'.length/\2*(edges.length - o'.length)+t'.length<2*(edges.length - o.length)+t.length) (fun _ _ (i:Int)=>(edges.length - i).toNat) ?_ ⟨by omega,by omega,ho,hs,by simp;omega,by simp;omega⟩
 rintro o' t' i ⟨i0,i1,ho',hs',ht',hm⟩ _
 have hlo':=len ho' hs'
 refine Cnd.mk (fun hc=>⟨by omega,fun e he=>Cnd.mk (fun _=>⟨by omega,fun e he=>z2m fun r hr=>Cnd.mk (fun _=>⟨by unfold InI;omega,⟨by omega,by omega,ho',hs',ht',hm⟩,by omega⟩) fun hn=>⟨by omega,fun e2 he2=> ?_⟩⟩) fun _=>⟨by unfold InI;omega,⟨by omega,by omega,ho',hs',ht',hm⟩,by omega⟩⟩) fun _=>⟨⟨ho',hs',by omega⟩,hm⟩
 rw[he] at he2;cases he2
 refine z60 ho' (by omega) fun q hq hmem=>⟨by omega,fun e3 he3=> ?_⟩
 rw[he] at he3;cases he3
 have hin:e.dst∈edges.map Edg.dst:=List.mem_map.2 ⟨e,getm he,rfl⟩
 have hq2: ∀x∈q,x∈edges.map Edg.dst:=fun x hx=>by
  rcases (hmem x).1 hx with hx|rfl
  ·exact hs' x hx
  ·exact hin
 have hlq:=len hq hq2
 have hne:e.dst∉o':=fun hx=>hn (hr.2 hx)
 have hlen:o'.length+1<=q.length:=by
  have h1:(e.dst::o').Nodup:=List.nodup_cons.2 ⟨hne,j1a ho'⟩
  exact j7s h1 fun x hx=>(hmem x).2 (by rcases List.mem_cons.1 hx with rfl|hx<;>simp[*])
 have goal:Sml ([]++t').length/\Sml ([]++t'++[e.dst]).length/\InI (i+1)/\((0<=i+1/\i+1<=edges.length/\Asc q/\(∀x∈q,x∈edges.map Edg.dst)/\([]++t'++[e.dst]).length<=q.length/\2*(edges.length - q.length)+([]++t'++[e.dst]).length<2*(edges.length - o.length)+t.length)/\(edges.length - (i+1)).toNat<(edges.length - i).toNat):=
  ⟨by unfold Sml;simp;omega,by unfold Sml;simp;omega,by unfold InI;omega,⟨by omega,by omega,hq,hq2,by simp;omega,by simp;omega⟩,by omega⟩
 exact⟨goal,goal⟩
end Go.En
end
noncomputable section
set_option maxRecDepth 100000
namespace Go.En
open Go Go.Fl Go.Fl.Lk Go.Fx Go.Dg
theorem w0n{nodes:List ByteArray}{edges:List Edg}{K:List ByteArray->Prop}(hN:nodes.length<=100000)(hE:edges.length<=100000)(h: ∀r,Asc r->(∀x∈r,x∈nodes)->K r):Bv nodes edges K:=by
 unfold Bv q6c
 refine Lp2.ind (fun (o:List ByteArray) (i:Int)=>0<=i/\i<=nodes.length/\Asc o/\ ∀x∈o,x∈nodes) (fun _ (i:Int)=>(nodes.length - i).toNat) ?_ ⟨by omega,by omega,j7o,by simp⟩
 rintro o i ⟨i0,i1,ho,hs⟩ _
 have hlo:=j7u ho hs
 refine Cnd.mk (fun hc=>⟨by omega,fun n hn=>⟨by omega,fun m hm=>w3a hE fun q _ _=>z2m fun r _=>Cnd.mk (fun _=>⟨by omega,fun p hp=>z60 ho (by omega) fun o' ho' hmem=>⟨by unfold InI;omega,⟨by omega,by omega,ho',fun x hx=> ?_⟩,by omega⟩⟩) fun _=>⟨by unfold InI;omega,⟨by omega,by omega,ho,hs⟩,by omega⟩⟩⟩) fun _=>h o ho hs
 rcases (hmem x).1 hx with hx|rfl
 ·exact hs x hx
 ·exact getm hp
theorem q7q{nodes:List ByteArray}{edges:List Edg}{K:ByteArray->Bool->Prop}(hN:nodes.length<=100000)(hE:edges.length<=100000)(hs: ∀x∈nodes,x.size<=100)(h: ∀s b,s.size<=100->K s b):Z5 nodes edges K:=by
 unfold Z5 q6e
 exact w0n hN hE fun r _ hr _=>Cnd.mk (fun _=>h _ _ sz0) fun hc=>⟨by omega,fun y hy=>h _ _ (hs y (hr y (getm hy)))⟩
theorem j7v: ∀(n:Nat) {l:List ByteArray} {e:Ex} {K:List ByteArray->Prop},ExS n e->Asc l->l.length+lim n<=1000000->(∀r,Asc r->r.length<=l.length+lim n->K r)->Vb l e K:=by
 intro n l e K he hl hB h X hX
 induction n using Nat.strongRecOn generalizing l e K with
 |_ n ih=>
 refine hX _ _ _ ?_
 unfold Hu
 have lp:1<=lim n:=by cases n<;>simp[lim]
 refine Jn1.mk (fun r=>Asc r/\r.length<=l.length+1) (Cnd.mk (fun _=>z60 hl (by omega) fun r hr hmem=>⟨hr,?_⟩) fun _=>⟨hl,by omega⟩) fun r hr=> ?_
 ·have:=j7u hr (m:=e.3::l) fun x hx=>by rcases (hmem x).1 hx with hx|rfl<;>simp[*]
  simpa using this
 ·obtain⟨hr,hlen⟩:=hr
  have hk:=he.kids
  cases n with
  |zero=>
   have hk0:e.kids=[]:=he.2.2.2
   refine Lp2.ind (fun (q:List ByteArray) (i:Int)=>q=r/\0<=i) (fun _ _=>0) ?_ ⟨rfl,by omega⟩
   rintro q i ⟨rfl,i0⟩ _
   refine Cnd.mk (fun hc=> ?_) fun _=>h _ hr (by simp[lim];omega)
   rw[hk0]
   exact⟨by rw[hk0] at hc;simp at hc;omega,fun y hy=>by simp at hy⟩
  |succ n=>
  refine Lp2.ind (fun (q:List ByteArray) (i:Int)=>0<=i/\i<=e.kids.length/\Asc q/\q.length<=r.length+i.toNat*lim n) (fun _ (i:Int)=>(e.kids.length - i).toNat) ?_ ⟨by omega,by omega,hr,by simp⟩
  rintro q i ⟨i0,i1,hq,hql⟩ _
  have hle:i.toNat*lim n<=3*lim n:=Nat.mul_le_mul_right _ (by omega)
  have hB:l.length+(1+3*lim n)<=1000000:=hB
  refine Cnd.mk (fun hc=>⟨by omega,fun y hy=> ?_⟩) fun _=>h _ hq (by show q.length<=l.length+(1+3*lim n);omega)
  obtain⟨m,hm,hk⟩:=he.kid (getm hy)
  obtain rfl:m=n:=by omega
  rw[Wg]
  have hle2:i.toNat*lim m<=2*lim m:=Nat.mul_le_mul_right _ (by omega)
  refine ih m (by omega) hk hq (by omega) fun s hs hsl=>⟨by unfold InI;omega,⟨by omega,by omega,hs,?_⟩,by omega⟩
  rw[show (i+1).toNat=i.toNat+1 by omega,Nat.add_mul,Nat.one_mul];omega
theorem j7w{e:Ex}{K:List ByteArray->Prop}(he:ExS 4 e)(h: ∀r,Asc r->r.length<=121->K r):q0c e K:=by
 unfold q0c q7e
 rw[Wg]
 exact j7v 4 he j7o (by decide) fun r hr hl=>h r hr (by rw[lim4] at hl;simpa using hl)
theorem z9k{l:List Seg}{K:List Edg->Prop}(hl:l.length<=100)(hs: ∀g∈l,SegS g)(h: ∀r,r.length<=100000->K r):Vk l K:=by
 unfold Vk q9z
 refine Lp2.ind (fun (r:List Edg) (i:Int)=>0<=i/\i<=l.length/\r.length<=i.toNat*121) (fun _ (i:Int)=>(l.length - i).toNat) ?_ ⟨by omega,by omega,by simp⟩
 rintro r i ⟨i0,i1,hr⟩ _
 refine Cnd.mk (fun hc=>⟨by omega,fun g hg=> ?_⟩) fun _=>h _ (by omega)
 dsimp only;rw[Wg]
 refine j7w (hs g (getm hg)).cond fun q _ hq=> ?_
 refine Lp2.ind (fun (p:List Edg) (j:Int)=>0<=j/\j<=q.length/\p.length<=r.length+j.toNat) (fun _ (j:Int)=>(q.length - j).toNat) ?_ ⟨by omega,by omega,by simp⟩
 rintro p j ⟨j0,j1,hp⟩ _
 exact Cnd.mk (fun hc=>⟨by omega,fun _ _=>⟨by omega,fun _ _=>⟨by unfold Sml;simp;omega,by unfold InI;omega,⟨by omega,by omega,by simp;omega⟩,by omega⟩⟩⟩) fun _=>⟨by unfold InI;omega,⟨by omega,by omega,by omega⟩,by omega⟩
theorem j50{l:List Decl}{kind name:ByteArray}{K:Int->Prop}(h: ∀r,K r):Uq l kind name K:=by
 unfold Uq
 refine Lp1.ind (fun (i:Int)=>0<=i/\i<=l.length) (fun (i:Int)=>(l.length - i).toNat) ?_ ⟨by omega,by omega⟩
 rintro i ⟨i0,i1⟩
 (repeat' (first|exact h _|assumption|(unfold InI;omega)|omega|refine Cnd.mk (fun _=> ?_) fun _=> ?_|refine⟨?_,?_⟩|intro _))
theorem z3u: ∀(n:Nat) {l:List Decl} {segs:List ByteArray} {e:Ex} {K:Int->Prop},ExS n e->(∀r,K r)->V6 l segs e K:=by
 intro n l segs e K he h X hX
 induction n using Nat.strongRecOn generalizing e K with
 |_ n ih=>
 refine hX _ _ _ _ ?_
 unfold q59
 have lp:Lp1 (fun (Qc:Int) q4m=>e.5.length<=(9223372036854775807:Nat)->Cnd (Qc<(↑e.5.length:Int)) (((0:Int)<=Qc/\Qc<(↑e.5.length:Int))/\ ∀y2,e.5[Qc.toNat]? =some y2->X l segs (Ex.mk y2.1 y2.2 y2.3 y2.4 y2.5) fun Qy=>Cnd (Qy=(0:Int)) (InI (Qc+(1:Int))/\q4m (Qc+(1:Int))) (K Qy)) (K (0:Int))) (0:Int):=by
  refine Lp1.ind (fun (i:Int)=>0<=i/\i<=e.kids.length) (fun (i:Int)=>(e.kids.length - i).toNat) ?_ ⟨by omega,by omega⟩
  rintro i ⟨i0,i1⟩ _
  refine Cnd.mk (fun hc=>⟨by omega,fun y hy=> ?_⟩) fun _=>h _
  obtain⟨m,hm,hk⟩:=he.kid (getm hy)
  rw[Wg]
  exact ih m (by omega) hk fun r=>Cnd.mk (fun _=>⟨by unfold InI;omega,⟨by omega,by omega⟩,by omega⟩) fun _=>h _
 have jn:Jn0 (Lp1 (fun (Qc:Int) q4m=>e.5.length<=(9223372036854775807:Nat)->Cnd (Qc<(↑e.5.length:Int)) (((0:Int)<=Qc/\Qc<(↑e.5.length:Int))/\ ∀y2,e.5[Qc.toNat]? =some y2->X l segs (Ex.mk y2.1 y2.2 y2.3 y2.4 y2.5) fun Qy=>Cnd (Qy=(0:Int)) (InI (Qc+(1:Int))/\q4m (Qc+(1:Int))) (K Qy)) (K (0:Int))) (0:Int)) fun Qc=>Zl e.1 fun Qd=>Cnd (Qd=true) (Uq l e.2 e.3 fun Qt=>Cnd (Qt=(0:Int)) (K (11:Int)) (Gv Qt (Ex.mk e.1 e.2 e.3 e.4 e.5) fun Za=>Cnd (Za=true) Qc (K (8:Int)))) Qc:=
  ⟨True,fun _=>lp,q32 fun _ _=>Cnd.mk (fun _=>j50 fun _=>Cnd.mk (fun _=>h _) fun _=>w6i fun _=>Cnd.mk (fun _=>trivial) fun _=>h _) fun _=>trivial⟩
 exact Cnd.mk (fun _=>z2m fun _ _=>Cnd.mk (fun _=>jn) fun _=>h _) fun _=>jn
theorem z5k{l:List Decl}{s:Srv}{K:Int->Prop}(h: ∀r,K r):q0f l s K:=by
 unfold q0f z3o
 (repeat' (first|exact h _|refine j50 fun _=> ?_|assumption|(unfold InI;omega)|omega|refine Cnd.mk (fun _=> ?_) fun _=> ?_|refine⟨?_,?_⟩|intro _))
theorem j0a{v:Envt}{f:Flg}{K:Int->Prop}(hv:EnvS v)(hf:FlgS f)(h: ∀r,K r):Ur v f K:=by
 unfold Ur q06
 have ev:Envt.mk (Sett.mk v.1.1 v.1.2 v.1.3) v.2 v.3 v.4 v.5 v.6=v:=rfl
 rw[ev]
 have hsl:=hv.slen
 have hrl:=hf.rlen
 refine q2y (by omega) ?_
 refine Lp2.ind (fun (i:Int) (_:List ByteArray)=>0<=i/\i<=f.needs.length) (fun (i:Int) _=>(f.needs.length - i).toNat) ?_ ⟨by omega,by omega⟩
 rintro i ks ⟨i0,i1⟩ _
 refine Cnd.mk (fun hc=>⟨by omega,fun q hq=>q5a fun r hr=>Cnd.mk (fun _=>h _) fun hn=>⟨by omega,fun q hq=>⟨?_,fun g hg _=>Cnd.mk (fun _=>h _) fun _=>⟨by unfold InI;omega,⟨by omega,by omega⟩,by omega⟩⟩⟩⟩) fun _=> ?_
 ·rcases hr with ⟨a,_⟩|⟨a,b,_⟩<;>omega
 refine Lp2.ind (fun (i:Int) (_:List ByteArray)=>0<=i/\i<=f.rules.length) (fun (i:Int) _=>(f.rules.length - i).toNat) ?_ ⟨by omega,by omega⟩
 rintro i ks ⟨i0,i1⟩ _
 refine Cnd.mk (fun hc=>⟨by omega,fun r hr=> ?_⟩) fun _=> ?_
 ·dsimp only;rw[Wg]
  exact z3u 4 (hf.rules r (getm hr)).cond fun _=>Cnd.mk (fun _=>⟨by omega,fun r hr=>z5k fun _=>Cnd.mk (fun _=>⟨by unfold InI;omega,⟨by omega,by omega⟩,by omega⟩) fun _=>h _⟩) fun _=>h _
 ·exact z5k fun _=>Cnd.mk (fun _=>q1s (by omega) (fun r hr=>(hf.rules r hr).cond) fun o n b ho=>Cnd.mk (fun _ _=>Cnd.mk (fun _=>h _) fun _=>h _) fun _=>h _) fun _=>h _
theorem z07{v:Envt}{i:Int}{K:Int->Prop}(hv:EnvS v)(i0:0<=i)(i1:i<v.experiments.length)(h: ∀r,K r):Jy v i K:=by
 unfold Jy V7
 have ev:Envt.mk (Sett.mk v.1.1 v.1.2 v.1.3) v.2 v.3 v.4 v.5 v.6=v:=rfl
 rw[ev]
 have hsl:=hv.slen
 have hxl:=hv.xlen
 refine⟨⟨i0,i1⟩,fun x hx=>q3h fun k hk=>q5a fun g hg=>Cnd.mk (fun _=>h _) fun hk0=>Cnd.mk (fun _=>h _) fun hg0=> ?_⟩
 have hX:=hv.exps x (getm hx)
 have kb:0<=k/\k<(v.layers.length:Int):=by rcases hk with ⟨a,_⟩|⟨a,b,_⟩<;>omega
 have gb:0<=g/\g<(v.flags.length:Int):=by rcases hg with ⟨a,_⟩|⟨a,b,_⟩<;>omega
 refine Lp1.ind (fun (j:Int)=>0<=j/\j<=x.arms.length) (fun (j:Int)=>(x.arms.length - j).toNat) ?_ ⟨by omega,by omega⟩
 rintro j ⟨j0,j1⟩ _
 refine Cnd.mk (fun hc=>⟨by omega,fun _ _=>⟨gb,fun _ _ _=>Cnd.mk (fun _=>h _) fun _=>⟨by unfold InI;omega,⟨by omega,by omega⟩,by omega⟩⟩⟩) fun _=> ?_
 refine q2y (by omega) ?_
 rw[Wg]
 refine z3u 4 hX.cond fun _=>Cnd.mk (fun _=>Cnd.mk (fun _=>h _) fun _=>⟨kb,fun l hl=> ?_⟩) fun _=>h _
 refine Lp3.ind (fun (t:List Spn) (j:Int) (_:List ByteArray)=>0<=j/\j<=v.experiments.length/\(t.length:Int)<=1+j*10000) (fun _ (j:Int) _=>(v.experiments.length - j).toNat) ?_ ⟨by omega,by omega,by simp⟩
 rintro t j ks ⟨j0,j1,ht⟩
 refine Cnd.mk (fun hc=>⟨by omega,fun y hy=> ?_⟩) fun _=>j7m fun c _ _=>Cnd.mk (fun _=>h _) fun _=> ?_
 ·have hcl:=(hv.exps y (getm hy)).claims.len
  exact Cnd.mk (fun _=>Cnd.mk (fun _=>⟨by unfold InI;omega,⟨by omega,by omega,by omega⟩,by omega⟩) fun _=>⟨by unfold Sml;simp;omega,by unfold InI;omega,⟨by omega,by omega,by simp;omega⟩,by omega⟩) fun _=>⟨by unfold InI;omega,⟨by omega,by omega,by omega⟩,by omega⟩
 ·refine Lp4.ind (fun (j:Int) (_ _:List Spn) (_:List ByteArray)=>0<=j/\j<=v.experiments.length) (fun (j:Int) _ _ _=>(v.experiments.length - j).toNat) ?_ ⟨by omega,by omega⟩
  rintro j a b c ⟨j0,j1⟩
  (repeat' (first|exact h _|assumption|(unfold InI;omega)|omega|refine Cnd.mk (fun _=> ?_) fun _=> ?_|refine⟨?_,?_⟩|intro _))
theorem z63{v:Envt}{K:ByteArray->Int->Prop}(hv:EnvS v)(h: ∀s r,K s r):Ve v K:=by
 unfold Ve Rj
 have hsl:=hv.slen
 have hfl:=hv.flen
 have hxl:=hv.xlen
 have ev:Envt.mk (Sett.mk v.1.1 v.1.2 v.1.3) v.2 v.3 v.4 v.5 v.6=v:=rfl
 rw[ev]
 have s8:(ByteArray.mk (Array.mk [115,101,103,109,101,110,116,32])).size=8:=rfl
 have s5:(ByteArray.mk (Array.mk [102,108,97,103,32])).size=5:=rfl
 have s11:(ByteArray.mk (Array.mk [101,120,112,101,114,105,109,101,110,116,32])).size=11:=rfl
 have sk: ∀x∈v.segments.map Seg.key,x.size<=100:=fun x hx=>by obtain⟨g,hg,rfl⟩:=List.mem_map.1 hx;exact (hv.segs g hg).key
 have fk: ∀x∈v.flags.map Flg.key,x.size<=100:=fun x hx=>by obtain⟨g,hg,rfl⟩:=List.mem_map.1 hx;exact (hv.flags g hg).key
 have nlen:(v.flags.flatMap q2z).length<=4*v.flags.length:=by
  have: ∀l:List Flg,(∀f∈l,FlgS f)->(l.flatMap q2z).length<=4*l.length:=by
   intro l
   induction l with
   |nil=>simp
   |cons f l ih=>intro hf;have h1:=(hf f (by simp)).nlen;have h2:=ih fun g hg=>hf g (by simp[hg]);simp only[List.flatMap_cons,List.length_append,q2z,List.length_map,List.length_cons] at*;omega
  exact this _ hv.flags
 refine z8u hv fun _=>Cnd.mk (fun _=>q2y (by omega) ?_) fun _=>h _ _
 refine Lp2.ind (fun (i:Int) (ks:List ByteArray)=>0<=i/\i<=v.segments.length/\ks=v.segments.map Seg.key) (fun (i:Int) _=>(v.segments.length - i).toNat) ?_ ⟨by omega,by omega,rfl⟩
 rintro i ks ⟨i0,i1,rfl⟩ _
 refine Cnd.mk (fun hc=>⟨by omega,fun g hg=>Cnd.mk (fun _=>⟨by unfold InI;omega,⟨by omega,by omega,rfl⟩,by omega⟩) fun _=>⟨by omega,fun g hg=> ?_⟩⟩) fun _=> ?_
 ·dsimp only;rw[Wg]
  refine z3u 4 (hv.segs g (getm hg)).cond fun _=>Cnd.mk (fun _=>⟨by unfold InI;omega,⟨by omega,by omega,rfl⟩,by omega⟩) fun _=>⟨by omega,fun g hg=>⟨?_,h _ _⟩⟩
  have:=(hv.segs g (getm hg)).key
  rw[s8];omega
 refine z9k (by omega) hv.segs fun es hes=>q7q (by simp;omega) hes sk fun s b hs=>Cnd.mk (fun _=>⟨by rw[s8];omega,h _ _⟩) fun _=> ?_
 refine Lp3.ind (fun (i:Int) (_:List ByteArray) (_:List Edg)=>0<=i/\i<=v.flags.length) (fun (i:Int) _ _=>(v.flags.length - i).toNat) ?_ ⟨by omega,by omega⟩
 rintro i ks es ⟨i0,i1⟩ _
 refine Cnd.mk (fun hc=>⟨by omega,fun f hf=>j0a hv (hv.flags f (getm hf)) fun _=>Cnd.mk (fun _=>⟨by unfold InI;omega,⟨by omega,by omega⟩,by omega⟩) fun _=>⟨by omega,fun g hg=>⟨?_,h _ _⟩⟩⟩) fun _=> ?_
 ·have:=(hv.flags g (getm hg)).key
  rw[s5];omega
 refine z2o (by omega) (z03 (by omega) (fun f hf=>by have:=(hv.flags f hf).nlen;omega) (q7q (by simp;omega) (by omega) fk fun s b hs=>Cnd.mk (fun _=>⟨by rw[s5];omega,h _ _⟩) fun _=> ?_))
 refine Lp5.ind (fun (i:Int) (_:List ByteArray) (_ _:List Edg) (_:List ByteArray)=>0<=i/\i<=v.experiments.length) (fun (i:Int) _ _ _ _=>(v.experiments.length - i).toNat) ?_ ⟨by omega,by omega⟩
 rintro i a b c d ⟨i0,i1⟩ _
 refine Cnd.mk (fun hc=>z07 hv i0 hc fun _=>Cnd.mk (fun _=>⟨by unfold InI;omega,⟨by omega,by omega⟩,by omega⟩) fun _=>⟨by omega,fun x hx=>⟨?_,h _ _⟩⟩) fun _=>h _ _
 have:=(hv.exps x (getm hx)).key
 rw[s11];omega
theorem w0o{v:Envt}{K:Bool->Prop}(hv:EnvS v)(h: ∀r,K r):Gb v K:=by
 unfold Gb q90
 exact z63 hv fun _ _=>h _
end Go.En
end
noncomputable section
set_option maxRecDepth 100000
namespace Go.En
open Go Go.Fl Go.Fl.Lk Go.Fx Go.Sg
def sgK:List ByteArray:=[ByteArray.mk (Array.mk [97,108,112,104,97]),ByteArray.mk (Array.mk [98,101,116,97]),ByteArray.mk (Array.mk [103,97,109,109,97])]
structure GS(l:List Seg):Prop where
 keys:l.map Seg.key=sgK.take l.length
 cond: ∀(i:Nat) g,l[i]? =some g->DrE (sgK.take i) 20000 g.5
theorem DrE.le{segs:List ByteArray}{a b:Nat}{e:Ex}(h:DrE segs a e)(hab:a<=b):DrE segs b e:=⟨Nat.le_trans h.wt hab,h.nms,h.ev⟩
theorem DrE.eta{segs:List ByteArray}{w:Nat}{e:Ex}(h:DrE segs w e):DrE segs w (Ex.mk e.1 e.2 e.3 e.4 e.5):=by rw[Wg];exact h
theorem v4v:GS []:=⟨rfl,by simp⟩
theorem v3i{segs:List ByteArray}:DrE segs 20000 (Ex.mk 0 (ByteArray.mk (Array.mk [])) (ByteArray.mk (Array.mk [])) [] []):=
 ⟨by simp[wt,wtV,wtL],fun x hx=>by rw[j5w] at hx;rcases hx with ⟨h,_⟩|⟨k,hk,_⟩<;>simp at*,EvB.mk' (by simp) (by simp)⟩
theorem j7x{list:List Int}{at_ hold:Int}{salt hkind:ByteArray}{attrs:List Decl}{flags:List Flg}{layers:List Lay_}{expers:List Exper}
  {K:Int->ByteArray->ByteArray->Int->List Decl->List Seg->List Flg->List Lay_->List Exper->Prop}(hD:DS list at_)
  (h: ∀a segs,DS list a->segs.length<=3->(∀g∈segs,SegS g)->GS segs->K a salt hkind hold attrs segs flags layers expers):q7a list at_ salt hkind hold attrs [] flags layers expers K:=by
 unfold q7a z1m
 refine Qh hD (by decide) fun n a n0 n1 hD=>z6z n0 (by simp only[List.length_cons,List.length_nil];omega) ?_
 rw[show ([ByteArray.mk (Array.mk [97,108,112,104,97]),ByteArray.mk (Array.mk [98,101,116,97]),ByteArray.mk (Array.mk [103,97,109,109,97])]:List ByteArray)=sgK from rfl]
 have nms: ∀s∈List.take n.toNat sgK,s.size<=100:=fun s hs=>by
  have:=List.mem_of_mem_take hs
  have k: ∀s∈sgK,s.size<=100:=by decide
  exact k s this
 have hlen:(List.take n.toNat sgK).length<=3:=by
  rw[List.length_take];have:sgK.length=3:=rfl;omega
 have hfst: ∀i,i<=(List.take n.toNat sgK).length->(List.take n.toNat sgK).take i=sgK.take i:=fun i hi=>by
  rw[List.take_take,Nat.min_eq_left]
  rw[List.length_take] at hi;omega
 generalize List.take n.toNat _=l at nms hlen hfst
 refine Lp3.ind (fun (i a:Int) (gs:List Seg)=>DS list a/\0<=i/\i<=l.length/\(gs.length:Int)=i/\(∀g∈gs,SegS g)/\GS gs) (fun (i:Int) _ _=>(3 - i).toNat) ?_ ⟨hD,Int.le_refl 0,by omega,rfl,by simp,v4v⟩
 rintro i a gs ⟨hD,i0,i1,hl,hg,hgs⟩ _
 refine Cnd.mk (fun hc=>⟨by omega,fun y hy=>j3a hD fun inc a hi1 _ hD=>j3a hD fun exc a he1 _ hD=> ?_⟩) fun _=>h _ _ hD (by omega) hg hgs
 refine Jn2.mk (fun k a=>k.size<=100/\DS list a) (Qh hD (by decide) fun r a r0 r1 hD=>Cnd.mk (fun _=>⟨by decide,hD⟩) fun _=>⟨by decide,hD⟩) fun kind a hx=> ?_
 obtain⟨hkd,hD⟩:=hx
 refine Jn1.mk (fun x=>(ExS 4 (Ex.mk x.1 x.2.1 x.2.2.1 x.2.2.2.1 x.2.2.2.2.1)/\DrE (l.take i.toNat) 20000 (Ex.mk x.1 x.2.1 x.2.2.1 x.2.2.2.1 x.2.2.2.2.1))/\DS list x.2.2.2.2.2.1) (Qh hD (by decide) fun r a r0 r1 hD=>Cnd.mk (fun _=>⟨by omega,?_⟩) fun _=>⟨⟨ExS.le (n:=0) ⟨.nil,⟨sz0,sz0⟩,opl (by simp),rfl⟩ (by omega),v3i⟩,hD⟩) fun x hx=> ?_
 ·exact z8r ((w24 fun s hs=>nms s (List.mem_of_mem_take (List.mem_of_mem_drop hs))).and v0e) 2 (by omega) (by decide) (by decide) hD fun e a he hD=>⟨⟨he.1.eta,(he.2.le (by decide)).eta⟩,hD⟩
 ·have hk:l[i.toNat]? =some y:=hy
  refine⟨by unfold Sml;simp;omega,by unfold InI;omega,⟨hx.2,by omega,by omega,by simp;omega,W9 hg ⟨nms _ (getm hy),hkd,hi1,he1,hx.1.1⟩,?_,fun j g hj=> ?_⟩,by omega⟩
  ·rw[List.map_append,hgs.keys,List.length_append,List.length_singleton,←hfst _ (by omega),←hfst _ (by omega),List.take_add_one,show l[gs.length]? =some y by rw[←hk];congr 1;omega]
   rfl
  ·rcases Nat.lt_or_ge j gs.length with hlt|hge
   ·rw[List.getElem?_append_left hlt] at hj;exact hgs.cond j g hj
   ·rw[List.getElem?_append_right hge] at hj
    have hj0:j=gs.length:=by
     rcases Nat.eq_zero_or_pos (j - gs.length) with h0|h0
     ·omega
     ·rw[List.getElem?_eq_none (by simp;omega)] at hj;cases hj
    subst hj0
    simp only[Nat.sub_self,List.getElem?_cons_zero,Option.some.injEq] at hj
    subst hj
    rw[←hfst _ (by omega),show gs.length=i.toNat by omega]
    exact hx.1.2
end Go.En
end
noncomputable section
set_option maxRecDepth 100000
namespace Go.En
open Go Go.Fl Go.Fl.Lk Go.Fx Go.Dg
theorem j7y{l:List ByteArray}{n:Nat}{p:ByteArray->Prop}(h: ∀x∈l,p x): ∀x∈l.take n,p x:=fun x hx=>h x (List.mem_of_mem_take hx)
theorem w6p{ds:List Decl}(hd: ∀d∈ds,d.kind.size<=100/\d.name.size<=100):EnvS (Envt.mk (Sett.mk (ByteArray.mk (Array.mk [])) (ByteArray.mk (Array.mk [])) 0) ds [] [] [] []):=
 ⟨sz0,hd,by simp,by simp,by simp,by simp,by simp,by simp,by simp,by simp⟩
theorem y1f:ExS 4 (Ex.mk 1 (ByteArray.mk (Array.mk [])) (ByteArray.mk (Array.mk [])) [] []):=ExS.le (n:=0) ⟨VsS.nil,⟨sz0,sz0⟩,opl (by simp),rfl⟩ (by decide)
end Go.En
end
noncomputable section
set_option maxRecDepth 100000
namespace Go.En
open Go Go.Fl Go.Fl.Lk Go.Fx Go.Dg
def Cov(l:List Rng):Prop:= ∀b:Int,0<=b->b<10000-> ∃r∈l,r.1<=b/\b<r.2
theorem z9l{list:List Int}{at_ n:Int}{K:List Rng->Int->Prop}(hD:DS list at_)(hn:1<=n)(hn':n<=100)(h: ∀l a,SplS n l->Cov l->DS list a->K l a):z1n list at_ n K:=by
 unfold z1n j11
 have cv1: ∀{l:List Rng} {x y z:Int},(∀b:Int,0<=b->b<x-> ∃r∈l,r.1<=b/\b<r.2)-> ∀b:Int,0<=b->b<y-> ∃r∈l++[Rng.mk x y z],r.1<=b/\b<r.2:=fun {l x y z} hc b h0 h1=>by
  by_cases hb:b<x
  ·obtain⟨r,hr,hh⟩:=hc b h0 hb
   exact⟨r,List.mem_append_left _ hr,hh⟩
  ·exact⟨_,List.mem_append_right _ List.mem_cons_self,by simp only;omega,h1⟩
 refine Jn4.mk (fun l at_ last a=>DS list a/\l.length<=3/\0<=at_/\(∀b:Int,0<=b->b<at_-> ∃r∈l,r.1<=b/\b<r.2)/\ ∀r∈l,0<=r.lo/\r.hi<=10000/\1<=r.variation/\r.variation<=n) ?_ ?_
 ·refine Lp5.ind (fun l at_ last i a=>DS list a/\0<=i/\i<=3/\(l.length:Int)=i/\0<=at_/\at_<=10000/\0<=last/\last<=n/\(∀b:Int,0<=b->b<at_-> ∃r∈l,r.1<=b/\b<r.2)/\ ∀r∈l,0<=r.lo/\r.hi<=10000/\1<=r.variation/\r.variation<=n) (fun _ _ _ i _=>(3 - i).toNat) ?_ ⟨hD,by omega,by omega,rfl,by omega,by omega,by omega,by omega,fun b h0 h1=>by omega,by simp⟩
  rintro l at_ last i a ⟨hD,i0,i1,hl,a0,a1,l0,l1,hcv,hr⟩
  refine Qh hD (by decide) fun q a q0 q1 hD=>Cnd.mk (fun _=>Cnd.mk (fun _=>⟨by unfold InI;omega,q31 hD (by decide) fun w a w0 w1 hD=>⟨by unfold InI;omega,Qh hD hn fun v a v0 v1 hD=>⟨by unfold InI;omega,?_⟩⟩⟩) fun _=> ?_) fun _=> ?_
  ·have m0:=Int.tmod_nonneg n (show 0<=1+v by omega);have m1:=Int.tmod_lt_of_pos (1+v) (b:=n) (by omega)
   refine Jn1.mk (fun v=>1<=v/\v<=n) (Cnd.mk (fun _=>⟨by omega,by unfold InI;omega,by omega,by omega⟩) fun _=>⟨by omega,by omega⟩) fun v hv=>Cnd.mk (fun _=>⟨hD,by omega,a0,hcv,hr⟩) fun _=> ?_
   exact⟨by unfold Sml;simp;omega,by unfold InI;omega,⟨hD,by omega,by omega,by simp;omega,by omega,by omega,by omega,by omega,cv1 hcv,W9 hr ⟨by simp only;omega,by simp only;omega,by simp only;omega,by simp only;omega⟩⟩,by omega⟩
  ·exact⟨hD,by omega,a0,hcv,hr⟩
  ·exact⟨hD,by omega,a0,hcv,hr⟩
 ·rintro l at_ last a ⟨hD,hl,a0,hcv,hr⟩
  refine Qh hD hn fun v a v0 v1 hD=>⟨by unfold InI;omega,?_⟩
  have m0:=Int.tmod_nonneg n (show 0<=1+v by omega);have m1:=Int.tmod_lt_of_pos (1+v) (b:=n) (by omega)
  refine Jn1.mk (fun v=>1<=v/\v<=n) (Cnd.mk (fun _=>⟨by omega,by unfold InI;omega,by omega,by omega⟩) fun _=>⟨by omega,by omega⟩) fun v hv=> ?_
  exact⟨by unfold Sml;simp;omega,h _ _ ⟨by simp;omega,W9 hr ⟨a0,by simp,hv.1,hv.2⟩⟩ (cv1 hcv) hD⟩
structure SrvD(n:Int)(s:Srv):Prop where
 ok:SrvS n s
 cov:s.variation=0->Cov s.split
theorem z9m{list:List Int}{at_ n:Int}{K:Srv->Int->Prop}(hD:DS list at_)(hn:1<=n)(hn':n<=100)(h: ∀s a,SrvD n s->DS list a->K s a):z58 list at_ n K:=by
 unfold z58 j12
 have tt: ∀s∈z52,s.size<=100:=by decide
 have key:(ByteArray.mk (Array.mk [107,101,121])).size<=100:=by decide
 refine Qh hD (by decide) fun r a r0 r1 hD=>Cnd.mk (fun _=>Qh hD hn fun v a v0 v1 hD=>⟨by unfold InI;omega,h _ _ ⟨⟨sz0,⟨by simp only;omega,by simp only;omega⟩,⟨by simp,by simp⟩,sz0,sz0⟩,fun h0=>by simp only at h0;omega⟩ hD⟩) fun _=> ?_
 refine q88 hD fun t a ht hD=>z9l hD hn hn' fun l a hl hcv hD=>q49 fun ds _ hds=>Qh hD (by decide) fun q a q0 q1 hD _=> ?_
 have usr:(ByteArray.mk (Array.mk [117,115,101,114])).size<=100:=by decide
 have ok: ∀{k b:ByteArray},k.size<=100->b.size<=100->SrvD n (Srv.mk 0 k b t l):=fun hk hb=>⟨⟨hk,⟨by simp,by simp only;omega⟩,hl,hb,tt _ ht⟩,fun _=>hcv⟩
 refine Cnd.mk (fun _=>⟨by omega,fun y hy=>Cnd.mk (fun _=>h _ _ (ok usr key) hD) fun _=>⟨by omega,fun z hz=>⟨by omega,fun u hu=>h _ _ (ok (hds z (getm hz)).1 (hds u (getm hu)).2.1) hD⟩⟩⟩) fun _=>h _ _ (ok usr key) hD
theorem w0p{list:List Int}{at_ kind:Int}{K:Val->Int->Prop}(hk0:1<=kind)(hk1:kind<=5)(hD:DS list at_)(h: ∀r a,ValS r->r.kind=kind->DS list a->K r a):q0t list at_ kind K:=by
 unfold q0t z56
 have tt: ∀s∈z52,s.size<=100:=by decide
 have tv: ∀s∈z1l,s.size<=100:=by decide
 have tl: ∀l∈j1w,l.length<=10/\ ∀s∈l,s.size<=100:=by decide
 refine Cnd.mk (fun _=> ?_) fun _=>Cnd.mk (fun _=>fun _=> ?_) fun _=>Cnd.mk (fun _=> ?_) fun _=>Cnd.mk (fun _=> ?_) fun _=> ?_
 ·exact Qh hD (by decide) fun r a r0 r1 hD=>h _ _ ⟨by unfold InI;simp only;omega,sz0,by simp,by simp⟩ rfl hD
 ·refine Qh hD (by decide) fun r a r0 r1 hD=>⟨⟨r0,r1⟩,fun y hy=>h _ _ ⟨?_,sz0,by simp,by simp⟩ rfl hD⟩
  have:=getm hy
  have k: ∀y∈[(0:Int),(1:Int),(17:Int),(18:Int),(19:Int),(-5:Int),(64:Int),(1099511627776:Int),(-1099511627776:Int)], -9223372036854775808<=y/\y<=9223372036854775807:=by decide
  exact k y this
 ·exact q88 hD fun r a hr hD=>h _ _ ⟨by unfold InI;simp,tt _ hr,by simp,by simp⟩ rfl hD
 ·exact Qh hD (by decide) fun r a r0 r1 hD=>⟨⟨r0,r1⟩,fun y hy=>h _ _ ⟨by unfold InI;simp,tv _ (getm hy),by simp,by simp⟩ rfl hD⟩
 ·refine Qh hD (by decide) fun r a r0 r1 hD=>⟨⟨r0,r1⟩,fun y hy=> ?_⟩
  obtain⟨a1,a2⟩:=tl _ (getm hy)
  exact⟨by unfold Sml;simp;omega,h _ _ ⟨by unfold InI;simp,sz0,by simpa using a1,by simpa using a2⟩ (by simp only;omega) hD⟩
def flK:List ByteArray:=[ByteArray.mk (Array.mk [102,97]),ByteArray.mk (Array.mk [102,98]),ByteArray.mk (Array.mk [102,99]),ByteArray.mk (Array.mk [102,100])]
def lyK:List ByteArray:=[ByteArray.mk (Array.mk [108,97]),ByteArray.mk (Array.mk [108,98])]
def exK:List ByteArray:=[ByteArray.mk (Array.mk [120,97]),ByteArray.mk (Array.mk [120,98]),ByteArray.mk (Array.mk [120,99])]
structure RulD(n:Int)(r:Rul):Prop where
 cond:DrE sgK 20000 r.cond
 serve:SrvD n r.serve
structure FlgD(prev:List Flg)(f:Flg):Prop where
 kind:1<=f.kind/\f.kind<=5
 kinds: ∀v∈f.variations,v.kind=f.kind
 off:1<=f.off/\f.off<=f.variations.length
 needs: ∀q∈f.needs,∃g∈prev,q.flag=g.key/\1<=q.variation/\q.variation<=g.variations.length
 nsub:(f.needs.map Prq.flag).Sublist (prev.map Flg.key)
 tgts: ∀t∈f.targets,(1<=t.variation/\t.variation<=f.variations.length)/\t.keys.length<=3
 rules: ∀r∈f.rules,RulD f.variations.length r
 dflt:SrvD f.variations.length f.dflt
theorem v3j{l a:List ByteArray}{j:Nat}{k:ByteArray}(h:a.Sublist (l.take j))(hk:l[j]? =some k):(a++[k]).Sublist (l.take (j+1)):=by
 rw[List.take_add_one,hk];exact h.append (List.Sublist.refl _)
theorem v3k{l a:List ByteArray}{j:Nat}(h:a.Sublist (l.take j)):a.Sublist (l.take (j+1)):=by
 rw[List.take_add_one];exact h.trans (List.sublist_append_left _ _)
structure FlgsD(l:List Flg):Prop where
 keys:l.map Flg.key=flK.take l.length
 all: ∀(i:Nat) f,l[i]? =some f->FlgD (l.take i) f
structure ExpD(layers:List Lay_)(flags:List Flg)(x:Exper):Prop where
 cov:Cov x.arms
 cond:DrE sgK 20000 x.cond
 layer: ∃l∈layers,x.layer=l.key
 flag: ∃f∈flags,x.flag=f.key/\ ∀r∈x.arms,1<=r.variation/\r.variation<=f.variations.length
 salt:x.salt.size<=100
structure EnvD(v:Envt):Prop where
 salt:v.settings.salt.size<=100
 gs:GS v.segments
 flags:FlgsD v.flags
 layers:v.layers.map Lay_.key=lyK.take v.layers.length
 exps:(v.experiments.map Exper.key).Sublist exK
 exp: ∀x∈v.experiments,ExpD v.layers v.flags x
 al:v.attributes.length<=100
theorem w0q:FlgsD []:=⟨rfl,by simp⟩
theorem w6q{l:List Flg}{f:Flg}(h:FlgsD l)(hk:flK[l.length]? =some f.key)(hf:FlgD l f):FlgsD (l++[f]):=by
 refine⟨?_,fun i g hi=> ?_⟩
 ·rw[List.map_append,h.keys,List.length_append,List.length_singleton,List.take_add_one,hk];rfl
 ·rcases Nat.lt_or_ge i l.length with hlt|hge
  ·rw[List.getElem?_append_left hlt] at hi
   rw[List.take_append_of_le_length (by omega)]
   exact h.all i g hi
  ·have:=Qa hi
   rw[List.length_append,List.length_singleton] at this
   have e:i=l.length:=by omega
   subst e
   rw[List.getElem?_append_right (Nat.le_refl _),Nat.sub_self] at hi
   cases hi
   rw[List.take_left' rfl];exact hf
theorem v0l{a b:List ByteArray}{w:Nat}{e:Ex}(h:DrE a w e)(hs: ∀x∈a,x∈b):DrE b w e:=⟨h.wt,fun x hx=>hs x (h.nms x hx),h.ev⟩
theorem w6r{ds:List Decl}(hl:ds.length<=100):EnvD (Envt.mk (Sett.mk (ByteArray.mk (Array.mk [])) (ByteArray.mk (Array.mk [])) 0) ds [] [] [] []):=
 ⟨sz0,v4v,w0q,rfl,by simp,by simp,hl⟩
theorem v0m{l:List Seg}(h:GS l): ∀s∈l.map Seg.key,s∈sgK:=fun s hs=>by rw[h.keys] at hs;exact List.mem_of_mem_take hs
theorem v65:DrE sgK 20000 (Ex.mk 1 (ByteArray.mk (Array.mk [])) (ByteArray.mk (Array.mk [])) [] []):=
 ⟨by simp[wt,wtV,wtL],fun x hx=>by rw[j5w] at hx;rcases hx with ⟨h,_⟩|⟨k,hk,_⟩<;>simp at*,EvB.mk' (by simp) (by simp)⟩
theorem v0n{l:List ByteArray}{n i:Nat}{y:ByteArray}(h:(l.take n)[i]? =some y):l[i]? =some y:=by
 rw[List.getElem?_take] at h
 split at h
 ·exact h
 ·cases h
theorem z8w{V:Envt->Prop}(hV: ∀(v:Envt) (K:Bool->Prop),EnvS v->(∀b,(b=true->V v)->K b)->Gb v K)(hV0: ∀ds,V (Envt.mk (Sett.mk (ByteArray.mk (Array.mk [])) (ByteArray.mk (Array.mk [])) 0) ds [] [] [] []))
  {list:List Int}{at_ now:Int}{K:Envt->Int->Prop}(hD:DS list at_)(h: ∀v a,EnvS v->EnvD v->V v->DS list a->K v a):q09 list at_ now K:=by
 unfold q09 q6f
 have tt: ∀s∈z52,s.size<=100:=by decide
 refine q49 fun attrs hal had=> ?_
 have hat: ∀d∈attrs,d.kind.size<=100/\d.name.size<=100:=fun d hd=>⟨(had d hd).1,(had d hd).2.1⟩
 refine Jn1.mk (fun x=>(x.1.size<=100/\x.2.1.size<=100)/\DS list x.2.2.2.1/\x.2.2.2.2.1=attrs) (Qh hD (by decide) fun r a _ _ hD=>Cnd.mk (fun _=>q88 hD fun t a ht hD=>q31 hD (by decide) fun w a _ _ hD=>⟨⟨tt _ ht,(by decide:(ByteArray.mk (Array.mk [117,115,101,114])).size<=100)⟩,hD,rfl⟩) fun _=>⟨⟨sz0,sz0⟩,hD,rfl⟩) ?_
 rintro⟨salt,hkind,hold,a,ds,u⟩ ⟨⟨hslt,hhk⟩,hD,hds⟩
 simp only at hslt hhk hD hds⊢
 subst hds
 refine j7x hD fun a segs hD hsl hsegs hgs=>Qh hD (by decide) fun n a n0 n1 hD=>z6z n0 (by simp only[List.length_cons,List.length_nil];omega) ?_
 have fin: ∀{flags:List Flg} {layers:List Lay_} {exps:List Exper} {a:Int},DS list a->flags.length<=4->(∀f∈flags,FlgS f)->layers.length<=2->(∀l∈layers,LayS l)->exps.length<=3->(∀x∈exps,ExpS x)->FlgsD flags->layers.map Lay_.key=lyK.take layers.length->(exps.map Exper.key).Sublist exK->(∀x∈exps,ExpD layers flags x)->
   Gb (Envt.mk (Sett.mk salt hkind hold) ds segs flags layers exps) fun b=>Cnd (b=true) (K (Envt.mk (Sett.mk salt hkind hold) ds segs flags layers exps) a) (Hj fun ds=>K (Envt.mk (Sett.mk (ByteArray.mk (Array.mk [])) (ByteArray.mk (Array.mk [])) 0) ds [] [] [] []) a):=fun hD h1 h2 h3 h4 h5 h6 e1 e2 e3 e4=>by
  have hv:EnvS (Envt.mk (Sett.mk salt hkind hold) ds segs _ _ _):=⟨hhk,hat,hsl,hsegs,h1,h2,h3,h4,h5,h6⟩
  exact hV _ _ hv fun b hb=>Cnd.mk (fun ht=>h _ _ hv ⟨hslt,hgs,e1,e2,e3,e4,by show ds.length<=100;omega⟩ (hb ht) hD) fun _=>q49 fun ds hal2 had=>h _ _ (w6p fun d hd=>⟨(had d hd).1,(had d hd).2.1⟩) (w6r (by omega)) (hV0 ds) hD
 have nms: ∀s∈List.take n.toNat [ByteArray.mk (Array.mk [102,97]),ByteArray.mk (Array.mk [102,98]),ByteArray.mk (Array.mk [102,99]),ByteArray.mk (Array.mk [102,100])],s.size<=100:=j7y (by decide)
 have hlen:(List.take n.toNat [ByteArray.mk (Array.mk [102,97]),ByteArray.mk (Array.mk [102,98]),ByteArray.mk (Array.mk [102,99]),ByteArray.mk (Array.mk [102,100])]).length<=4:=by
  rw[List.length_take];simp only[List.length_cons,List.length_nil];omega
 have hget: ∀(i:Nat) y,(List.take n.toNat [ByteArray.mk (Array.mk [102,97]),ByteArray.mk (Array.mk [102,98]),ByteArray.mk (Array.mk [102,99]),ByteArray.mk (Array.mk [102,100])])[i]? =some y->flK[i]? =some y:=fun i y hy=>v0n hy
 generalize List.take n.toNat _=l at nms hlen hget
 refine LpH.ind (fun (x:Int×Int×List Flg×List Seg×List Lay_×List Exper×Unit)=>0<=x.1/\x.1<=(l.length:Int)/\DS list x.2.1/\(x.2.2.1.length:Int)=x.1/\(∀f∈x.2.2.1,FlgS f)/\FlgsD x.2.2.1/\x.2.2.2=(segs,[],[],())) (fun x=>((l.length:Int) - x.1).toNat) ?_ ⟨Int.le_refl 0,by simp,hD,rfl,by simp,w0q,rfl⟩
 rintro⟨i,a,flags,rest⟩ ⟨i0,i1,hD,hfl,hfs,hfd,hr⟩
 simp only at i0 i1 hD hfl hfs hfd hr⊢
 subst hr
 simp only
 intro _
 refine Cnd.mk (fun hc=>⟨by omega,fun key hkey=> ?_⟩) fun _=> ?_
 ·
  refine Qh hD (by decide) fun kind a k0 k1 hD=>⟨by unfold InI;omega,Qh hD (by decide) fun on a _ _ hD=>Qh hD (by decide) fun m a m0 m1 hD=>⟨by unfold InI;omega,?_⟩⟩
  refine LpH.ind (fun (x:Int×Int×List Val×List Exper×List Lay_×List Flg×List Seg×Unit)=>0<=x.1/\x.1<=1+m/\DS list x.2.1/\(x.2.2.1.length:Int)=x.1/\(∀v∈x.2.2.1,ValS v/\v.kind=1+kind)/\x.2.2.2=([],[],flags,segs,())) (fun x=>(1+m - x.1).toNat) ?_ ⟨Int.le_refl 0,by simp only;omega,hD,rfl,by simp,rfl⟩
  rintro⟨j,a,vals,rest⟩ ⟨j0,j1,hD,hvl,hvs,hr⟩
  simp only at j0 j1 hD hvl hvs hr⊢
  subst hr
  simp only
  refine Cnd.mk (fun hc=>w0p (by omega) (by omega) hD fun v a hv hvk hD=>⟨by unfold Sml;simp;omega,by unfold InI;omega,⟨by omega,by omega,hD,by simp;omega,W9 hvs ⟨hv,hvk⟩,trivial⟩,by omega⟩) fun hc=> ?_
  refine Qh hD (by omega) fun off a o0 o1 hD=>⟨by unfold InI;omega,?_⟩
  have hlv:vals.length=(1+m).toNat:=by omega
  refine LpH.ind (fun (x:Int×List Prq×Int×List Seg×List Flg×List Lay_×List Exper×List Val×Unit)=>0<=x.1/\x.1<=(flags.length:Int)/\((x.2.1.length:Int)<=x.1/\(x.2.1.map Prq.flag).Sublist ((flags.map Flg.key).take x.1.toNat))/\(∀q∈x.2.1,q.flag.size<=100/\ ∃g∈flags,q.flag=g.key/\1<=q.variation/\q.variation<=g.variations.length)/\DS list x.2.2.1/\x.2.2.2=(segs,flags,[],[],vals,())) (fun x=>((flags.length:Int) - x.1).toNat) ?_ ⟨Int.le_refl 0,by simp,⟨by simp,List.nil_sublist _⟩,by simp,hD,rfl⟩
  rintro⟨j,needs,a,rest⟩ ⟨j0,j1,⟨hnl,hsb⟩,hns,hD,hr⟩
  simp only at j0 j1 hnl hsb hns hD hr⊢
  have hj1:(j+1).toNat=j.toNat+1:=by omega
  subst hr
  simp only
  intro _
  refine Cnd.mk (fun hc=>Qh hD (by decide) fun q a _ _ hD=>Cnd.mk (fun _=>⟨by omega,fun y hy=>⟨by omega,fun z hz _=>Qh hD (by have:=(hfs z (getm hz)).vlen;omega) fun w a w0 w1 hD=> ?_⟩⟩) fun _=>⟨by unfold InI;omega,⟨by omega,by omega,⟨by omega,by rw[hj1];exact v3k hsb⟩,hns,hD,trivial⟩,by omega⟩) fun _=> ?_
  ·have:=(hfs z (getm hz)).vlen
   exact⟨by unfold InI;omega,by unfold Sml;simp;omega,by unfold InI;omega,⟨by omega,by omega,⟨by simp;omega,by rw[hj1,List.map_append];exact v3j hsb (by rw[List.getElem?_map,hy];rfl)⟩,W9 hns ⟨(hfs y (getm hy)).key,z,getm hz,by rw[hy] at hz;rw[Option.some.inj hz],by simp only;omega,by simp only;omega⟩,hD,trivial⟩,by omega⟩
  have hnl4:needs.length<=4:=by omega
  have hsb:=hsb.trans (List.take_sublist _ _)
  refine LpH.ind (fun (x:Int×List Tgt×Int×List Val×List Exper×List Lay_×List Flg×List Seg×List Prq×Unit)=>0<=x.1/\x.1<=3/\(x.2.1.length:Int)<=x.1/\(∀t∈x.2.1,t.kind.size<=100/\(1<=t.variation/\t.variation<=1+m)/\t.keys.length<=3)/\DS list x.2.2.1/\x.2.2.2=(vals,[],[],flags,segs,needs,())) (fun x=>(3 - x.1).toNat) ?_ ⟨Int.le_refl 0,by simp,by simp,by simp,hD,rfl⟩
  rintro⟨j,tgts,a,rest⟩ ⟨j0,j1,htl,hts,hD,hr⟩
  simp only at j0 j1 htl hts hD hr⊢
  subst hr
  simp only
  refine Qh hD (by decide) fun q a q0 q1 hD=>Cnd.mk (fun hc=>Qh hD (by omega) fun w a w0 w1 hD=>⟨by unfold InI;omega,j3a hD fun ks a hks _ hD=> ?_⟩) fun _=> ?_
  ·refine Jn1.mk (fun x=>x.1.size<=100/\DS list x.2.1/\x.2.2=(ks,needs,segs,flags,[],[],vals,tgts,())) (Qh hD (by decide) fun r a _ _ hD=>Cnd.mk (fun _=>⟨(by decide:(ByteArray.mk (Array.mk [100,101,118,105,99,101])).size<=100),hD,rfl⟩) fun _=>⟨(by decide:(ByteArray.mk (Array.mk [117,115,101,114])).size<=100),hD,rfl⟩) ?_
   rintro⟨kd,a,rest⟩ ⟨hkd,hD,hr⟩
   simp only at hkd hD hr⊢
   subst hr
   simp only
   exact fun _=>Cnd.mk (fun _=>⟨by unfold Sml;simp;omega,by unfold InI;omega,⟨by omega,by omega,by simp;omega,W9 hts ⟨hkd,⟨by simp only;omega,by simp only;omega⟩,hks⟩,hD,trivial⟩,by omega⟩) fun _=>⟨by unfold InI;omega,⟨by omega,by omega,by omega,hts,hD,trivial⟩,by omega⟩
  refine Jn1.mk (fun (x:Int×List Rul×List ByteArray×List Prq×List Seg×List Flg×List Lay_×List Exper×List Val×List Tgt×Unit)=>DS list x.1/\x.2.1.length<=4/\(∀r∈x.2.1,RulS (1+m) r/\RulD (1+m) r)/\x.2.2.2=(needs,segs,flags,[],[],vals,tgts,())) ?_ ?_
  case refine_2=>
   rintro⟨a,rules,names,rest⟩ ⟨hD,hrl,hrs,hr⟩
   simp only at hD hrl hrs hr⊢
   subst hr
   simp only
   refine z9m hD (by omega) (by omega) fun s a hs hD=>⟨by unfold Sml;simp;omega,by unfold InI;omega,⟨by omega,by omega,hD,by simp;omega,W9 hfs ?_,w6q hfd ?_ ?_,trivial⟩,by omega⟩
   all_goals have hvm:(vals.length:Int)=1+m:=by omega
   ·exact⟨nms key (getm hkey),⟨by simp only;omega,by simp only;omega⟩,fun v hv=>(hvs v hv).1,hnl4,fun q hq=>(hns q hq).1,by simp only;omega,fun t ht=>(hts t ht).1,hrl,by rw[hvm];exact fun r hr=>(hrs r hr).1,by rw[hvm];exact hs.ok⟩
   ·rw[←hget _ _ hkey];congr 1;omega
   ·exact⟨⟨by simp only;omega,by simp only;omega⟩,fun v hv=>(hvs v hv).2,⟨by simp only;omega,by simp only;omega⟩,fun q hq=>(hns q hq).2,hsb,fun t ht=>by simp only;rw[hvm];exact (hts t ht).2,fun r hr=>by simp only;rw[hvm];exact (hrs r hr).2,by simp only;rw[hvm];exact hs⟩
  have nm4: ∀s∈([ByteArray.mk (Array.mk [102,105,114,115,116]),ByteArray.mk (Array.mk [115,101,99,111,110,100]),ByteArray.mk (Array.mk [116,104,105,114,100]),ByteArray.mk (Array.mk [102,111,117,114,116,104])]:List ByteArray),s.size<=100:=by decide
  have nl4:([ByteArray.mk (Array.mk [102,105,114,115,116]),ByteArray.mk (Array.mk [115,101,99,111,110,100]),ByteArray.mk (Array.mk [116,104,105,114,100]),ByteArray.mk (Array.mk [102,111,117,114,116,104])]:List ByteArray).length=4:=rfl
  generalize ([ByteArray.mk (Array.mk [102,105,114,115,116]),ByteArray.mk (Array.mk [115,101,99,111,110,100]),ByteArray.mk (Array.mk [116,104,105,114,100]),ByteArray.mk (Array.mk [102,111,117,114,116,104])]:List ByteArray)=ns4 at nm4 nl4⊢
  refine LpH.ind (fun (x:Int×Int×List Rul×List ByteArray×List Prq×List Seg×List Flg×List Lay_×List Exper×List Val×List Tgt×Unit)=>0<=x.1/\x.1<=4/\DS list x.2.1/\(x.2.2.1.length:Int)=x.1/\(∀r∈x.2.2.1,RulS (1+m) r/\RulD (1+m) r)/\x.2.2.2=(ns4,needs,segs,flags,[],[],vals,tgts,())) (fun x=>(4 - x.1).toNat) ?_ ⟨Int.le_refl 0,by simp,hD,rfl,by simp,rfl⟩
  rintro⟨j,a,rules,rest⟩ ⟨j0,j1,hD,hrl,hrs,hr⟩
  simp only at j0 j1 hD hrl hrs hr⊢
  subst hr
  simp only
  refine Qh hD (by decide) fun q a q0 q1 hD=>Cnd.mk (fun hc=>⟨by rw[nl4];omega,fun y hy=> ?_⟩) fun _=>⟨hD,by omega,hrs,trivial⟩
  refine z01 (by simp only;omega) (z8r ((w24 fun s hs=> ?_).and v0e) 2 (by omega) (by decide) (by decide) hD fun e a he hD=>z9m hD (by omega) (by omega) fun s a hs hD=>⟨by unfold Sml;simp;omega,?_⟩)
  ·obtain⟨g,hg,rfl⟩:=List.mem_map.1 hs;exact (hsegs g hg).key
  have hrs':=W9 hrs (x:=Rul.mk y (Ex.mk e.1 e.2 e.3 e.4 e.5) s) ⟨⟨nm4 y (getm hy),he.1.eta,hs.ok⟩,v0l (he.2.le (by decide)).eta (v0m hgs),hs⟩
  have hl':(rules++[Rul.mk y (Ex.mk e.1 e.2 e.3 e.4 e.5) s]).length=rules.length+1:=by simp
  have cut: ∀r∈List.take (((rules++[Rul.mk y (Ex.mk e.1 e.2 e.3 e.4 e.5) s]).length:Int) - 1).toNat (rules++[Rul.mk y (Ex.mk e.1 e.2 e.3 e.4 e.5) s]),RulS (1+m) r/\RulD (1+m) r:=fun r hr=>hrs' r (List.mem_of_mem_take hr)
  generalize rules++[Rul.mk y (Ex.mk e.1 e.2 e.3 e.4 e.5) s]=rs at hrs' hl' cut⊢
  refine q1s (by omega) (fun r hr=>(hrs' r hr).1.cond) fun o n b ho=>Cnd.mk (fun _ _=>Cnd.mk (fun _ _=>⟨by unfold InI;omega,by omega,hD,by simp only[List.length_take];omega,cut,trivial⟩) fun _=>⟨by unfold InI;omega,⟨by omega,by omega,hD,by omega,hrs',trivial⟩,by omega⟩) fun _ _=>⟨by unfold InI;omega,by omega,hD,by simp only[List.length_take];omega,cut,trivial⟩
 ·
  refine Qh hD (by decide) fun n a n0 n1 hD=>z6z n0 (by simp only[List.length_cons,List.length_nil];omega) ?_
  have nms: ∀s∈List.take n.toNat [ByteArray.mk (Array.mk [108,97]),ByteArray.mk (Array.mk [108,98])],s.size<=100:=j7y (by decide)
  have hlen:(List.take n.toNat [ByteArray.mk (Array.mk [108,97]),ByteArray.mk (Array.mk [108,98])]).length<=2:=by
   rw[List.length_take];simp only[List.length_cons,List.length_nil];omega
  have hgetl: ∀(i:Nat) y,(List.take n.toNat [ByteArray.mk (Array.mk [108,97]),ByteArray.mk (Array.mk [108,98])])[i]? =some y->lyK[i]? =some y:=fun i y hy=>v0n hy
  generalize List.take n.toNat _=ls at nms hlen hgetl
  have hf4:flags.length<=4:=by omega
  refine LpH.ind (fun (x:Int×Int×List Lay_×List Exper×List Seg×List Flg×Unit)=>0<=x.1/\x.1<=(ls.length:Int)/\DS list x.2.1/\(x.2.2.1.length:Int)=x.1/\(∀f∈x.2.2.1,LayS f)/\x.2.2.1.map Lay_.key=lyK.take x.2.2.1.length/\x.2.2.2=([],segs,flags,())) (fun x=>((ls.length:Int) - x.1).toNat) ?_ ⟨Int.le_refl 0,by simp,hD,rfl,by simp,rfl,rfl⟩
  rintro⟨j,a,layers,rest⟩ ⟨j0,j1,hD,hll,hls,hlk,hr⟩
  simp only at j0 j1 hD hll hls hlk hr⊢
  subst hr
  simp only
  intro _
  refine Cnd.mk (fun hc=>⟨by omega,fun y hy=>w6e hD (nms y (getm hy)) fun l a hl hky hD=>⟨by unfold Sml;simp;omega,by unfold InI;omega,⟨by omega,by omega,hD,by simp;omega,W9 hls hl,by rw[List.map_append,hlk,List.length_append,List.length_singleton,List.take_add_one,←show j.toNat=layers.length by omega,hgetl _ _ hy,←hky];rfl,trivial⟩,by omega⟩⟩) fun _=> ?_
  refine Qh hD (by decide) fun n a n0 n1 hD=>z6z n0 (by simp only[List.length_cons,List.length_nil];omega) ?_
  have nmx: ∀s∈List.take n.toNat [ByteArray.mk (Array.mk [120,97]),ByteArray.mk (Array.mk [120,98]),ByteArray.mk (Array.mk [120,99])],s.size<=100:=j7y (by decide)
  have hxen:(List.take n.toNat [ByteArray.mk (Array.mk [120,97]),ByteArray.mk (Array.mk [120,98]),ByteArray.mk (Array.mk [120,99])]).length<=3:=by
   rw[List.length_take];simp only[List.length_cons,List.length_nil];omega
  have hgetx:List.take n.toNat [ByteArray.mk (Array.mk [120,97]),ByteArray.mk (Array.mk [120,98]),ByteArray.mk (Array.mk [120,99])]|>.Sublist exK:=List.take_sublist _ _
  generalize List.take n.toNat _=xs at nmx hxen hgetx
  have hl2:layers.length<=2:=by omega
  refine LpH.ind (fun (x:Int×Int×List Exper×List Flg×List Seg×List Lay_×Unit)=>0<=x.1/\x.1<=(xs.length:Int)/\DS list x.2.1/\(x.2.2.1.length:Int)<=x.1/\(∀f∈x.2.2.1,ExpS f)/\(x.2.2.1.map Exper.key).Sublist (xs.take x.1.toNat)/\(∀f∈x.2.2.1,ExpD layers flags f)/\x.2.2.2=(flags,segs,layers,())) (fun x=>((xs.length:Int) - x.1).toNat) ?_ ⟨Int.le_refl 0,by simp,hD,by simp,by simp,by simp,by simp,rfl⟩
  rintro⟨k,a,exps,rest⟩ ⟨k0,k1,hD,hxl,hxs,hxk,hxd,hr⟩
  simp only at k0 k1 hD hxl hxs hxk hxd hr⊢
  subst hr
  simp only
  intro _
  have hfin:=fun {a:Int} (hD:DS list a)=>fin (flags:=flags) (layers:=layers) (exps:=exps) hD hf4 hfs hl2 hls (by omega) hxs hfd hlk ((hxk.trans (List.take_sublist _ _)).trans hgetx) hxd
  refine Cnd.mk (fun hc _=>Cnd.mk (fun hfl0 _=>Cnd.mk (fun hll0=>⟨by omega,fun y hy _=> ?_⟩) fun _=>hfin hD) fun _=>hfin hD) fun _=>hfin hD
  refine Qh hD (by omega) fun q a q0 q1 hD=>⟨by omega,fun f hf _ hfv=>Qh hD (by omega) fun q' a q0' q1' hD=>⟨by omega,fun l hl=>q88 hD fun t a ht hD=>Qh hD (by decide) fun u a u0 u1 hD=>⟨by unfold InI;omega,?_⟩⟩⟩
  have hF:=hfs f (getm hf)
  have hL:=hls l (getm hl)
  have hv1:=hF.vlen
  refine z9l hD (by omega) (by omega) fun arms a harms hcov hD=> ?_
  refine Jn1.mk (fun (x:Int×Int×List Rng×List Exper×List Lay_×List Flg×List Seg×Unit)=>DS list x.2.1/\x.2.2=(arms,exps,layers,flags,segs,())) (Cnd.mk (fun _=>Qh hD (by decide) fun r a _ _ hD=>Cnd.mk (fun _=>⟨hD,rfl⟩) fun _=>⟨hD,rfl⟩) fun _=>⟨hD,rfl⟩) ?_
  rintro⟨state,a,rest⟩ ⟨hD,hr⟩
  simp only at hD hr⊢
  subst hr
  simp only
  refine Jn1.mk (fun (x:Int×ByteArray×ByteArray×List Val×List Ex×Int×List Seg×List Flg×List Lay_×List Exper×List Rng×Unit)=>(ExS 4 (Ex.mk x.1 x.2.1 x.2.2.1 x.2.2.2.1 x.2.2.2.2.1)/\DrE sgK 20000 (Ex.mk x.1 x.2.1 x.2.2.1 x.2.2.2.1 x.2.2.2.2.1))/\DS list x.2.2.2.2.2.1/\x.2.2.2.2.2.2=(segs,flags,layers,exps,arms,())) (Qh hD (by decide) fun r a _ _ hD=>Cnd.mk (fun _=>z01 (by simp only;omega) (z8r ((w24 fun s hs=> ?_).and v0e) 2 (by omega) (by decide) (by decide) hD fun e a he hD=>⟨⟨he.1.eta,v0l (he.2.le (by decide)).eta (v0m hgs)⟩,hD,rfl⟩)) fun _=>⟨⟨y1f,v65⟩,hD,rfl⟩) ?_
  ·obtain⟨g,hg,rfl⟩:=List.mem_map.1 hs;exact (hsegs g hg).key
  rintro⟨e1,e2,e3,e4,e5,a,rest⟩ ⟨he,hD,hr⟩
  simp only at he hD hr⊢
  subst hr
  simp only
  refine w29 fun sp _ _=>q31 hD (by decide) fun w a _ _ hD=>q31 hD (by decide) fun w' a _ _ hD=>z9h fun sq _=>q31 hD (by decide) fun w2 a w20 w21 hD=>w0g (by omega) fun cl hcl=> ?_
  have hxs':=W9 hxs (x:=Exper.mk y l.1 f.1 t state cl arms (Ex.mk e1 e2 e3 e4 e5)) ⟨nmx y (getm hy),hL.key,hF.key,hcl,⟨harms.1,fun r hr=>by obtain⟨p,q,s,t⟩:=harms.2 r hr;exact⟨p,q,s,by omega⟩⟩,he.1⟩
  have hxd':=W9 hxd (x:=Exper.mk y l.1 f.1 t state cl arms (Ex.mk e1 e2 e3 e4 e5)) ⟨hcov,he.2,⟨l,getm hl,rfl⟩,⟨f,getm hf,rfl,fun r hr=>by obtain⟨_,_,s,t⟩:=harms.2 r hr;exact⟨s,t⟩⟩,tt _ ht⟩
  have hyk:xs[k.toNat]? =some y:=hy
  have hxk':((exps++[Exper.mk y l.1 f.1 t state cl arms (Ex.mk e1 e2 e3 e4 e5)]).map Exper.key).Sublist (xs.take (k+1).toNat):=by
   rw[List.map_append,show (k+1).toNat=k.toNat+1 by omega,List.take_add_one,hyk]
   exact hxk.append (List.Sublist.refl _)
  have hl':(exps++[Exper.mk y l.1 f.1 t state cl arms (Ex.mk e1 e2 e3 e4 e5)]).length=exps.length+1:=by simp
  have cut: ∀r∈List.take (((exps++[Exper.mk y l.1 f.1 t state cl arms (Ex.mk e1 e2 e3 e4 e5)]).length:Int) - 1).toNat (exps++[Exper.mk y l.1 f.1 t state cl arms (Ex.mk e1 e2 e3 e4 e5)]),ExpS r:=fun r hr=>hxs' r (List.mem_of_mem_take hr)
  have cutd: ∀r∈List.take (((exps++[Exper.mk y l.1 f.1 t state cl arms (Ex.mk e1 e2 e3 e4 e5)]).length:Int) - 1).toNat (exps++[Exper.mk y l.1 f.1 t state cl arms (Ex.mk e1 e2 e3 e4 e5)]),ExpD layers flags r:=fun r hr=>hxd' r (List.mem_of_mem_take hr)
  have cutk:((List.take (((exps++[Exper.mk y l.1 f.1 t state cl arms (Ex.mk e1 e2 e3 e4 e5)]).length:Int) - 1).toNat (exps++[Exper.mk y l.1 f.1 t state cl arms (Ex.mk e1 e2 e3 e4 e5)])).map Exper.key).Sublist (xs.take (k+1).toNat):=((List.take_sublist _ _).map _).trans hxk'
  generalize exps++[Exper.mk y l.1 f.1 t state cl arms (Ex.mk e1 e2 e3 e4 e5)]=xs' at hxs' hl' cut hxd' hxk' cutd cutk⊢
  have hv:EnvS (Envt.mk (Sett.mk salt hkind hold) ds segs flags layers xs'):=⟨hhk,hat,hsl,hsegs,hf4,hfs,hl2,hls,by simp only;omega,hxs'⟩
  refine⟨by unfold Sml;omega,w0o hv fun b=>Cnd.mk (fun _=>⟨by unfold InI;omega,⟨by omega,by omega,hD,by omega,hxs',hxk',hxd',trivial⟩,by omega⟩) fun _ _=>⟨by unfold InI;omega,by omega,by unfold InI;omega,⟨by omega,by omega,hD,by simp only[List.length_take];omega,cut,cutk,cutd,trivial⟩,by omega⟩⟩
end Go.En
end
noncomputable section
set_option maxRecDepth 100000
namespace Go.En
open Go Go.Fl Go.Fl.Lk Go.Fx
theorem q20(a b:List Spn)(q:Int):insV (a++b) q=(insV a q||insV b q):=by
 unfold insV
 rw[List.find?_append]
 cases List.find? (fun r:Spn=>decide (r.1<=q) && decide (q<r.2)) a<;>simp
theorem j00(y:Spn)(q:Int):insV [y] q=(decide (y.1<=q) && decide (q<y.2)):=by
 unfold insV
 rw[List.find?_cons]
 cases decide (y.1<=q) && decide (q<y.2)<;>simp
theorem q3i{l:List Spn}{q:Int}:insV l q=true↔ ∃r∈l,r.1<=q/\q<r.2:=by
 unfold insV
 rw[List.find?_isSome]
 simp only[Bool.and_eq_true,decide_eq_true_eq]
structure BAt(o:List Bool)(f:Nat->Bool):Prop where
 len:o.length=10000
 at_: ∀q,q<10000->o[q]? =some (f q)
theorem BAt.set{o:List Bool}{f g:Nat->Bool}{k:Nat}{v:Bool}(h:BAt o f)(hv:g k=v)(hg: ∀q,q<10000->q≠k->g q=f q):BAt (o.set k v) g:=by
 refine⟨by rw[List.length_set];exact h.len,fun q hq=> ?_⟩
 have hl:=h.len
 rw[List.getElem?_set]
 split
 ·rename_i he
  subst he
  rw[if_pos (by omega),hv]
 ·rename_i hne
  rw[h.at_ q hq,hg q hq (fun e=>hne e.symm)]
theorem BAt.of{o:List Bool}{f g:Nat->Bool}(h:BAt o f)(hg: ∀q,q<10000->g q=f q):BAt o g:=⟨h.len,fun q hq=>by rw[h.at_ q hq,hg q hq]⟩
theorem BAt.get{o:List Bool}{f:Nat->Bool}(h:BAt o f){k:Nat}{y:Bool}(hy:o[k]? =some y):y=f k:=by
 have hl:=Qa hy
 have:=h.at_ k (by have:=h.len;omega)
 rw[hy] at this;exact Option.some.inj this
theorem q35{l:List Spn}{K:List Bool->Prop}(hl:l.length<=1000000)(h: ∀b,BAt b (fun q=>insV l (q:Int))->K b):R7 l K:=by
 unfold R7
 refine⟨⟨by decide,by decide,by unfold Sml;decide⟩,Lp2.ind (fun i o=> ∃j:Nat,i=(j:Int)/\j<=l.length/\BAt o (fun q=>insV (l.take j) (q:Int))) (fun i _=>(l.length - i).toNat) ?_ ⟨0,rfl,by omega,⟨List.length_replicate,fun q hq=>by rw[List.getElem?_replicate,if_pos (show q<Int.toNat 10000 from hq)];rfl⟩⟩⟩
 rintro i o ⟨j,rfl,hj,hb⟩ _
 refine Cnd.mk (fun hc=>⟨by omega,fun y hy=> ?_⟩) fun hc=>h o (hb.of fun q hq=>by rw[List.take_of_length_le (by omega)])
 have hy:l[j]? =some y:=hy
 have hlt:=Qa hy
 refine Lp2.ind (fun (b:Int) o=>max y.1 0<=b/\b<=max (max y.1 0) (min y.2 10000)/\BAt o (fun q=>insV (l.take j) (q:Int)||(decide (y.1<=(q:Int)) && decide ((q:Int)<b)))) (fun b _=>(10000 - b).toNat) ?_ ⟨Int.le_refl _,by omega,hb.of fun q hq=> ?_⟩
 ·rintro b o ⟨b0,b1,hb⟩
  refine⟨by omega,fun z hz=> ?_⟩
  have hz:l[j]? =some z:=hz
  rw[hy] at hz;cases hz
  refine Cnd.mk (fun hlt2=>⟨by have:=hb.len;omega,fun w hw=>⟨by unfold InI;omega,⟨by omega,by omega,hb.set (k:=b.toNat) ?_ fun q hq hne=> ?_⟩,by omega⟩⟩) fun hge=>⟨by unfold InI;omega,⟨j+1,by omega,by omega,hb.of fun q hq=> ?_⟩,by omega⟩
  ·rw[dt (show y.1<=(b.toNat:Int) by omega),dt (show (b.toNat:Int)<b+1 by omega)];simp
  ·congr 2
   by_cases hqb:(q:Int)<b
   ·rw[dt hqb,dt (show (q:Int)<b+1 by omega)]
   ·rw[df hqb,df (show ¬(q:Int)<b+1 by omega)]
  ·rw[List.take_add_one,hy,q20]
   show (_||insV [y] (q:Int))=_
   rw[j00]
   congr 1
   by_cases h1:y.1<=(q:Int)
   ·rw[dt h1,Bool.true_and,Bool.true_and]
    by_cases h2:(q:Int)<y.2
    ·rw[dt h2,dt (show (q:Int)<b by omega)]
    ·rw[df h2,df (show ¬(q:Int)<b by omega)]
   ·rw[df h1];simp
 ·have:(decide (y.1<=(q:Int)) && decide ((q:Int)<max y.1 0))=false:=by
   by_cases h1:y.1<=(q:Int)
   ·rw[df (show ¬(q:Int)<max y.1 0 by omega)];simp
   ·rw[df h1];simp
  rw[this,Bool.or_false]
def IsS(l:List Spn)(p:Int->Prop):Prop:=SpsS l/\ ∀q,insV l q=true↔(0<=q/\q<10000)/\p q
theorem IsS.nonempty{l:List Spn}{p:Int->Prop}(h:IsS l p):0<l.length↔ ∃q,0<=q/\q<10000/\p q:=by
 constructor
 ·intro hp
  obtain⟨h1,h2,h3⟩:=h.1.all l[0] (List.getElem_mem hp)
  have:=(h.2 l[0].lo).1 (q3i.2 ⟨l[0],List.getElem_mem hp,Int.le_refl _,h2⟩)
  exact⟨_,this.1.1,this.1.2,this.2⟩
 ·rintro⟨q,q0,q1,hq⟩
  obtain⟨r,hr,_⟩:=q3i.1 ((h.2 q).2 ⟨⟨q0,q1⟩,hq⟩)
  exact List.length_pos_of_mem hr
theorem z4n{b:List Bool}{f:Nat->Bool}{K:List Spn->Prop}(hb:BAt b f)(h: ∀l,IsS l (fun q=>f q.toNat=true)->K l):Ui b K:=by
 unfold Ui
 have hlen:=hb.len
 refine Lp2.ind (fun (o:List Spn) (i:Int)=> ∃j:Nat,i=(j:Int)/\j<=10000/\o.length<=j/\(∀s∈o,0<=s.lo/\s.lo<s.hi/\s.hi<=(j:Int))/\(∀q:Int,insV o q=true↔(0<=q/\q<(j:Int))/\f q.toNat=true)/\(0<j->f (j - 1)=true-> ∃a s,o=a++[s]/\s.hi=(j:Int))) (fun _ i=>(10000 - i).toNat) ?_ ⟨0,rfl,by omega,by simp,by simp,fun q=>⟨fun h=>(by cases h),fun h=>by omega⟩,fun h=>by omega⟩
 rintro o i ⟨j,rfl,hj,hol,hos,hin,hlast⟩ _
 refine Cnd.mk (fun hc=>⟨by omega,fun y hy=> ?_⟩) fun hc=>h o ⟨⟨by omega,fun s hs=>by have:=hos s hs;omega⟩,fun q=>(hin q).trans ⟨fun k=>⟨⟨k.1.1,by have:=k.1.2;omega⟩,k.2⟩,fun k=>⟨⟨k.1.1,by have:=k.1.2;omega⟩,k.2⟩⟩⟩
 have hy:b[j]? =some y:=hy
 have hyf:=hb.get hy
 have fresh:f j=true->Sml (o++[Spn.mk (j:Int) ((j:Int)+1)]).length/\InI ((j:Int)+1)/\(∃j':Nat,(j:Int)+1=(j':Int)/\j'<=10000/\(o++[Spn.mk (j:Int) ((j:Int)+1)]).length<=j'/\(∀s∈o++[Spn.mk (j:Int) ((j:Int)+1)],0<=s.lo/\s.lo<s.hi/\s.hi<=(j':Int))/\(∀q:Int,insV (o++[Spn.mk (j:Int) ((j:Int)+1)]) q=true↔(0<=q/\q<(j':Int))/\f q.toNat=true)/\(0<j'->f (j' - 1)=true-> ∃a s,o++[Spn.mk (j:Int) ((j:Int)+1)]=a++[s]/\s.hi=(j':Int)))/\(10000 - ((j:Int)+1)).toNat<(10000 - (j:Int)).toNat:=fun hf=>by
  refine⟨by unfold Sml;simp;omega,by unfold InI;omega,⟨j+1,by omega,by omega,by simp;omega,W9 (fun s hs=>by have:=hos s hs;omega) ⟨by simp only;omega,by simp only;omega,by simp only;omega⟩,fun q=> ?_,fun _ _=>⟨o,_,rfl,by simp only;omega⟩⟩,by omega⟩
  rw[q20,j00,Bool.or_eq_true,hin q,Bool.and_eq_true,decide_eq_true_eq,decide_eq_true_eq]
  simp only
  constructor
  ·rintro (⟨⟨a,b⟩,c⟩|⟨a,b⟩)
   ·exact⟨⟨a,by omega⟩,c⟩
   ·have:q=(j:Int):=by omega
    subst this
    exact⟨⟨by omega,by omega⟩,hf⟩
  ·rintro⟨⟨a,b⟩,c⟩
   by_cases hq:q<(j:Int)
   ·exact .inl ⟨⟨a,hq⟩,c⟩
   ·exact .inr ⟨by omega,by omega⟩
 refine Cnd.mk (fun ht=> ?_) fun hf=> ?_
 ·have hfj:f j=true:=by rw[←hyf,ht]
  refine Cnd.mk (fun hpos=>⟨by unfold InI;omega,by omega,fun z hz=> ?_⟩) fun _=>⟨by unfold InI;omega,fresh hfj⟩
  have hz:b[j - 1]? =some z:=by rw[show ((j:Int) - 1).toNat=j - 1 by omega] at hz;exact hz
  have hzf:=hb.get hz
  refine Cnd.mk (fun ht2 _=> ?_) fun _=>⟨by unfold InI;omega,fresh hfj⟩
  obtain⟨a,s,rfl,hs⟩:=hlast (by omega) (by rw[←hzf,ht2])
  have hal:(a++[s]).length=a.length+1:=by simp
  rw[hal] at hol
  refine⟨by unfold InI;omega,by unfold InI;omega,by omega,fun w hw=> ?_⟩
  rw[show (((a++[s]).length:Int) - 1).toNat=a.length by omega] at hw⊢
  have hw':w=s:=by simpa using hw.symm
  subst hw'
  have hset:(a++[w]).set a.length (Spn.mk w.1 ((j:Int)+1))=a++[Spn.mk w.1 ((j:Int)+1)]:=by simp
  rw[hset]
  obtain⟨w1,w2,w3⟩:=hos w (by simp)
  refine⟨by unfold InI;omega,⟨j+1,by omega,by omega,by simp;omega,W9 (fun s hs=>by have:=hos s (by simp[hs]);omega) ⟨by simp only;omega,by simp only;omega,by simp only;omega⟩,fun q=> ?_,fun _ _=>⟨a,_,rfl,by simp only;omega⟩⟩,by omega⟩
  have ho:=hin q
  rw[q20,j00,Bool.or_eq_true,Bool.and_eq_true,decide_eq_true_eq,decide_eq_true_eq] at ho⊢
  simp only
  rw[hs] at ho
  constructor
  ·rintro (k|⟨k1,k2⟩)
   ·have:=ho.1 (.inl k);exact⟨⟨this.1.1,by omega⟩,this.2⟩
   ·by_cases hq:q<(j:Int)
    ·have:=ho.1 (.inr ⟨k1,hq⟩);exact⟨⟨this.1.1,by omega⟩,this.2⟩
    ·have:q=(j:Int):=by omega
     subst this
     exact⟨⟨by omega,by omega⟩,hfj⟩
  ·rintro⟨⟨k1,k2⟩,k3⟩
   by_cases hq:q<(j:Int)
   ·rcases ho.2 ⟨⟨k1,hq⟩,k3⟩ with k|⟨k4,_⟩
    ·exact .inl k
    ·exact .inr ⟨k4,by omega⟩
   ·exact .inr ⟨by omega,by omega⟩
 ·have hfj:f j=false:=by rw[←hyf];simpa using hf
  refine⟨by unfold InI;omega,⟨j+1,by omega,by omega,by omega,fun s hs=>by have:=hos s hs;omega,fun q=> ?_,fun _ hh=> ?_⟩,by omega⟩
  ·rw[hin q]
   constructor
   ·rintro⟨⟨a,b⟩,c⟩;exact⟨⟨a,by omega⟩,c⟩
   ·rintro⟨⟨a,b⟩,c⟩
    refine⟨⟨a,?_⟩,c⟩
    by_cases hq:q<(j:Int)
    ·exact hq
    ·have:q=(j:Int):=by omega
     subst this
     rw[Int.toNat_natCast,hfj] at c;cases c
  ·rw[Nat.add_sub_cancel,hfj] at hh;cases hh
theorem j3j{a b:List Spn}{K:List Spn->Prop}(ha:a.length<=1000000)(hb:b.length<=1000000)(h: ∀l,IsS l (fun q=>insV a q=true/\insV b q=true)->K l):q0g a b K:=by
 unfold q0g q7g
 refine q35 ha fun x hx=>q35 hb fun y hy=>Lp2.ind (fun (i:Int) (o:List Bool)=> ∃j:Nat,i=(j:Int)/\j<=10000/\BAt o (fun q=>if q<j then insV a (q:Int) && insV b (q:Int) else insV a (q:Int))) (fun i _=>(10000 - i).toNat) ?_ ⟨0,rfl,by omega,hx.of fun q hq=>by simp⟩
 rintro i o ⟨j,rfl,hj,ho⟩ _
 have hlen:=ho.len
 have hyl:=hy.len
 refine Cnd.mk (fun hc=>⟨by omega,fun z hz=> ?_⟩) fun hc=>z4n (ho.of (g:=fun q=>insV a (q:Int) && insV b (q:Int)) fun q hq=>by rw[if_pos (by omega)]) fun l hl=>h l ⟨hl.1,fun q=>by
  rw[hl.2 q]
  constructor
  ·rintro⟨h1,h2⟩;rw[Int.toNat_of_nonneg h1.1,Bool.and_eq_true] at h2;exact⟨h1,h2⟩
  ·rintro⟨h1,h2⟩;refine⟨h1,?_⟩;simp only;rw[Int.toNat_of_nonneg h1.1,Bool.and_eq_true];exact h2⟩
 have hz:o[j]? =some z:=hz
 have hzf:=ho.get hz
 simp only[Nat.lt_irrefl,if_false] at hzf
 have step: ∀{v:Bool},v=(insV a (j:Int) && insV b (j:Int))->InI ((j:Int)+1)/\(∃j':Nat,(j:Int)+1=(j':Int)/\j'<=10000/\BAt (o.set j v) (fun q=>if q<j' then insV a (q:Int) && insV b (q:Int) else insV a (q:Int)))/\(10000 - ((j:Int)+1)).toNat<(10000 - (j:Int)).toNat:=fun {v} hv=>⟨by unfold InI;omega,⟨j+1,by omega,by omega,ho.set (by rw[if_pos (by omega),hv]) fun q hq hne=>by
  by_cases hqj:q<j
  ·rw[if_pos hqj,if_pos (by omega)]
  ·rw[if_neg hqj,if_neg (by omega)]⟩,by omega⟩
 refine Cnd.mk (fun ht=>⟨by omega,fun w hw=>⟨by omega,fun u hu=>step ?_⟩⟩) fun hf=>⟨by omega,fun w hw=>step (by rw[←hzf,Bool.eq_false_iff.2 hf];rfl)⟩
 have hw:y[j]? =some w:=hw
 rw[hy.get hw,←hzf,ht];rfl
end Go.En
end
noncomputable section
set_option maxRecDepth 100000
namespace Go.En
open Go Go.Fl Go.Fl.Lk Go.Fx
def PR{α:Type}(R:α->α->Prop)(l m:List α):Prop:=m.length=l.length/\ ∀(i:Nat) x y,l[i]? =some x->m[i]? =some y->R x y
theorem PR.refl{α:Type}{R:α->α->Prop}(hr: ∀a,R a a)(l:List α):PR R l l:=⟨rfl,fun i x y hx hy=>by rw[hx] at hy;cases hy;exact hr x⟩
theorem PR.set{α:Type}{R:α->α->Prop}(hr: ∀a,R a a){l:List α}{i:Nat}{a b:α}(ha:l[i]? =some a)(hab:R a b):PR R l (l.set i b):=by
 refine⟨List.length_set,fun j x y hx hy=> ?_⟩
 rw[List.getElem?_set] at hy
 split at hy
 ·rename_i he
  subst he
  rw[if_pos (Qa ha)] at hy
  cases hy
  rw[ha] at hx;cases hx;exact hab
 ·rw[hx] at hy;cases hy;exact hr x
theorem PR.at_{α:Type}{R:α->α->Prop}{l m:List α}(h:PR R l m){i:Nat}{y:α}(hy:m[i]? =some y): ∃x,l[i]? =some x/\R x y:=by
 have hlt:=Qa hy
 have hl:=List.getElem?_eq_getElem (l:=l) (i:=i) (by have:=h.1;omega)
 exact⟨_,hl,h.2 i _ y hl hy⟩
def v66(a b:Lay_):Prop:=b.1=a.1/\b.2=a.2/\b.3=a.3/\b.4=a.4/\b.5=a.5
def v3l(a b:Exper):Prop:=b.1=a.1/\b.2=a.2/\b.3=a.3/\b.4=a.4/\b.7=a.7/\b.8=a.8/\ ∀q,0<=q->q<10000->insV a.6 q=true->insV b.6 q=true
theorem j51(a:Lay_):v66 a a:=⟨rfl,rfl,rfl,rfl,rfl⟩
theorem j52(a:Exper):v3l a a:=⟨rfl,rfl,rfl,rfl,rfl,rfl,fun _ _ _ h=>h⟩
structure Mvd(v w:Envt):Prop where
 st:w.1=v.1
 at_:w.2=v.2
 sg:w.3=v.3
 fl:w.4=v.4
 ly:PR v66 v.5 w.5
 ex:PR v3l v.6 w.6
theorem z5l{α:Type}{P:α->Prop}{l:List α}{i:Nat}{b:α}(h: ∀x∈l,P x)(hb:P b): ∀x∈l.set i b,P x:=fun x hx=>(List.mem_or_eq_of_mem_set hx).elim (h x) fun e=>by rw[e];exact hb
theorem j7z{v:Envt}(hE:EnvS v){j:Nat}{x0 x:Exper}(hx:v.6[j]? =some x0)(h1:x.1=x0.1)(h2:x.2=x0.2)(h3:x.3=x0.3)(h6:SpsS x.6)(h7:x.7=x0.7)(h8:x.8=x0.8):EnvS (Envt.mk v.1 v.2 v.3 v.4 v.5 (v.6.set j x)):=by
 have h0:=hE.exps x0 (getm hx)
 exact⟨hE.hkind,hE.attrs,hE.slen,hE.segs,hE.flen,hE.flags,hE.llen,hE.layers,by simp only[List.length_set];exact hE.xlen,z5l hE.exps ⟨by rw[h1];exact h0.key,by rw[h2];exact h0.layer,by rw[h3];exact h0.flag,h6,by rw[h7];exact h0.arms,by rw[h8];exact h0.cond⟩⟩
theorem v0o{v:Envt}{j:Nat}{x0 x:Exper}(hx:v.6[j]? =some x0)(h:v3l x0 x):Mvd v (Envt.mk v.1 v.2 v.3 v.4 v.5 (v.6.set j x)):=⟨rfl,rfl,rfl,rfl,.refl j51 _,.set j52 hx h⟩
end Go.En
end
noncomputable section
set_option maxRecDepth 100000
namespace Go.En
open Go Go.Fl Go.Fl.Lk Go.Fx
theorem PR.map{α:Type}{R:α->α->Prop}{l m:List α}(h:PR R l m){β:Type}{f:α->β}(hf: ∀x y,R x y->f y=f x):m.map f=l.map f:=by
 refine List.ext_getElem? fun i=> ?_
 rw[List.getElem?_map,List.getElem?_map]
 cases hx:l[i]? with
 |none=>
  have:m[i]? =none:=by rw[List.getElem?_eq_none_iff] at hx⊢;have:=h.1;omega
  rw[this]
 |some x=>
  obtain⟨y,hy⟩: ∃y,m[i]? =some y:=⟨_,List.getElem?_eq_getElem (by have:=Qa hx;have:=h.1;omega)⟩
  rw[hy,Option.map_some,Option.map_some,hf x y (h.2 i x y hx hy)]
theorem w3b{α:Type}{R:α->α->Prop}{p q:α->Bool}(hpq: ∀x y,R x y->p x=q y): ∀{l m:List α},PR R l m->(l.find? p=none/\m.find? q=none)∨ ∃x y,l.find? p=some x/\m.find? q=some y/\R x y
 |[],m,h=>by
  have:m=[]:=List.eq_nil_of_length_eq_zero h.1
  subst this;exact .inl ⟨rfl,rfl⟩
 |a::l,[],h=>by have:=h.1;simp at this
 |a::l,b::m,h=>by
  have hab:R a b:=h.2 0 a b rfl rfl
  have ht:PR R l m:=⟨by have:=h.1;simpa using this,fun i x y hx hy=>h.2 (i+1) x y hx hy⟩
  rw[List.find?_cons,List.find?_cons,←hpq a b hab]
  cases hp:p a with
  |true=>exact .inr ⟨a,b,rfl,rfl,hab⟩
  |false=>exact w3b hpq ht
theorem v67{v w:Envt}(h:Mvd v w)(k:ByteArray):(xof v k=none/\xof w k=none)∨ ∃x y,xof v k=some x/\xof w k=some y/\v3l x y:=by
 unfold xof;exact w3b (fun x y hxy=>by rw[hxy.1]) h.ex
end Go.En
end
noncomputable section
set_option maxRecDepth 100000
namespace Go.En
open Go Go.Fl Go.Fl.Lk Go.Fx
theorem z0g(l:List Spn)(i:Nat):Go.Fl.Sp.cov (l.map fun s=>(s.lo,s.hi)) i=insV l (i:Int):=by
 rw[Bool.eq_iff_iff,q3i]
 unfold Go.Fl.Sp.cov
 simp only[List.any_map,List.any_eq_true,Function.comp,Bool.and_eq_true,decide_eq_true_eq]
theorem w41(l:List (Int×Int)):(l.map fun s=>Spn.mk s.1 s.2).map (fun s=>(s.lo,s.hi))=l:=by
 rw[List.map_map]
 exact List.map_id l
def IsP(l:List Spn)(p:Int->Prop):Prop:=(∀q,0<=q->q<10000->(insV l q=true↔p q))/\(0<l.length↔ ∃q,0<=q/\q<10000/\p q)
theorem j70(f:Nat->Bool):IsP ((Go.Fl.Sp.runs f 10000).map fun s=>Spn.mk s.1 s.2) fun q=>f q.toNat=true:=by
 have at_: ∀i:Nat,i<10000->insV ((Go.Fl.Sp.runs f 10000).map fun s=>Spn.mk s.1 s.2) (i:Int)=f i:=fun i hi=>by
  rw[←z0g,w41,Go.Fl.Sp.cov_norm hi]
 refine⟨fun q q0 q1=> ?_,?_⟩
 ·have:=at_ q.toNat (by omega)
  rw[Int.toNat_of_nonneg q0] at this
  rw[this]
 ·constructor
  ·intro hl
   refine Classical.byContradiction fun hno=> ?_
   have:Go.Fl.Sp.runs f 10000=[]:=Go.Fl.Sp.runs_empty fun i hi=>by
    cases hf:f i with
    |false=>rfl
    |true=>exact absurd ⟨(i:Int),by omega,by omega,hf⟩ hno
   rw[this] at hl;simp at hl
  ·rintro⟨q,q0,q1,hq⟩
   have:=at_ q.toNat (by omega)
   rw[hq,Int.toNat_of_nonneg q0,q3i] at this
   obtain⟨r,hr,_⟩:=this
   exact List.length_pos_of_mem hr
theorem IsP.congr{l:List Spn}{p p':Int->Prop}(h:IsP l p)(e: ∀q,0<=q->q<10000->(p q↔p' q)):IsP l p':=
 ⟨fun q a b=>(h.1 q a b).trans (e q a b),h.2.trans ⟨fun ⟨q,a,b,c⟩=>⟨q,a,b,(e q a b).1 c⟩,fun ⟨q,a,b,c⟩=>⟨q,a,b,(e q a b).2 c⟩⟩⟩
theorem j53{a b:List Spn}{K:List Spn->Prop}(h: ∀l,IsP l (fun q=>insV a q=true/\insV b q≠true)->K l):Vn a b K:=
 h _ ((j70 _).congr fun q q0 q1=>by
  show (Go.Fl.Sp.cov _ _ && !Go.Fl.Sp.cov _ _)=true↔_
  rw[z0g,z0g,Int.toNat_of_nonneg q0]
  cases insV a q<;>cases insV b q<;>simp)
theorem v0p{a b:List Spn}{K:List Spn->Prop}(h: ∀l,IsP l (fun q=>insV a q=true/\insV b q=true)->K l):W1 a b K:=
 h _ ((j70 _).congr fun q q0 q1=>by
  show (Go.Fl.Sp.cov _ _ && Go.Fl.Sp.cov _ _)=true↔_
  rw[z0g,z0g,Int.toNat_of_nonneg q0]
  cases insV a q<;>cases insV b q<;>simp)
theorem j4p{a b:List Spn}{K:List Spn->Prop}(ha:a.length<=1000000)(hb:b.length<=1000000)(h: ∀l,IsS l (fun q=>insV a q=true/\insV b q≠true)->K l):Hn a b K:=by
 unfold Hn q9u
 refine q35 ha fun x hx=>q35 hb fun y hy=>Lp2.ind (fun (i:Int) (o:List Bool)=> ∃j:Nat,i=(j:Int)/\j<=10000/\BAt o (fun q=>if q<j then insV a (q:Int) && !insV b (q:Int) else insV a (q:Int))) (fun i _=>(10000 - i).toNat) ?_ ⟨0,rfl,by omega,hx.of fun q hq=>by simp⟩
 rintro i o ⟨j,rfl,hj,ho⟩ _
 have hlen:=ho.len
 have hyl:=hy.len
 refine Cnd.mk (fun hc=>⟨by omega,fun z hz=> ?_⟩) fun hc=>z4n (ho.of (g:=fun q=>insV a (q:Int) && !insV b (q:Int)) fun q hq=>by rw[if_pos (by omega)]) fun l hl=>h l ⟨hl.1,fun q=>by
  rw[hl.2 q]
  constructor
  ·rintro⟨h1,h2⟩
   have h2:(insV a ((q.toNat:Nat):Int) && !insV b ((q.toNat:Nat):Int))=true:=h2
   rw[Int.toNat_of_nonneg h1.1,Bool.and_eq_true,Bool.not_eq_true'] at h2
   exact⟨h1,h2.1,by rw[h2.2];decide⟩
  ·rintro⟨h1,h2,h3⟩
   refine⟨h1,?_⟩
   show (insV a ((q.toNat:Nat):Int) && !insV b ((q.toNat:Nat):Int))=true
   rw[Int.toNat_of_nonneg h1.1,h2,Bool.eq_false_iff.2 h3];rfl⟩
 have hz:o[j]? =some z:=hz
 have hzf:=ho.get hz
 simp only[Nat.lt_irrefl,if_false] at hzf
 have step: ∀{v:Bool},v=(insV a (j:Int) && !insV b (j:Int))->InI ((j:Int)+1)/\(∃j':Nat,(j:Int)+1=(j':Int)/\j'<=10000/\BAt (o.set j v) (fun q=>if q<j' then insV a (q:Int) && !insV b (q:Int) else insV a (q:Int)))/\(10000 - ((j:Int)+1)).toNat<(10000 - (j:Int)).toNat:=fun {v} hv=>⟨by unfold InI;omega,⟨j+1,by omega,by omega,ho.set (by rw[if_pos (by omega),hv]) fun q hq hne=>by
  by_cases hqj:q<j
  ·rw[if_pos hqj,if_pos (by omega)]
  ·rw[if_neg hqj,if_neg (by omega)]⟩,by omega⟩
 refine Cnd.mk (fun ht=>⟨by omega,fun w hw=>⟨by omega,fun u hu=>step ?_⟩⟩) fun hf=>⟨by omega,fun w hw=>step (by rw[←hzf,Bool.eq_false_iff.2 hf];rfl)⟩
 have hw:y[j]? =some w:=hw
 have hwf:=hy.get hw
 rw[←hwf,←hzf,ht]
 cases w<;>rfl
def Cvr(c:Col)(q:Int):Prop:=c.1<=q/\q<c.2
structure UAt(u:List Int)(l:List Col)(now:Int):Prop where
 len:u.length=10000
 lo: ∀(q:Nat) x,u[q]? =some x->now<=x
 at_: ∀(q:Nat) x t,u[q]? =some x->now<t->(t<=x↔ ∃c∈l,Cvr c (q:Int)/\t<=c.3)
theorem z64{l:List Col}{now:Int}{K:List Int->Prop}(hl:l.length<=1000000)(h: ∀u,UAt u l now->K u):Vj l now K:=by
 unfold Vj
 refine⟨⟨by decide,by decide,by unfold Sml;decide⟩,?_⟩
 refine Lp2.ind (fun (i:Int) (u:List Int)=> ∃j:Nat,i=(j:Int)/\j<=10000/\u.length=10000/\ ∀q,q<j->u[q]? =some now) (fun i _=>(10000 - i).toNat) ?_ ⟨0,rfl,by omega,List.length_replicate,fun q hq=>by omega⟩
 rintro i u ⟨j,rfl,hj,hu,hq⟩ _
 refine Cnd.mk (fun hc=>⟨by omega,fun y hy=>⟨by unfold InI;omega,⟨j+1,by omega,by omega,by rw[List.length_set];exact hu,fun q hqj=> ?_⟩,by omega⟩⟩) fun hc=> ?_
 ·show (u.set j now)[q]? =some now
  by_cases e:j=q
  ·subst e;rw[List.getElem?_set_self (by omega)]
  ·rw[List.getElem?_set_ne e];exact hq q (by omega)
 have u0:UAt u (l.take 0) now:=⟨hu,fun q x hx=>by
  have hlt:=Qa hx
  rw[hq q (by omega)] at hx;cases hx;exact Int.le_refl _,fun q x t hx ht=>by
  have hlt:=Qa hx
  rw[hq q (by omega)] at hx;cases hx
  exact⟨fun k=>by omega,fun ⟨c,hc,_⟩=>by simp at hc⟩⟩
 refine Lp2.ind (fun (i:Int) (u:List Int)=> ∃j:Nat,i=(j:Int)/\j<=l.length/\UAt u (l.take j) now) (fun i _=>(l.length - i).toNat) ?_ ⟨0,rfl,by omega,u0⟩
 rintro i u ⟨j,rfl,hj,hu⟩ _
 refine Cnd.mk (fun hc=>⟨by omega,fun c hcj=> ?_⟩) fun hc=>h u (by rw[List.take_of_length_le (by omega)] at hu;exact hu)
 have hcj:l[j]? =some c:=hcj
 have tk:l.take (j+1)=l.take j++[c]:=by rw[List.take_add_one,hcj];rfl
 have atc: ∀{p:Col->Prop},p c->At l (j:Int) p:=fun hp=>⟨by omega,fun y hy=>by
  have hy:l[j]? =some y:=hy
  rw[hcj] at hy;cases hy;exact hp⟩
 refine Lp2.ind (fun (k:Int) (w:List Int)=>max c.1 0<=k/\w.length=10000/\(∀(q:Nat) x,w[q]? =some x->now<=x)/\ ∀(q:Nat) x t,w[q]? =some x->now<t->(t<=x↔(∃d∈l.take j,Cvr d (q:Int)/\t<=d.3)∨(Cvr c (q:Int)/\(q:Int)<k/\t<=c.3))) (fun k _=>(10000 - k).toNat) ?_ ⟨by omega,hu.len,hu.lo,fun q x t hx ht=> ?_⟩
 rotate_left
 ·rw[hu.at_ q x t hx ht]
  exact⟨.inl,fun o=>o.elim id fun ⟨⟨a,b⟩,k,_⟩=>by omega⟩
 rintro k w ⟨hk,hw,hlo,hat⟩
 refine atc (Cnd.mk (fun hc2=> ?_) fun hc2=>⟨by unfold InI;omega,⟨j+1,by omega,by omega,hw,hlo,fun q x t hx ht=> ?_⟩,by omega⟩)
 ·have hk0:0<=k:=by omega
  have hk1:k<10000:=by omega
  refine⟨by omega,fun y9 h9=>atc ⟨by omega,fun y13 _=>⟨by unfold InI;omega,⟨by omega,by rw[List.length_set];exact hw,fun q x hx=> ?_,fun q x t hx ht=> ?_⟩,by omega⟩⟩⟩
  ·by_cases e:k.toNat=q
   ·subst e
    rw[List.getElem?_set_self (by omega)] at hx
    cases hx
    have:=hlo _ _ h9;omega
   ·rw[List.getElem?_set_ne e] at hx;exact hlo q x hx
  ·by_cases e:k.toNat=q
   ·subst e
    rw[List.getElem?_set_self (by omega)] at hx
    cases hx
    have hkk:((k.toNat:Nat):Int)=k:=Int.toNat_of_nonneg hk0
    have hcv:Cvr c ((k.toNat:Nat):Int):=by rw[hkk];exact⟨by omega,by omega⟩
    have h1:=hat _ _ t h9 ht
    constructor
    ·intro hm
     rcases Int.le_total c.3 y9 with q|q
     ·exact (h1.1 (by omega)).imp id fun z=>⟨z.1,by omega,z.2.2⟩
     ·by_cases h3:t<=c.3
      ·exact .inr ⟨hcv,by omega,h3⟩
      ·omega
    ·rintro (z|⟨_,_,z⟩)
     ·have:=h1.2 (.inl z);omega
     ·omega
   ·rw[List.getElem?_set_ne e] at hx
    rw[hat q x t hx ht]
    exact or_congr Iff.rfl ⟨fun ⟨a,b,d⟩=>⟨a,by omega,d⟩,fun ⟨a,b,d⟩=>⟨a,by omega,d⟩⟩
 ·have hqlt:=Qa hx
  rw[hat q x t hx ht,tk]
  constructor
  ·rintro (⟨d,hd,z⟩|⟨z,_,z3⟩)
   ·exact⟨d,List.mem_append_left _ hd,z⟩
   ·exact⟨c,List.mem_append_right _ (List.mem_singleton.2 rfl),z,z3⟩
  ·rintro⟨d,hd,z,z3⟩
   rcases List.mem_append.1 hd with hd|hd
   ·exact .inl ⟨d,hd,z,z3⟩
   ·rw[List.mem_singleton.1 hd] at z z3
    have z1:=z.1
    have z2:=z.2
    exact .inr ⟨z,by omega,z3⟩
theorem w42(s:List Spn)(a b q:Int):insV (s++[Spn.mk a b]) q=true↔insV s q=true∨(a<=q/\q<b):=by
 rw[q20,Bool.or_eq_true,q3i (l:=[Spn.mk a b])]
 exact or_congr Iff.rfl ⟨fun ⟨r,hr,k⟩=>by rw[List.mem_singleton.1 hr] at k;exact k,fun k=>⟨_,List.mem_singleton.2 rfl,k⟩⟩
theorem j3k{l:List Col}{t:Col->Prop}[DecidablePred t]{K:List Spn->Prop}(hl:l.length<=1000000)(h: ∀s,s.length<=l.length->(∀q,insV s q=true↔ ∃c∈l,Cvr c q/\t c)->K s):
  Lp2 (fun (Qd:List Spn) (Z1:Int) z2w=>CAt l Z1 (fun y2=>Cnd (t y2) (Sml (Qd++[Spn.mk y2.1 y2.2]).length/\InI (Z1+1)/\z2w (Qd++[Spn.mk y2.1 y2.2]) (Z1+1)) (InI (Z1+1)/\z2w Qd (Z1+1))) (K Qd)) [] (0:Int):=by
 refine Lp2.ind (fun (s:List Spn) (i:Int)=> ∃j:Nat,i=(j:Int)/\j<=l.length/\s.length<=j/\ ∀q,insV s q=true↔ ∃c∈l.take j,Cvr c q/\t c) (fun _ (i:Int)=>(l.length - i).toNat) ?_ ⟨0,rfl,by omega,by simp,fun q=>by simp[insV]⟩
 rintro s i ⟨j,rfl,hj,hs,hq⟩
 refine Cnd.mk (fun hc=>⟨by omega,fun c hcj=> ?_⟩) fun hc=>h s (by omega) fun q=>by rw[hq q,List.take_of_length_le (by omega)]
 have hcj:l[j]? =some c:=hcj
 have tk:l.take (j+1)=l.take j++[c]:=by rw[List.take_add_one,hcj];rfl
 refine Cnd.mk (fun ht=>⟨by unfold Sml;simp;omega,by unfold InI;omega,⟨j+1,by omega,by omega,by simp;omega,fun q=> ?_⟩,by omega⟩) fun ht=>⟨by unfold InI;omega,⟨j+1,by omega,by omega,by omega,fun q=> ?_⟩,by omega⟩
 ·rw[w42,hq q,tk]
  constructor
  ·rintro (⟨d,hd,z⟩|z)
   ·exact⟨d,List.mem_append_left _ hd,z⟩
   ·exact⟨c,List.mem_append_right _ (List.mem_singleton.2 rfl),z,ht⟩
  ·rintro⟨d,hd,z⟩
   rcases List.mem_append.1 hd with hd|hd
   ·exact .inl ⟨d,hd,z⟩
   ·rw[List.mem_singleton.1 hd] at z;exact .inr z.1
 ·rw[hq q,tk]
  constructor
  ·rintro⟨d,hd,z⟩;exact⟨d,List.mem_append_left _ hd,z⟩
  ·rintro⟨d,hd,z⟩
   rcases List.mem_append.1 hd with hd|hd
   ·exact⟨d,hd,z⟩
   ·rw[List.mem_singleton.1 hd] at z;exact absurd z.2 ht
theorem j54{l:Lay_}{now:Int}{K:List Spn->Prop}(hl:l.6.length<=1000000)(h: ∀s,s.length<=1000000->(∀q,insV s q=true↔ ∃c∈l.6,Cvr c q/\now<c.3)->K s):Z6 l now K:=by
 unfold Z6
 exact fun _=>j3k (t:=fun c=>now<c.3) hl fun s hs hq=>h s (by omega) hq
end Go.En
end
