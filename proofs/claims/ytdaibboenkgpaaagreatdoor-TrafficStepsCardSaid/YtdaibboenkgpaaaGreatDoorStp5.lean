/- TrafficSteps This is part 5 of 10. Conditions: those in the statements. -/
import Derived.Test.YtdaibboenkgpaaaGreatDoorStp4
import Derived.KernelRfl
import Derived.Conc.MuLone
import GoSem.Core.Utf8
import Derived.Lib.ValidU
noncomputable section
set_option maxRecDepth 100000
open Go Go.RowKit Go.Fl Go.Fl.Lk Go.Fx
namespace Go.En
def q7f(X:J5):Con Sg:=conV [.ptr 181 [.own 228 C.node,.map C.node C.i64,.v],.v,.v,.v,.map C.a3 C.i64] [.ptr 181 [.vec 228 C.node,.map C.node C.i64,.bool],.int .i64,.int .i64,.int .i64,.map C.a3 C.i64] [.int .i64] [.ptr 181 [.vec 228 C.node,.map C.node C.i64,.bool],.same,.same,.same,.map C.a3 C.i64] fun a K=>X a.1.1 a.1.2.1 a.1.2.2.1 a.2.1 a.2.2.1 a.2.2.2.1 a.2.2.2.2.1 (fun q0 q1 q2 q3 q4=>K (q0,()) ((q1,q2,q3,()),(),(),(),q4,()))
theorem z7p:MT 167 (q7f G6):=by
 show MT _ (conV ([.ptr 181 [.own 228 C.node,.map C.node C.i64,.v],.v,.v,.v,.map C.a3 C.i64]:LP) ([.ptr 181 [.vec 228 C.node,.map C.node C.i64,.bool],.int .i64,.int .i64,.int .i64,.map C.a3 C.i64]:LV) ([.int .i64]:LV) ([.ptr 181 [.vec 228 C.node,.map C.node C.i64,.bool],.same,.same,.same,.map C.a3 C.i64]:LV) fun a K=>G6 a.1.1 a.1.2.1 a.1.2.2.1 a.2.1 a.2.2.1 a.2.2.2.1 a.2.2.2.2.1 (fun q0 q1 q2 q3 q4=>K (q0,()) ((q1,q2,q3,()),(),(),(),q4,())))
 exact mQ (l:=[(165,q1v Wb),(176,q2r Wm),(150,B5 Jh)]) (u:=4) (rk:=[.v]) ⟨q6c,z9a,z0s,trivial⟩ (by kernel_rfl) [(36,⟨bl 4951760157141239551596952607,[3,4],[(0,(181,3))],[sI 23,(.cell 0 0,.own 228 C.node),(.cell 0 2,.bool),(.obj 2,.map C.node C.i64)]⟩)] (fun X a K=>V4 Wb Wm Jh (fun ns ids full f g h known K=>X ((ns,ids,full,()),f,g,h,known,()) fun r o=>K r.1 o.1.1 o.1.2.1 o.1.2.2.1 o.2.2.2.2.1) a.1.1 a.1.2.1 a.1.2.2.1 a.2.1 a.2.2.1 a.2.2.2.1 a.2.2.2.2.1 (fun q0 q1 q2 q3 q4=>K (q0,()) ((q1,q2,q3,()),(),(),(),q4,()))) (fun _ _ _=>by kernel_rfl) fun a K h X hX=>h (fun ns ids full f g h known K=>X ((ns,ids,full,()),f,g,h,known,()) fun r o=>K r.1 o.1.1 o.1.2.1 o.1.2.2.1 o.2.2.2.2.1) fun ns ids full f g h known K hs=>hX ((ns,ids,full,()),f,g,h,known,()) (fun r o=>K r.1 o.1.1 o.1.2.1 o.1.2.2.1 o.2.2.2.2.1) hs
def Ua(X:Z9):Con Sg:=conV [.ptr 181 [.own 228 C.node,.map C.node C.i64,.v],.v,.v,.v] [.ptr 181 [.vec 228 C.node,.map C.node C.i64,.bool],.int .i64,.int .i64,.int .i64] [.int .i64] [.ptr 181 [.vec 228 C.node,.map C.node C.i64,.bool],.same,.same,.same] fun a K=>X a.1.1 a.1.2.1 a.1.2.2.1 a.2.1 a.2.2.1 a.2.2.2.1 (fun q0 q1 q2 q3=>K (q0,()) ((q1,q2,q3,()),(),(),(),()))
theorem z7q{Qu:Zp}{Q4:Wa}{Hi:J5}(h:AL [(151,Ws Qu),(164,B4 Q4),(167,q7f Hi)]):MT 152 (Ua (q6u Qu Q4 Hi)):=mP (rk:=[.v]) h []
theorem q1b:MT 152 (Ua Wz):=z7q ⟨Ht,q3h,z7p,trivial⟩
def q6d(X:q1o):Con Sg:=conV [.ptr 181 [.own 228 C.node,.map C.node C.i64,.v],.v] [.ptr 181 [.vec 228 C.node,.map C.node C.i64,.bool],.int .i64] [.int .i64] [.ptr 181 [.vec 228 C.node,.map C.node C.i64,.bool],.same] fun a K=>X a.1.1 a.1.2.1 a.1.2.2.1 a.2.1 (fun q0 q1 q2 q3=>K (q0,()) ((q1,q2,q3,()),(),()))
theorem j24{Q7:Z9}(h:AL [(152,Ua Q7)]):MT 147 (q6d (z3d Q7)):=mP (rk:=[.v]) h []
theorem j25:MT 147 (q6d U4):=j24 ⟨q1b,trivial⟩
def q6e(X:q1p):Con Sg:=conV [.ptr 181 [.own 228 C.node,.map C.node C.i64,.v],.v,.v] [.ptr 181 [.vec 228 C.node,.map C.node C.i64,.bool],.int .i64,.int .i64] [.int .i64] [.ptr 181 [.vec 228 C.node,.map C.node C.i64,.bool],.same,.same] fun a K=>X a.1.1 a.1.2.1 a.1.2.2.1 a.2.1 a.2.2.1 (fun q0 q1 q2 q3=>K (q0,()) ((q1,q2,q3,()),(),(),()))
theorem j26{Qu:Zp}{Q7:Z9}(h:AL [(151,Ws Qu),(152,Ua Q7)]):MT 148 (q6e (z3e Qu Q7)):=mP (rk:=[.v]) h []
theorem j27:MT 148 (q6e U5):=j26 ⟨Ht,q1b,trivial⟩
def q3i(X:G7):Con Sg:=conV [.ptr 181 [.own 228 C.node,.map C.node C.i64,.v],.v,.v] [.ptr 181 [.vec 228 C.node,.map C.node C.i64,.bool],.int .i64,.int .i64] [.int .i64] [.ptr 181 [.vec 228 C.node,.map C.node C.i64,.bool],.same,.same] fun a K=>X a.1.1 a.1.2.1 a.1.2.2.1 a.2.1 a.2.2.1 (fun q0 q1 q2 q3=>K (q0,()) ((q1,q2,q3,()),(),(),()))
theorem j5v{Qu:Zp}{Q7:Z9}(h:AL [(151,Ws Qu),(152,Ua Q7)]):MT 114 (q3i (z5c Qu Q7)):=mP (rk:=[.v]) h []
theorem z50:MT 114 (q3i Um):=j5v ⟨Ht,q1b,trivial⟩
def z0t(X:W5):Con Sg:=conV [.ptr 181 [.own 228 C.node,.map C.node C.i64,.v],.sl C.ex,.el C.ex] [.ptr 181 [.vec 228 C.node,.map C.node C.i64,.bool],.sl C.ex,.el C.ex] [.int .i64] [.ptr 181 [.vec 228 C.node,.map C.node C.i64,.bool],.same,.same] fun a K=>X a.1.1 a.1.2.1 a.1.2.2.1 a.2.1 a.2.2.1 (fun q0 q1 q2 q3=>K (q0,()) ((q1,q2,q3,()),(),(),()))
theorem j1i:MT 113 (z0t Bk):=by
 show MT _ (conV ([.ptr 181 [.own 228 C.node,.map C.node C.i64,.v],.sl C.ex,.el C.ex]:LP) ([.ptr 181 [.vec 228 C.node,.map C.node C.i64,.bool],.sl C.ex,.el C.ex]:LV) ([.int .i64]:LV) ([.ptr 181 [.vec 228 C.node,.map C.node C.i64,.bool],.same,.same]:LV) fun a K=>Bk a.1.1 a.1.2.1 a.1.2.2.1 a.2.1 a.2.2.1 (fun q0 q1 q2 q3=>K (q0,()) ((q1,q2,q3,()),(),(),())))
 exact mQ (l:=[(147,q6d U4),(148,q6e U5),(114,q3i Um),(149,q8m Vq),(150,B5 Jh)]) (u:=4) (rk:=[.v]) ⟨j25,j27,z50,j1e,z0s,trivial⟩ (by kernel_rfl) [(16,⟨bl 129127,[3,0,1,2],[],[sB 26]⟩),(21,⟨bl 68249843815,[3],[(0,(181,3))],[sI 7,sI 8,(.cell 0 0,.own 228 C.node),(.cell 0 2,.bool),(.obj 2,.map C.node C.i64)]⟩)] (fun X a K=>q4a U4 U5 Um Vq Jh (fun ns ids full atoms e K=>X ((ns,ids,full,()),atoms,e,()) fun r o=>K r.1 o.1.1 o.1.2.1 o.1.2.2.1) a.1.1 a.1.2.1 a.1.2.2.1 a.2.1 a.2.2.1 (fun q0 q1 q2 q3=>K (q0,()) ((q1,q2,q3,()),(),(),()))) (fun _ _ _=>by kernel_rfl) fun a K h X hX=>h (fun ns ids full atoms e K=>X ((ns,ids,full,()),atoms,e,()) fun r o=>K r.1 o.1.1 o.1.2.1 o.1.2.2.1) fun ns ids full atoms e K hs=>hX ((ns,ids,full,()),atoms,e,()) (fun r o=>K r.1 o.1.1 o.1.2.1 o.1.2.2.1) hs
def Ub(X:Ja):Con Sg:=conS [.sl C.rule] [.vec 3 C.i64,.int .i64,.bool] fun a K=>X a.1 (fun q0 q1 q2=>K (q0,q1,q2,()))
theorem z7r{z6d:z49}{q0k:Gk}{q0l:W5}{Hj:G7}(h:AL [(111,j74 z6d),(112,q4s q0k),(113,z0t q0l),(114,q3i Hj)]):MT 61 (Ub (q01 z6d q0k q0l Hj)):=mS h [(13,⟨bl 28769,[],[(0,(181,3))],[sI 7,(.slot 8,.own 3 C.i64),sI 9,(.cell 0 0,.own 228 C.node),(.cell 0 2,.bool),(.obj 2,.map C.node C.i64)]⟩)]
theorem q1c:MT 61 (Ub J6):=z7r ⟨w7s,j1g,j1i,z50,trivial⟩
def j1j(X:q99):Con Sg:=conV [.ptr 53 [.c,.v],.v] [.ptr 53 [.sl C.u8,.int .i64],.str] [.el C.layer] [.ptr 53 [.same,.int .i64],.same] fun a K=>X a.1.1 a.1.2.1 a.2.1 (fun q0 q1=>K (q0,()) (((),q1,()),(),()))
theorem w7u{Zy:Uj}{Qa:Qr}{Zz:G4}(h:AL [(18,q5q Zy),(17,Jb Qa),(19,q8j Zz)]):MT 23 (j1j (j05 Zy Qa Zz)):=mP (rk:=[.el C.layer]) h [(8,⟨bl 130099,[1],[(2,(73,6)),(0,(53,2))],[(.cell 2 1,.str),(.cell 0 1,.int .i64)]⟩),(12,⟨bl 130099,[1],[(2,(73,6)),(0,(53,2))],[(.cell 2 3,.int .i64),(.cell 0 1,.int .i64)]⟩),(17,⟨bl 130099,[1],[(2,(73,6)),(0,(53,2))],[sI 6,sI 7,(.cell 2 5,.own 130 C.cool),(.cell 0 1,.int .i64)]⟩)]
theorem w7v:MT 23 (j1j z5d):=w7u ⟨z2d,Jq,z5v,trivial⟩
def z2f(X:Rz):Con Sg:=conS [.int .i64] [.bool] fun a K=>X a.1 (fun q0=>K (q0,()))
theorem z7s:MT 50 (z2f R0):=mS (l:=[]) trivial []
def Wv(X:Zg):Con Sg:=conS [.el C.env,.str] [.int .i64] fun a K=>X a.1 a.2.1 (fun q0=>K (q0,()))
theorem Vk:MT 72 (Wv Zw):=mS (l:=[]) trivial [(5,⟨[0,1,2],[0],[],[sI 5]⟩)]
def Gz(X:Ji):Con Sg:=conS [.sl C.cool,.int .i64] [.vec 3 C.i64] fun a K=>X a.1 a.2.1 (fun q0=>K (q0,()))
theorem B6:MT 73 (Gz Z3):=mS (l:=[]) trivial [(7,⟨bl 563,[],[],[sI 6,(.obj 0,.own 3 C.i64)]⟩),(15,⟨bl 15987,[],[],[sI 7,(.obj 0,.own 3 C.i64)]⟩),(21,⟨bl 4243603187,[],[],[sI 8,(.obj 0,.own 3 C.i64)]⟩)]
def Rv(X:Jx):Con Sg:=conS [.sl C.bool] [.vec 50 C.span] fun a K=>X a.1 (fun q0=>K (q0,()))
theorem q1d:MT 77 (Rv W6):=mS (l:=[]) trivial [(7,⟨[0,2],[],[],[(.slot 3,.own 50 C.span),sI 4]⟩)]
end Go.En
end
noncomputable section
set_option maxRecDepth 100000
open Go Go.RowKit Go.Fl Go.Fl.Lk Go.Fx
namespace Go.En
def q8n(X:Rn):Con Sg:=conS [.sl C.i64,.int .i64] [.vec 50 C.span] fun a K=>X a.1 a.2.1 (fun q0=>K (q0,()))
theorem w0c{Qx:Jx}(h:AL [(77,Rv Qx)]):MT 107 (q8n (q7y Qx)):=mS h [(7,⟨bl 947,[],[],[sI 6,(.obj 0,.own 4 C.bool)]⟩)]
theorem j1k:MT 107 (q8n Un):=w0c ⟨q1d,trivial⟩
def B7(X:J4):Con Sg:=conS [.sl C.span] [.vec 4 C.bool] fun a K=>X a.1 (fun q0=>K (q0,()))
theorem q2d:MT 74 (B7 V5):=mS (l:=[]) trivial [(7,⟨bl 77,[],[],[sI 4,(.obj 0,.own 4 C.bool)]⟩),(13,⟨bl 518109,[],[],[sI 5,(.obj 0,.own 4 C.bool)]⟩)]
def q8o(X:Rp):Con Sg:=conS [.sl C.span,.sl C.span] [.vec 50 C.span] fun a K=>X a.1 a.2.1 (fun q0=>K (q0,()))
theorem w0d{Qs:J4}{Qx:Jx}(h:AL [(74,B7 Qs),(77,Rv Qx)]):MT 68 (q8o (q7z Qs Qx)):=mS h [(7,⟨bl 3955,[1],[],[sI 7,(.obj 0,.own 4 C.bool)]⟩)]
theorem j1l:MT 68 (q8o Rq):=w0d ⟨q2d,q1d,trivial⟩
def q8p(X:Rr):Con Sg:=conS [.el C.env,.str,.str,.int .i64] [.vec 50 C.span] fun a K=>X a.1 a.2.1 a.2.2.1 a.2.2.2.1 (fun q0=>K (q0,()))
theorem w0e{Qg:Zg}{Wp:Rp}{Qp:Ji}{Wq:Rn}(h:AL [(72,Wv Qg),(68,q8o Wp),(73,Gz Qp),(107,q8n Wq)]):MT 71 (q8p (z3w Qg Wp Qp Wq)):=mS h [(10,⟨bl 254751,[0],[],[(.slot 10,.own 50 C.span)]⟩),(13,⟨bl 254751,[0],[],[(.slot 10,.own 50 C.span),sI 11]⟩)]
theorem j1m:MT 71 (q8p q4b):=w0e ⟨Vk,j1l,B6,j1k,trivial⟩
def q1e(X:W7):Con Sg:=conS [.sl C.span,.sl C.span] [.vec 50 C.span] fun a K=>X a.1 a.2.1 (fun q0=>K (q0,()))
theorem w0f{Qs:J4}{Qx:Jx}(h:AL [(74,B7 Qs),(77,Rv Qx)]):MT 64 (q1e (q70 Qs Qx)):=mS h [(7,⟨bl 3955,[1],[],[sI 7,(.obj 0,.own 4 C.bool)]⟩)]
theorem q8q:MT 64 (q1e Vt):=w0f ⟨q2d,q1d,trivial⟩
def z2g(X:q02):Con Sg:=conS [.el C.env,.str,.int .i64] [.vec 50 C.span,.int .i64] fun a K=>X a.1 a.2.1 a.2.2.1 (fun q0 q1=>K (q0,q1,()))
theorem w3q{Wh:Rz}{Qg:Zg}{Uu:Rr}{Zs:W7}(h:AL [(50,z2f Wh),(72,Wv Qg),(71,q8p Uu),(64,q1e Zs)]):MT 63 (z2g (z67 Wh Qg Uu Zs)):=mS h []
theorem j4e:MT 63 (z2g q6v):=w3q ⟨z7s,Vk,j1m,q8q,trivial⟩
def q4t(X:Uo):Con Sg:=conS [.sl C.span,.int .i64] [.vec 50 C.span] fun a K=>X a.1 a.2.1 (fun q0=>K (q0,()))
theorem w0g{Qs:J4}{Qx:Jx}(h:AL [(74,B7 Qs),(77,Rv Qx)]):MT 32 (q4t (z3x Qs Qx)):=mS h [(7,⟨bl 433,[],[],[sI 1,sI 6,(.obj 0,.own 4 C.bool)]⟩)]
theorem z38:MT 32 (q4t q03):=w0g ⟨q2d,q1d,trivial⟩
def q5r(X:Bl):Con Sg:=conV [.v] [.str] [.bool] [.same] fun a K=>X a.1 (fun q0=>K (q0,()) ((),()))
theorem z51:MT 123 (q5r Bm):=⟨entB (by kernel_rfl),z5u⟩
def Hc(X:Js):Con Sg:=conS [.str] [.bool] fun a K=>X a.1 (fun q0=>K (q0,()))
theorem w3r{Ge:Bl}(h:AL [(123,q5r Ge)]):MT 84 (Hc (z68 Ge)):=mS h [(9,⟨bl 4081,[],[],[sI 3]⟩)]
theorem q1f:MT 84 (Hc U6):=w3r ⟨z51,trivial⟩
def j76(X:z5e):Con Sg:=conS [.str] [.bool] fun a K=>X a.1 (fun q0=>K (q0,()))
theorem w7w:MT 124 (j76 z5f):=mS (l:=[]) trivial [(5,⟨[0],[],[],[sI 3]⟩)]
def z52(X:q3b):Con Sg:=conS [] [.vec 9 C.str] fun _ K=>X (fun q0=>K (q0,()))
theorem j5w:MT 125 (z52 q3c):=mS (l:=[]) trivial []
def Hd(X:Jn):Con Sg:=conS [.str] [.bool] fun a K=>X a.1 (fun q0=>K (q0,()))
theorem v0v{z6e:z5e}{q3n:q3b}(h:AL [(124,j76 z6e),(125,z52 q3n)]):MT 85 (Hd (j5l z6e q3n)):=mS h [(11,⟨bl 16361,[0],[],[sI 4]⟩)]
theorem B9:MT 85 (Hd U9):=v0v ⟨w7w,j5w,trivial⟩
end Go.En
end
noncomputable section
set_option maxRecDepth 100000
open Go Go.RowKit Go.Fl Go.Fl.Lk Go.Fx
namespace Go.En
def q8r(X:Bn):Con Sg:=conS [.el C.settings] [.int .i64] fun a K=>X a.1 (fun q0=>K (q0,()))
theorem j5x{Qv:Js}{Qm:Jn}(h:AL [(84,Hc Qv),(85,Hd Qm)]):MT 39 (q8r (q71 Qv Qm)):=mS h []
theorem j5y:MT 39 (q8r q3d):=j5x ⟨q1f,B9,trivial⟩
def q8s(X:Bo):Con Sg:=conS [.sl C.decl] [.int .i64] fun a K=>X a.1 (fun q0=>K (q0,()))
theorem j5z{Qm:Jn}(h:AL [(85,Hd Qm)]):MT 40 (q8s (q72 Qm)):=mS h [(9,⟨bl 113,[],[],[sI 3]⟩)]
theorem j50:MT 40 (q8s q3e):=j5z ⟨B9,trivial⟩
def q5s(X:Gm):Con Sg:=conS [.sl C.str] [.int .i64] fun a K=>X a.1 (fun q0=>K (q0,()))
theorem j77{Qv:Js}(h:AL [(84,Hc Qv)]):MT 126 (q5s (z0a Qv)):=mS h [(9,⟨bl 113,[],[],[sI 3]⟩)]
theorem z8o:MT 126 (q5s q14):=j77 ⟨q1f,trivial⟩
def j78(X:z5g):Con Sg:=conS [.el C.ex] [.bool] fun a K=>X a.1 (fun q0=>K (q0,()))
theorem w7x:MT 127 (j78 z5h):=mS (l:=[]) trivial []
def z39(X:q4c):Con Sg:=conS [.el C.ex] [.bool] fun a K=>X a.1 (fun q0=>K (q0,()))
theorem w0h{Z4:Gj}(h:AL [(154,q4r Z4)]):MT 177 (z39 (z3y Z4)):=mS h [(20,⟨bl 16327,[0],[],[sB 3,sB 4]⟩)]
theorem w0i:MT 177 (z39 q73):=w0h ⟨q8k,trivial⟩
def j4f(X:z1u):Con Sg:=conS [.el C.val] [.bool] fun a K=>X a.1 (fun q0=>K (q0,()))
theorem w3s:MT 172 (j4f z1v):=mS (l:=[]) trivial []
def q9m(X:H5):Con Sg:=conS [.str] [.int .i64,.int .i64] fun a K=>X a.1 (fun q0 q1=>K (q0,q1,()))
theorem z9b:MT 178 (q9m H6):=mS (l:=[]) trivial [(8,⟨bl 269,[],[],[(.slot 4,.str)]⟩),(11,⟨[0,4,8],[],[],[sI 5]⟩),(31,⟨bl 562915601547569,[],[],[sI 6,sI 7]⟩)]
def z7t(X:q6w):Con Sg:=conS [.str] [.el C.a3,.bool] fun a K=>X a.1 (fun q0 q1=>K (q0,q1,()))
theorem w3t{U3:H5}(h:AL [(178,q9m U3)]):MT 173 (z7t (z69 U3)):=mS h [(9,⟨[0,2,4],[],[(1,(238,3)),(0,(238,3))],[sI 5,sI 6,(.cell 1 0,.int .i64),(.cell 1 1,.int .i64),(.cell 1 2,.int .i64),(.cell 0 0,.int .i64),(.cell 0 1,.int .i64),(.cell 0 2,.int .i64)]⟩),(15,⟨bl 19669,[1,0],[],[sI 5]⟩)]
theorem w3u:MT 173 (z7t z1w):=w3t ⟨z9b,trivial⟩
def j1n(X:z0b):Con Sg:=conS [.sl C.str] [.int .i64] fun a K=>X a.1 (fun q0=>K (q0,()))
theorem w7y{Qv:Js}(h:AL [(84,Hc Qv)]):MT 174 (j1n (j06 Qv)):=mS h [(9,⟨bl 225,[],[],[sI 3]⟩),(19,⟨bl 4073,[],[],[sI 4]⟩)]
theorem w7z:MT 174 (j1n z5i):=w7y ⟨q1f,trivial⟩
def z2h(X:q04):Con Sg:=conS [.el C.val] [.int .i64] fun a K=>X a.1 (fun q0=>K (q0,()))
theorem w3v{z2o:z1u}{Qv:Js}{z2p:q6w}{z6f:z0b}(h:AL [(172,j4f z2o),(84,Hc Qv),(173,z7t z2p),(174,j1n z6f)]):MT 162 (z2h (z7a z2o Qv z2p z6f)):=mS h []
theorem j4g:MT 162 (z2h q6x):=w3v ⟨w3s,q1f,w3u,w7z,trivial⟩
def j1o(X:z5j):Con Sg:=conS [.el C.ex] [.int .i64] fun a K=>X a.1 (fun q0=>K (q0,()))
theorem w70{q86:q4c}{Z4:Gj}{Qm:Jn}{Wi:q04}(h:AL [(177,z39 q86),(154,q4r Z4),(85,Hd Qm),(162,z2h Wi)]):MT 171 (j1o (z5k q86 Z4 Qm Wi)):=mS h [(17,⟨bl 134217667,[0],[],[sI 3]⟩),(31,⟨bl 9412450882139616968651,[0],[],[sI 4]⟩)]
theorem w71:MT 171 (j1o q15):=w70 ⟨w0i,q8k,B9,j4g,trivial⟩
def j79(X:q4d):Con Sg:=conV [.el C.ex,.v,.ptr 3 [.v]] [.el C.ex,.int .i64,.ptr 3 [.int .i64]] [.int .i64] [.same,.same,.ptr 3 [.int .i64]] fun a K=>X a.1 a.2.1 a.2.2.1.1 (fun q0 q1=>K (q0,()) ((),(),(q1,()),()))
theorem w72:MT 161 (j79 z0c):=by
 show MT _ (conV ([.el C.ex,.v,.ptr 3 [.v]]:LP) ([.el C.ex,.int .i64,.ptr 3 [.int .i64]]:LV) ([.int .i64]:LV) ([.same,.same,.ptr 3 [.int .i64]]:LV) fun a K=>z0c a.1 a.2.1 a.2.2.1.1 (fun q0 q1=>K (q0,()) ((),(),(q1,()),())))
 exact mQ (l:=[(171,j1o q15)]) (u:=4) (rk:=[.v]) ⟨w71,trivial⟩ (by kernel_rfl) [(21,⟨bl 33553551,[1],[(0,(3,1))],[sI 8,(.cell 0 0,.int .i64)]⟩)] (fun X a K=>z5l q15 (fun e depth n K=>X (e,depth,(n,()),()) fun r o=>K r.1 o.2.2.1.1) a.1 a.2.1 a.2.2.1.1 (fun q0 q1=>K (q0,()) ((),(),(q1,()),()))) (fun _ _ _=>by kernel_rfl) fun _ K h X hX=>h (fun e depth n K=>X (e,depth,(n,()),()) fun r o=>K r.1 o.2.2.1.1) fun e depth n K hs=>hX (e,depth,(n,()),()) (fun r o=>K r.1 o.2.2.1.1) hs
end Go.En
end
noncomputable section
set_option maxRecDepth 100000
open Go Go.RowKit Go.Fl Go.Fl.Lk Go.Fx
namespace Go.En
def z0u(X:Bp):Con Sg:=conS [.el C.ex] [.int .i64] fun a K=>X a.1 (fun q0=>K (q0,()))
theorem w73{z6g:q4d}(h:AL [(161,j79 z6g)]):MT 128 (z0u (z5m z6g)):=mS h []
theorem j1p:MT 128 (z0u q16):=w73 ⟨w72,trivial⟩
def z0v(X:q17):Con Sg:=conS [.el C.seg] [.int .i64] fun a K=>X a.1 (fun q0=>K (q0,()))
theorem j8a{Qm:Jn}{Wy:Gm}{z6h:z5g}{Vl:Bp}(h:AL [(85,Hd Qm),(126,q5s Wy),(127,j78 z6h),(128,z0u Vl)]):MT 86 (z0v (q5g Qm Wy z6h Vl)):=mS h []
theorem j8b:MT 86 (z0v R1):=j8a ⟨B9,z8o,w7x,j1p,trivial⟩
def q8t(X:Bq):Con Sg:=conS [.sl C.seg] [.int .i64] fun a K=>X a.1 (fun q0=>K (q0,()))
theorem j51{q5z:q17}(h:AL [(86,z0v q5z)]):MT 41 (q8t (q3f q5z)):=mS h [(9,⟨bl 225,[],[],[sI 3]⟩)]
theorem j52:MT 41 (q8t G8):=j51 ⟨j8b,trivial⟩
def q4u(X:Gn):Con Sg:=conS [.el C.flag] [.int .i64] fun a K=>X a.1 (fun q0=>K (q0,()))
theorem j1q{Wi:q04}(h:AL [(162,z2h Wi)]):MT 129 (q4u (Br Wi)):=mS h [(15,⟨bl 8139,[0],[],[sI 4]⟩)]
theorem j1r:MT 129 (q4u V6):=j1q ⟨j4g,trivial⟩
def q0a(X:Vh):Con Sg:=conS [.sl C.prereq] [.int .i64] fun a K=>X a.1 (fun q0=>K (q0,()))
theorem z54{Qm:Jn}(h:AL [(85,Hd Qm)]):MT 130 (q0a (Ga Qm)):=mS h [(9,⟨bl 113,[],[],[sI 3]⟩)]
theorem z55:MT 130 (q0a Wf):=z54 ⟨B9,trivial⟩
def z0w(X:q18):Con Sg:=conS [.sl C.target,.int .i64] [.int .i64] fun a K=>X a.1 a.2.1 (fun q0=>K (q0,()))
theorem j8c{Qm:Jn}{Wy:Gm}(h:AL [(85,Hd Qm),(126,q5s Wy)]):MT 131 (z0w (q5h Qm Wy)):=mS h [(9,⟨bl 899,[],[],[sI 5]⟩)]
theorem j8d:MT 131 (z0w R2):=j8c ⟨B9,z8o,trivial⟩
def z7u(X:q3v):Con Sg:=conS [.sl C.range,.int .i64] [.int .i64] fun a K=>X a.1 a.2.1 (fun q0=>K (q0,()))
theorem j4h:MT 135 (z7u q6y):=mS (l:=[]) trivial [(11,⟨bl 899,[],[],[sI 5,sI 6]⟩)]
def z2i(X:q05):Con Sg:=conS [.el C.serve,.int .i64] [.int .i64] fun a K=>X a.1 a.2.1 (fun q0=>K (q0,()))
theorem w3w{Qm:Jn}{Qv:Js}{Hk:q3v}(h:AL [(85,Hd Qm),(84,Hc Qv),(135,z7u Hk)]):MT 133 (z2i (z1x Qm Qv Hk)):=mS h []
theorem j4i:MT 133 (z2i q06):=w3w ⟨B9,q1f,j4h,trivial⟩
def z7v(X:q6z):Con Sg:=conS [.sl C.rule,.int .i64] [.int .i64] fun a K=>X a.1 a.2.1 (fun q0=>K (q0,()))
theorem w3x{Qm:Jn}{Vl:Bp}{Hl:q05}(h:AL [(85,Hd Qm),(128,z0u Vl),(133,z2i Hl)]):MT 132 (z7v (z1y Qm Vl Hl)):=mS h [(9,⟨bl 3587,[],[],[sI 5]⟩),(19,⟨bl 33357347,[],[],[sI 6]⟩)]
theorem w3y:MT 132 (z7v q3w):=w3x ⟨B9,j1p,j4i,trivial⟩
def j1s(X:z0d):Con Sg:=conS [.el C.flag] [.int .i64] fun a K=>X a.1 (fun q0=>K (q0,()))
theorem w74{Qm:Jn}{q0m:Gn}{Gf:Vh}{q50:q18}{z2q:q6z}{Hl:q05}(h:AL [(85,Hd Qm),(129,q4u q0m),(130,q0a Gf),(131,z0w q50),(132,z7v z2q),(133,z2i Hl)]):MT 87 (j1s (z5n Qm q0m Gf q50 z2q Hl)):=mS h []
theorem w75:MT 87 (j1s q60):=w74 ⟨B9,j1r,z55,j8d,w3y,j4i,trivial⟩
def z7w(X:q61):Con Sg:=conS [.sl C.flag] [.int .i64] fun a K=>X a.1 (fun q0=>K (q0,()))
theorem w3z{z6i:z0d}(h:AL [(87,j1s z6i)]):MT 42 (z7w (z1z z6i)):=mS h [(9,⟨bl 225,[],[],[sI 3]⟩)]
theorem w30:MT 42 (z7w q3x):=w3z ⟨w75,trivial⟩
def z7x(X:q62):Con Sg:=conS [.el C.layer] [.int .i64] fun a K=>X a.1 (fun q0=>K (q0,()))
theorem w31{Qm:Jn}{Qv:Js}(h:AL [(85,Hd Qm),(84,Hc Qv)]):MT 88 (z7x (z10 Qm Qv)):=mS h [(21,⟨bl 2199023255523,[0],[],[sI 3]⟩)]
theorem w32:MT 88 (z7x q3y):=w31 ⟨B9,q1f,trivial⟩
end Go.En
end
noncomputable section
set_option maxRecDepth 100000
open Go Go.RowKit Go.Fl Go.Fl.Lk Go.Fx
namespace Go.En
def z4a(X:q4e):Con Sg:=conS [.sl C.layer] [.int .i64] fun a K=>X a.1 (fun q0=>K (q0,()))
theorem w0j{z2r:q62}(h:AL [(88,z7x z2r)]):MT 43 (z4a (q74 z2r)):=mS h [(9,⟨bl 225,[],[],[sI 3]⟩)]
theorem w0k:MT 43 (z4a q07):=w0j ⟨w32,trivial⟩
def j4j(X:z11):Con Sg:=conS [.sl C.span] [.int .i64] fun a K=>X a.1 (fun q0=>K (q0,()))
theorem w33:MT 134 (j4j z13):=mS (l:=[]) trivial [(9,⟨bl 113,[],[],[sI 3]⟩)]
def q4v(X:Gq):Con Sg:=conS [.el C.exper] [.int .i64] fun a K=>X a.1 (fun q0=>K (q0,()))
theorem j1t{Qm:Jn}{Qv:Js}{z2s:z11}{Hk:q3v}{Vl:Bp}(h:AL [(85,Hd Qm),(84,Hc Qv),(134,j4j z2s),(135,z7u Hk),(128,z0u Vl)]):MT 89 (q4v (Bs Qm Qv z2s Hk Vl)):=mS h []
theorem j1u:MT 89 (q4v V7):=j1t ⟨B9,q1f,w33,j4h,j1p,trivial⟩
def q2s(X:Uz):Con Sg:=conS [.sl C.exper] [.int .i64] fun a K=>X a.1 (fun q0=>K (q0,()))
theorem z9c{q0n:Gq}(h:AL [(89,q4v q0n)]):MT 44 (q2s (H7 q0n)):=mS h [(9,⟨bl 225,[],[],[sI 3]⟩)]
theorem z9d:MT 44 (q2s Vc):=z9c ⟨j1u,trivial⟩
def Rd(X:Wn):Con Sg:=conS [.el C.env] [.int .i64] fun a K=>X a.1 (fun q0=>K (q0,()))
theorem z9e{q3o:Bn}{q3p:Bo}{q3q:Bq}{z2t:q61}{q87:q4e}{Ri:Uz}(h:AL [(39,q8r q3o),(40,q8s q3p),(41,q8t q3q),(42,z7w z2t),(43,z4a q87),(44,q2s Ri)]):MT 11 (Rd (H8 q3o q3p q3q z2t q87 Ri)):=mS h []
theorem q9n:MT 11 (Rd Wo):=z9e ⟨j5y,j50,j52,w30,w0k,z9d,trivial⟩
def z2j(X:R3):Con Sg:=conS [.sl C.seg] [.vec 9 C.str] fun a K=>X a.1 (fun q0=>K (q0,()))
theorem z7y:MT 115 (z2j q63):=mS (l:=[]) trivial [(7,⟨[0,2],[],[],[(.slot 3,.own 9 C.str),sI 4]⟩)]
def z95(X:q75):Con Sg:=conS [.sl C.str,.str] [.bool] fun a K=>X a.1 a.2.1 (fun q0=>K (q0,()))
theorem j53:MT 153 (z95 q5i):=mS (l:=[]) trivial [(5,⟨[0,1],[],[],[sI 5]⟩)]
def j1v(X:z0e):Con Sg:=conS [.sl C.decl,.str,.str] [.int .i64] fun a K=>X a.1 a.2.1 a.2.2.1 (fun q0=>K (q0,()))
theorem j8e:MT 155 (j1v q19):=mS (l:=[]) trivial [(5,⟨[0,1,2],[],[],[sI 7]⟩)]
def j8f(X:j07):Con Sg:=conS [.int .i64,.el C.ex] [.bool] fun a K=>X a.1 a.2.1 (fun q0=>K (q0,()))
theorem w76:MT 156 (j8f q4f):=mS (l:=[]) trivial [(11,⟨bl 8075,[0],[],[sI 5]⟩),(36,⟨bl 8795019288539,[0],[],[sB 46]⟩)]
def z56(X:Gs):Con Sg:=conV [.sl C.decl,.sl C.str,.el C.ex] [.sl C.decl,.sl C.str,.el C.ex] [.int .i64] [.same,.same,.same] fun a K=>X a.1 a.2.1 a.2.2.1 (fun q0=>K (q0,()) ((),(),(),()))
theorem j1w:MT 116 (z56 q64):=by
 show MT _ (conV ([.sl C.decl,.sl C.str,.el C.ex]:LP) ([.sl C.decl,.sl C.str,.el C.ex]:LV) ([.int .i64]:LV) ([.same,.same,.same]:LV) fun a K=>q64 a.1 a.2.1 a.2.2.1 (fun q0=>K (q0,()) ((),(),(),())))
 exact mQ (l:=[(153,z95 q5i),(154,q4r Wl),(155,j1v q19),(156,j8f q4f)]) (u:=4) (rk:=[.v]) ⟨j53,q8k,j8e,w76,trivial⟩ (by kernel_rfl) [(18,⟨bl 1047591,[0],[],[]⟩),(21,⟨bl 1047591,[0],[],[sI 8]⟩)] (fun X a K=>j08 q5i Wl q19 q4f (fun l segments e K=>X (l,segments,e,()) fun r _=>K r.1) a.1 a.2.1 a.2.2.1 (fun q0=>K (q0,()) ((),(),(),()))) (fun _ _ _=>by kernel_rfl) fun a K h X hX=>h (fun l segments e K=>X (l,segments,e,()) fun r _=>K r.1) fun l segments e K hs=>hX (l,segments,e,()) (fun r _=>K r.1) hs
def z96(X:q76):Con Sg:=conS [.sl C.str,.str] [.sl C.str] fun a K=>X a.1 a.2.1 (fun q0=>K (q0,()))
theorem j54:MT 169 (z96 q5j):=mS (l:=[]) trivial [(5,⟨[0,1,4],[],[],[sI 5]⟩)]
def z8p(X:Gt):Con Sg:=conV [.sl C.str,.el C.ex] [.sl C.str,.el C.ex] [.sl C.str] [.same,.same] fun a K=>X a.1 a.2.1 (fun q0=>K (q0,()) ((),(),()))
theorem j8g:MT 170 (z8p q5k):=by
 show MT _ (conV ([.sl C.str,.el C.ex]:LP) ([.sl C.str,.el C.ex]:LV) ([.sl C.str]:LV) ([.same,.same]:LV) fun a K=>q5k a.1 a.2.1 (fun q0=>K (q0,()) ((),(),())))
 exact mQ (l:=[(169,z96 q5j)]) (u:=4) (rk:=[.sl C.str]) ⟨j54,trivial⟩ (by kernel_rfl) [(6,⟨[1,3,4],[0],[],[(.slot 0,.sl C.str)]⟩),(9,⟨[1,3,4],[0],[],[(.slot 0,.sl C.str),sI 5]⟩)] (fun X a K=>z0f q5j (fun l e K=>X (l,e,()) fun r _=>K r.1) a.1 a.2.1 (fun q0=>K (q0,()) ((),(),()))) (fun _ _ _=>by kernel_rfl) fun _ K h X hX=>h (fun l e K=>X (l,e,()) fun r _=>K r.1) fun l e K hs=>hX (l,e,()) (fun r _=>K r.1) hs
end Go.En
end
noncomputable section
set_option maxRecDepth 100000
open Go Go.RowKit Go.Fl Go.Fl.Lk Go.Fx
namespace Go.En
def z0x(X:q2a):Con Sg:=conS [.el C.ex] [.sl C.str] fun a K=>X a.1 (fun q0=>K (q0,()))
theorem j8h{q51:Gt}(h:AL [(170,z8p q51)]):MT 158 (z0x (z0g q51)):=mS h []
theorem j8i:MT 158 (z0x q5l):=j8h ⟨j8g,trivial⟩
def z4b(X:q4g):Con Sg:=conS [.sl C.seg] [.vec 216 C.edge] fun a K=>X a.1 (fun q0=>K (q0,()))
theorem w0l{q52:q2a}(h:AL [(158,z0x q52)]):MT 118 (z4b (z3z q52)):=mS h [(7,⟨[0,2],[],[],[(.slot 3,.own 216 C.edge),sI 4]⟩),(15,⟨bl 518069,[],[],[(.slot 3,.own 216 C.edge),sI 6]⟩)]
theorem w0m:MT 118 (z4b q77):=w0l ⟨j8i,trivial⟩
def z7z(X:q65):Con Sg:=conS [.sl C.edge,.str] [.sl C.str] fun a K=>X a.1 a.2.1 (fun q0=>K (q0,()))
theorem w34{q0o:q75}{q0p:q76}(h:AL [(153,z95 q0o),(169,z96 q0p)]):MT 168 (z7z (z7b q0o q0p)):=mS h [(7,⟨bl 1555,[],[],[(.slot 5,.sl C.str),(.slot 6,.sl C.str)]⟩),(15,⟨bl 522899,[],[],[(.slot 5,.sl C.str),(.slot 6,.sl C.str),sI 8]⟩)]
theorem w35:MT 168 (z7z z14):=w34 ⟨j53,j54,trivial⟩
def z4c(X:q4h):Con Sg:=conS [.sl C.str,.sl C.edge] [.sl C.str] fun a K=>X a.1 a.2.1 (fun q0=>K (q0,()))
theorem w0n{z2u:q65}{q0o:q75}{q0p:q76}(h:AL [(168,z7z z2u),(153,z95 q0o),(169,z96 q0p)]):MT 157 (z4c (z30 z2u q0o q0p)):=mS h [(7,⟨[0,1,4],[],[],[(.slot 5,.sl C.str),sI 6]⟩)]
theorem w0o:MT 157 (z4c q78):=w0n ⟨w35,j53,j54,trivial⟩
def z4d(X:q4i):Con Sg:=conS [.sl C.str,.sl C.edge] [.str,.bool] fun a K=>X a.1 a.2.1 (fun q0 q1=>K (q0,q1,()))
theorem w0p{q88:q4h}(h:AL [(157,z4c q88)]):MT 117 (z4d (z31 q88)):=mS h []
theorem w0q:MT 117 (z4d q79):=w0p ⟨w0o,trivial⟩
def q5t(X:Uf):Con Sg:=conS [.el C.env,.str] [.int .i64] fun a K=>X a.1 a.2.1 (fun q0=>K (q0,()))
theorem z0y:MT 104 (q5t Gu):=mS (l:=[]) trivial [(5,⟨[0,1,2],[0],[],[sI 5]⟩)]
def z70(X:q66):Con Sg:=conS [.sl C.decl,.el C.serve] [.int .i64] fun a K=>X a.1 a.2.1 (fun q0=>K (q0,()))
theorem w36{q45:z0e}(h:AL [(155,j1v q45)]):MT 159 (z70 (z7c q45)):=mS h []
theorem w37:MT 159 (z70 z15):=w36 ⟨j8e,trivial⟩
def q4w(X:Gv):Con Sg:=conS [.el C.env,.el C.flag] [.int .i64] fun a K=>X a.1 a.2.1 (fun q0=>K (q0,()))
theorem j1x{Wj:R3}{Z5:Uf}{Vm:Gs}{q7n:q66}{Q0:Ja}(h:AL [(115,z2j Wj),(104,q5t Z5),(116,z56 Vm),(159,z70 q7n),(61,Ub Q0)]):MT 119 (q4w (q4j Wj Z5 Vm q7n Q0)):=mS h [(7,⟨bl 229423,[1,0],[],[sI 6,(.obj 2,.own 9 C.str)]⟩),(23,⟨bl 8355951,[1,0],[],[sI 8,(.obj 2,.own 9 C.str)]⟩)]
theorem j1y:MT 119 (q4w Bt):=j1x ⟨z7y,z0y,j1w,w37,q1c,trivial⟩
def z3h(X:q1q):Con Sg:=conS [.el C.env] [.vec 9 C.str] fun a K=>X a.1 (fun q0=>K (q0,()))
theorem j28:MT 120 (z3h q59):=mS (l:=[]) trivial [(7,⟨[0,1,2],[0],[],[(.slot 3,.own 9 C.str),sI 4]⟩)]
def z0z(X:Bu):Con Sg:=conS [.el C.env] [.vec 216 C.edge] fun a K=>X a.1 (fun q0=>K (q0,()))
theorem j1z:MT 121 (z0z Bv):=mS (l:=[]) trivial [(7,⟨[0,1,2],[0],[],[(.slot 3,.own 216 C.edge),sI 4]⟩),(13,⟨bl 2007,[],[],[(.slot 3,.own 216 C.edge),sI 5]⟩)]
def q2e(X:Vi):Con Sg:=conS [.sl C.span,.sl C.span] [.vec 50 C.span] fun a K=>X a.1 a.2.1 (fun q0=>K (q0,()))
theorem j8j{Qs:J4}{Qx:Jx}(h:AL [(74,B7 Qs),(77,Rv Qx)]):MT 70 (q2e (q5m Qs Qx)):=mS h [(7,⟨bl 3955,[1],[],[sI 7,(.obj 0,.own 4 C.bool)]⟩)]
theorem z00:MT 70 (q2e Wx):=j8j ⟨q2d,q1d,trivial⟩
def G0(X:Wc):Con Sg:=conS [.el C.env,.int .i64] [.int .i64] fun a K=>X a.1 a.2.1 (fun q0=>K (q0,()))
theorem z01{Qg:Zg}{Z5:Uf}{Wj:R3}{Vm:Gs}{Z6:Vi}(h:AL [(72,Wv Qg),(104,q5t Z5),(115,z2j Wj),(116,z56 Vm),(70,q2e Z6)]):MT 122 (G0 (Vj Qg Z5 Wj Vm Z6)):=mS h [(13,⟨bl 17179836647,[1,0],[],[sI 8]⟩),(35,⟨bl 151078797935433964553191,[1,0],[],[(.slot 10,.own 50 C.span),sI 11,(.obj 4,.own 9 C.str)]⟩),(51,⟨bl 159723976762087930960904772882407,[1,0],[],[sI 13,(.obj 9,.own 50 C.span),(.obj 6,.own 50 C.span),(.obj 4,.own 9 C.str)]⟩)]
theorem z02:MT 122 (G0 Jt):=z01 ⟨Vk,z0y,z7y,j1w,z00,trivial⟩
end Go.En
end
noncomputable section
set_option maxRecDepth 100000
open Go Go.RowKit Go.Fl Go.Fl.Lk Go.Fx
namespace Go.En
def q1g(X:V8):Con Sg:=conS [.el C.env] [.str,.int .i64] fun a K=>X a.1 (fun q0 q1=>K (q0,q1,()))
theorem z71{Z8:Wn}{Wj:R3}{Vm:Gs}{q89:q4g}{q46:q4i}{q0q:Gv}{q10:q1q}{q0r:Bu}{Vn:Wc}(h:AL [(11,Rd Z8),(115,z2j Wj),(116,z56 Vm),(118,z4b q89),(117,z4d q46),(119,q4w q0q),(120,z3h q10),(121,z0z q0r),(122,G0 Vn)]):MT 65 (q1g (G9 Z8 Wj Vm q89 q46 q0q q10 q0r Vn)):=mS h [(13,⟨bl 15663155,[0],[],[sI 6,(.obj 1,.own 9 C.str)]⟩),(33,⟨bl 294571444427585160051,[0],[],[sI 10,(.obj 1,.own 9 C.str),(.obj 4,.own 216 C.edge)]⟩),(51,⟨bl 10121397798090180814242575234931,[0],[],[sI 14,(.obj 8,.own 9 C.str),(.obj 9,.own 216 C.edge),(.obj 4,.own 216 C.edge),(.obj 1,.own 9 C.str)]⟩)]
theorem z72:MT 65 (q1g W0):=z71 ⟨q9n,z7y,j1w,w0m,w0q,j1y,j28,j1z,z02,trivial⟩
def q8u(X:Rs):Con Sg:=conS [.el C.env] [.bool] fun a K=>X a.1 (fun q0=>K (q0,()))
theorem w0r{Hm:V8}(h:AL [(65,q1g Hm)]):MT 25 (q8u (q8a Hm)):=mS h []
theorem j10:MT 25 (q8u Up):=w0r ⟨z72,trivial⟩
def q4x(X:Gw):Con Sg:=conV [.ptr 53 [.c,.v],.v] [.ptr 53 [.sl C.u8,.int .i64],.int .i64] [.el C.env] [.ptr 53 [.same,.int .i64],.same] fun a K=>X a.1.1 a.1.2.1 a.2.1 (fun q0 q1=>K (q0,()) (((),q1,()),(),()))
theorem j11{Zv:Ue}{q53:q13}{Qa:Qr}{q0i:z1r}{Zr:Gi}{J3:Bg}{Vo:q36}{Z7:V0}{Vz:Bh}{Q0:Ja}{z6j:q99}{Zy:Uj}{q0j:q34}{Hn:q02}{Zz:G4}{Zs:W7}{Jz:Uo}{Wr:Rs}(h:AL [(16,q5p Zv),(20,z0p q53),(17,Jb Qa),(21,j5s q0i),(59,q7e Zr),(30,z2e J3),(31,z5y Vo),(60,q4q Z7),(58,z94 Vz),(61,Ub Q0),(23,j1j z6j),(18,q5q Zy),(62,z5x q0j),(63,z2g Hn),(19,q8j Zz),(64,q1e Zs),(32,q4t Jz),(25,q8u Wr)]):MT 7 (q4x (q4k Zv q53 Qa q0i Zr J3 Vo Z7 Vz Q0 z6j Zy q0j Hn Zz Zs Jz Wr)):=mP (rk:=[.el C.env]) h [(8,⟨bl 3123,[1],[(3,(35,8)),(0,(53,2))],[(.cell 3 0,.str),(.cell 3 1,.str),(.cell 3 2,.int .i64),(.cell 0 1,.int .i64),(.obj 2,.own 92 C.decl)]⟩),(15,⟨bl 98569331,[2,1],[(0,(53,2)),(3,(35,8))],[sI 7,(.cell 0 1,.int .i64),(.cell 3 5,.own 69 C.flag),(.obj 10,.own 87 C.seg),(.obj 12,.own 73 C.layer),(.obj 13,.own 79 C.exper)]⟩),(23000009,⟨bl 1073218007,[22,21],[(0,(53,2)),(23,(69,13))],[sI 9,(.cell 0 1,.int .i64),(.cell 23 2,.own 118 C.val),(.obj 13,.own 79 C.exper),(.obj 12,.own 73 C.layer),(.obj 17,.own 69 C.flag),(.obj 10,.own 87 C.seg)]⟩),(23000019,⟨bl 545366356788183,[22,21],[(23,(69,13)),(0,(53,2))],[sI 10,(.cell 23 5,.own 121 C.prereq),(.cell 0 1,.int .i64),(.obj 10,.own 87 C.seg),(.obj 17,.own 69 C.flag),(.obj 12,.own 73 C.layer),(.obj 13,.own 79 C.exper),(.obj 27,.own 118 C.val)]⟩),(23000029,⟨bl 17996814912849879,[22,21],[(23,(69,13)),(0,(53,2))],[sI 11,(.cell 23 6,.own 123 C.target),(.cell 0 1,.int .i64),(.obj 27,.own 118 C.val),(.obj 13,.own 79 C.exper),(.obj 12,.own 73 C.layer),(.obj 17,.own 69 C.flag),(.obj 10,.own 87 C.seg),(.obj 34,.own 121 C.prereq)]⟩),(23000038,⟨bl 19688565898261847554177638359,[23],[(51,(123,3)),(0,(53,2))],[(.cell 51 0,.str),(.cell 0 1,.int .i64),(.obj 50,.own 9 C.str),(.obj 34,.own 121 C.prereq),(.obj 10,.own 87 C.seg),(.obj 17,.own 69 C.flag),(.obj 12,.own 73 C.layer),(.obj 13,.own 79 C.exper),(.obj 27,.own 118 C.val),(.obj 42,.own 123 C.target)]⟩),(23000060,⟨bl 324518589926201333218846174621655,[22,21],[(0,(53,2)),(23,(69,13))],[(.cell 0 1,.int .i64),(.cell 23 7,.own 126 C.rule),(.obj 50,.own 9 C.str),(.obj 34,.own 121 C.prereq),(.obj 10,.own 87 C.seg),(.obj 17,.own 69 C.flag),(.obj 12,.own 73 C.layer),(.obj 13,.own 79 C.exper),(.obj 27,.own 118 C.val),(.obj 42,.own 123 C.target)]⟩),(23000047,⟨bl 324518589926201333218846174621655,[],[(0,(53,2)),(23,(69,13))],[sI 14,(.cell 0 1,.int .i64),(.cell 23 7,.own 126 C.rule),(.obj 50,.own 9 C.str),(.obj 34,.own 121 C.prereq),(.obj 10,.own 87 C.seg),(.obj 17,.own 69 C.flag),(.obj 12,.own 73 C.layer),(.obj 13,.own 79 C.exper),(.obj 27,.own 118 C.val),(.obj 42,.own 123 C.target)]⟩),(25,⟨bl 387030204812531,[2,1],[(0,(53,2)),(3,(35,8))],[sI 8,(.cell 0 1,.int .i64),(.cell 3 6,.own 73 C.layer),(.obj 13,.own 79 C.exper),(.obj 10,.own 87 C.seg),(.obj 17,.own 69 C.flag)]⟩),(35,⟨bl 811665570522726403571,[2,1],[(0,(53,2)),(3,(35,8))],[sI 9,(.cell 0 1,.int .i64),(.cell 3 7,.own 79 C.exper),(.obj 17,.own 69 C.flag),(.obj 10,.own 87 C.seg),(.obj 24,.own 73 C.layer)]⟩),(25000010,⟨bl 140737488348975,[37,36,35],[(40,(79,12)),(0,(53,2))],[(.cell 40 4,.int .i64),(.cell 0 1,.int .i64),(.obj 39,.own 157 C.range),(.obj 31,.own 79 C.exper),(.obj 24,.own 73 C.layer),(.obj 17,.own 69 C.flag),(.obj 10,.own 87 C.seg)]⟩),(25000014,⟨bl 140737488348975,[37,36,35],[(40,(79,12)),(0,(53,2))],[(.cell 40 7,.int .i64),(.cell 40 8,.str),(.cell 40 9,.str),(.cell 40 10,.sl C.val),(.cell 40 11,.sl C.ex),(.cell 0 1,.int .i64),(.obj 10,.own 87 C.seg),(.obj 17,.own 69 C.flag),(.obj 24,.own 73 C.layer),(.obj 31,.own 79 C.exper),(.obj 39,.own 157 C.range)]⟩)]
theorem j12:MT 7 (q4x Bw):=j11 ⟨z0o,j71,Jq,w2p,z5w,z92,j73,z0q,j5u,q1c,w7v,z2d,j72,j4e,z5v,q8q,z38,j10,trivial⟩
def Gb(X:Jf):Con Sg:=conS [.el C.env,.str] [.int .i64] fun a K=>X a.1 a.2.1 (fun q0=>K (q0,()))
theorem q0b:MT 101 (Gb Wg):=mS (l:=[]) trivial [(5,⟨[0,1,2],[0],[],[sI 5]⟩)]
def q7g(X:Ha):Con Sg:=conS [.el C.env,.str,.int .i64] [.int .i64,.int .i64] fun a K=>X a.1 a.2.1 a.2.2.1 (fun q0 q1=>K (q0,q1,()))
theorem w38{Qz:Jf}{Wh:Rz}{Qg:Zg}(h:AL [(101,Gb Qz),(50,z2f Wh),(72,Wv Qg)]):MT 66 (q7g (z7d Qz Wh Qg)):=mS h []
theorem z73:MT 66 (q7g q3z):=w38 ⟨q0b,z7s,Vk,trivial⟩
def z74(X:q67):Con Sg:=conS [.sl C.span] [.int .i64] fun a K=>X a.1 (fun q0=>K (q0,()))
theorem w39{Qs:J4}(h:AL [(74,B7 Qs)]):MT 67 (z74 (z7e Qs)):=mS h [(9,⟨bl 213,[0],[],[sI 3,sI 5]⟩)]
theorem w4a:MT 67 (z74 z16):=w39 ⟨q2d,trivial⟩
def z2k(X:R4):Con Sg:=conS [.el C.env,.int .i64,.el C.exper] [.el C.env] fun a K=>X a.1 a.2.1 a.2.2.1 (fun q0=>K (q0,()))
theorem z75:MT 69 (z2k q08):=mS (l:=[]) trivial []
def z4e(X:q4l):Con Sg:=conS [.el C.env,.str,.int .i64,.int .i64] [.el C.env,.int .i64] fun a K=>X a.1 a.2.1 a.2.2.1 a.2.2.2.1 (fun q0 q1=>K (q0,q1,()))
theorem w0s{Wk:Ha}{Hn:q02}{z2v:q67}{Jz:Uo}{Wp:Rp}{J9:R4}(h:AL [(66,q7g Wk),(63,z2g Hn),(67,z74 z2v),(32,q4t Jz),(68,q8o Wp),(69,z2k J9)]):MT 26 (z4e (z32 Wk Hn z2v Jz Wp J9)):=mS h []
theorem w0t:MT 26 (z4e q8b):=w0s ⟨z73,j4e,w4a,z38,j1l,z75,trivial⟩
def z4f(X:q4m):Con Sg:=conS [.el C.env,.str,.int .i64] [.el C.env,.int .i64] fun a K=>X a.1 a.2.1 a.2.2.1 (fun q0 q1=>K (q0,q1,()))
theorem w0u{Wk:Ha}{Uu:Rr}{Z6:Vi}{J9:R4}(h:AL [(66,q7g Wk),(71,q8p Uu),(70,q2e Z6),(69,z2k J9)]):MT 27 (z4f (z33 Wk Uu Z6 J9)):=mS h []
theorem w0v:MT 27 (z4f q8c):=w0u ⟨z73,j1m,z00,z75,trivial⟩
def j13(X:q68):Con Sg:=conS [.int .i64,.int .i64] [.int .i64] fun a K=>X a.1 a.2.1 (fun q0=>K (q0,()))
theorem j8k:MT 75 (j13 z0h):=mS (l:=[]) trivial []
def z57(X:q3g):Con Sg:=conS [.sl C.i64,.int .i64] [.vec 130 C.cool] fun a K=>X a.1 a.2.1 (fun q0=>K (q0,()))
theorem j55:MT 76 (z57 Bx):=mS (l:=[]) trivial [(7,⟨[0,1,4],[],[],[(.slot 5,.own 130 C.cool),sI 6]⟩)]
def z76(X:q69):Con Sg:=conS [.el C.env,.str,.int .i64] [.el C.env,.int .i64] fun a K=>X a.1 a.2.1 a.2.2.1 (fun q0 q1=>K (q0,q1,()))
theorem w4b{Wk:Ha}{Qg:Zg}{Qp:Ji}{Qs:J4}{q0s:q68}{q0t:q3g}{J9:R4}(h:AL [(66,q7g Wk),(72,Wv Qg),(73,Gz Qp),(74,B7 Qs),(75,j13 q0s),(76,z57 q0t),(69,z2k J9)]):MT 28 (z76 (z7f Wk Qg Qp Qs q0s q0t J9)):=mS h [(25,⟨bl 4503565166936015,[7,4,2,1,0],[],[sI 15,(.obj 6,.own 3 C.i64)]⟩)]
theorem w4c:MT 28 (z76 z17):=w4b ⟨z73,Vk,B6,q2d,j8k,j55,z75,trivial⟩
end Go.En
end
noncomputable section
set_option maxRecDepth 100000
open Go Go.RowKit Go.Fl Go.Fl.Lk Go.Fx
namespace Go.En
def j56(X:z5o):Con Sg:=conV [.ptr 53 [.c,.v],.el C.env,.v] [.ptr 53 [.sl C.u8,.int .i64],.el C.env,.int .i64] [.el C.env] [.ptr 53 [.same,.int .i64],.same,.same] fun a K=>X a.1.1 a.1.2.1 a.2.1 a.2.2.1 (fun q0 q1=>K (q0,()) (((),q1,()),(),(),()))
theorem v0w{Qa:Qr}{Wr:Rs}{Zz:G4}{q9b:q4l}{q9c:q4m}{z2w:q69}(h:AL [(17,Jb Qa),(25,q8u Wr),(19,q8j Zz),(26,z4e q9b),(27,z4f q9c),(28,z76 z2w)]):MT 8 (j56 (j5m Qa Wr Zz q9b q9c z2w)):=mP (rk:=[.el C.env]) h [(26,⟨bl 33537495,[2,1],[(3,(35,8)),(0,(53,2))],[sI 9,(.cell 3 0,.str),(.cell 3 1,.str),(.cell 3 2,.int .i64),(.cell 3 3,.sl C.decl),(.cell 3 4,.sl C.seg),(.cell 3 5,.sl C.flag),(.cell 3 6,.sl C.layer),(.cell 3 7,.sl C.exper),(.cell 0 1,.int .i64)]⟩)]
theorem v0x:MT 8 (j56 z90):=v0w ⟨Jq,j10,z5v,w0t,w0v,w4c,trivial⟩
def z77(X:q7a):Con Sg:=conV [.ptr 53 [.c,.v],.el C.env,.v] [.ptr 53 [.sl C.u8,.int .i64],.el C.env,.int .i64] [.el C.env] [.ptr 53 [.same,.int .i64],.same,.same] fun a K=>X a.1.1 a.1.2.1 a.2.1 a.2.2.1 (fun q0 q1=>K (q0,()) (((),q1,()),(),(),()))
theorem w4d{Qa:Qr}{Zy:Uj}{Zz:G4}{J3:Bg}{Vo:q36}{Zr:Gi}{Z7:V0}{Vz:Bh}{Q0:Ja}{Jz:Uo}(h:AL [(17,Jb Qa),(18,q5q Zy),(19,q8j Zz),(30,z2e J3),(31,z5y Vo),(59,q7e Zr),(60,q4q Z7),(58,z94 Vz),(61,Ub Q0),(32,q4t Jz)]):MT 9 (z77 (z7g Qa Zy Zz J3 Vo Zr Z7 Vz Q0 Jz)):=mP (rk:=[.el C.env]) h [(900107,⟨[],[],[],[]⟩),(900112,⟨[],[],[],[]⟩),(900226,⟨[],[],[],[]⟩),(900231,⟨[],[],[],[]⟩),(7,⟨bl 393431,[4,3,2,1],[(16,(35,8)),(0,(53,2))],[sI 8,(.cell 16 0,.str),(.cell 16 1,.str),(.cell 16 2,.int .i64),(.cell 16 3,.own 92 C.decl),(.cell 16 5,.own 69 C.flag),(.cell 16 7,.own 79 C.exper),(.cell 0 1,.int .i64),(.obj 11,.own 73 C.layer),(.obj 7,.own 87 C.seg)]⟩),(23000009,⟨bl 1073218007,[29,28],[(0,(53,2)),(30,(69,13))],[sI 9,(.cell 0 1,.int .i64),(.cell 30 2,.own 118 C.val),(.obj 7,.own 87 C.seg)]⟩),(23000019,⟨bl 545366356788183,[30,29,28],[(0,(53,2))],[sI 10,(.cell 0 1,.int .i64),(.obj 7,.own 87 C.seg),(.obj 34,.own 118 C.val)]⟩),(23000029,⟨bl 17996814912849879,[29,28],[(0,(53,2)),(30,(69,13))],[sI 11,(.cell 0 1,.int .i64),(.cell 30 6,.own 123 C.target),(.obj 34,.own 118 C.val),(.obj 7,.own 87 C.seg)]⟩),(23000038,⟨bl 19688565898261847554177638359,[30],[(47,(123,3)),(0,(53,2))],[(.cell 47 0,.str),(.cell 0 1,.int .i64),(.obj 46,.own 9 C.str),(.obj 7,.own 87 C.seg),(.obj 34,.own 118 C.val),(.obj 43,.own 123 C.target)]⟩),(23000060,⟨bl 324518589926201333218846174621655,[29,28],[(0,(53,2)),(30,(69,13))],[(.cell 0 1,.int .i64),(.cell 30 7,.own 126 C.rule),(.obj 46,.own 9 C.str),(.obj 7,.own 87 C.seg),(.obj 34,.own 118 C.val),(.obj 43,.own 123 C.target)]⟩),(23000047,⟨bl 324518589926201333218846174621655,[],[(0,(53,2)),(30,(69,13))],[sI 14,(.cell 0 1,.int .i64),(.cell 30 7,.own 126 C.rule),(.obj 46,.own 9 C.str),(.obj 7,.own 87 C.seg),(.obj 34,.own 118 C.val),(.obj 43,.own 123 C.target)]⟩)]
theorem w4e:MT 9 (z77 z18):=w4d ⟨Jq,z2d,z5v,z92,j73,z5w,z0q,j5u,q1c,z38,trivial⟩
def q3j(X:Vx):Con Sg:=conV [.ptr 53 [.c,.v]] [.ptr 53 [.sl C.u8,.int .i64]] [.str] [.ptr 53 [.same,.int .i64]] fun a K=>X a.1.1 a.1.2.1 (fun q0 q1=>K (q0,()) (((),q1,()),()))
theorem v0y{Qa:Qr}(h:AL [(17,Jb Qa)]):MT 33 (q3j (j5n Qa)):=mP (rk:=[.v]) h []
theorem q8v:MT 33 (q3j H9):=v0y ⟨Jq,trivial⟩
def He(X:J1):Con Sg:=conV [.ptr 53 [.c,.v]] [.ptr 53 [.sl C.u8,.int .i64]] [.int .i64] [.ptr 53 [.same,.int .i64]] fun a K=>X a.1.1 a.1.2.1 (fun q0 q1=>K (q0,()) (((),q1,()),()))
theorem w4f{Qa:Qr}(h:AL [(17,Jb Qa)]):MT 34 (He (z7h Qa)):=mP (rk:=[.v]) h []
theorem q1h:MT 34 (He Vd):=w4f ⟨Jq,trivial⟩
def j57(X:z19):Con Sg:=conS [.int .i64] [.vec 9 C.str] fun a K=>X a.1 (fun q0=>K (q0,()))
theorem w2r:MT 79 (j57 z5p):=mS (l:=[]) trivial [(7,⟨[0,2],[],[],[(.slot 3,.own 9 C.str),sI 4]⟩)]
def j58(X:z7i):Con Sg:=conV [.ptr 53 [.c,.v]] [.ptr 53 [.sl C.u8,.int .i64]] [.el C.val] [.ptr 53 [.same,.int .i64]] fun a K=>X a.1.1 a.1.2.1 (fun q0 q1=>K (q0,()) (((),q1,()),()))
theorem v36{Qa:Qr}{Zr:Gi}(h:AL [(17,Jb Qa),(59,q7e Zr)]):MT 81 (j58 (j96 Qa Zr)):=mP (rk:=[.el C.val]) h []
theorem w77:MT 81 (j58 z34):=v36 ⟨Jq,z5w,trivial⟩
def q3k(X:Jy):Con Sg:=conV [.ptr 53 [.c,.v],.el C.ex] [.ptr 53 [.sl C.u8,.int .i64],.el C.ex] [.el C.ex] [.ptr 53 [.same,.int .i64],.same] fun a K=>X a.1.1 a.1.2.1 a.2.1 (fun q0 q1=>K (q0,()) (((),q1,()),(),()))
theorem q8w:MT 80 (q3k Hb):=by
 show MT _ (conV ([.ptr 53 [.c,.v],.el C.ex]:LP) ([.ptr 53 [.sl C.u8,.int .i64],.el C.ex]:LV) ([.el C.ex]:LV) ([.ptr 53 [.same,.int .i64],.same]:LV) fun a K=>Hb a.1.1 a.1.2.1 a.2.1 (fun q0 q1=>K (q0,()) (((),q1,()),(),())))
 exact mQ (l:=[(17,Jb Q3),(33,q3j H9),(81,j58 z34),(34,He Vd),(110,z93 q29)]) (u:=4) (rk:=[.el C.ex]) ⟨Jq,q8v,w77,q1h,w2q,trivial⟩ (by kernel_rfl) [(47,⟨bl 1858727432600499099286109723,[2],[(0,(53,2)),(1,(77,5))],[sI 6,(.cell 0 1,.int .i64),(.cell 1 0,.int .i64),(.cell 1 1,.str),(.cell 1 2,.str),(.cell 1 3,.sl C.val),(.cell 1 4,.sl C.ex)]⟩),(59,⟨bl 17748967130627812120053130985115,[2,1],[(3,(77,5)),(0,(53,2))],[sI 8,(.cell 3 4,.sl C.ex),(.cell 0 1,.int .i64)]⟩)] (fun X a K=>q8d Q3 H9 z34 Vd q29 (fun list at_ e K=>X ((list,at_,()),e,()) fun r o=>K r.1 o.1.2.1) a.1.1 a.1.2.1 a.2.1 (fun q0 q1=>K (q0,()) (((),q1,()),(),()))) (fun _ _ _=>by kernel_rfl) fun a K h X hX=>h (fun list at_ e K=>X ((list,at_,()),e,()) fun r o=>K r.1 o.1.2.1) fun list at_ e K hs=>hX ((list,at_,()),e,()) (fun r o=>K r.1 o.1.2.1) hs
def z4g(X:q4n):Con Sg:=conV [.ptr 53 [.c,.v],.el C.seg] [.ptr 53 [.sl C.u8,.int .i64],.el C.seg] [.el C.seg] [.ptr 53 [.same,.int .i64],.same] fun a K=>X a.1.1 a.1.2.1 a.2.1 (fun q0 q1=>K (q0,()) (((),q1,()),(),()))
theorem w0w{Qa:Qr}{Qy:Vx}{q82:z3u}{q3r:z19}{Z2:Jy}(h:AL [(17,Jb Qa),(33,q3j Qy),(78,j5t q82),(79,j57 q3r),(80,q3k Z2)]):MT 35 (z4g (z35 Qa Qy q82 q3r Z2)):=mP (rk:=[.el C.seg]) h []
theorem w0x:MT 35 (z4g q8e):=w0w ⟨Jq,q8v,w7o,w2r,q8w,trivial⟩
def z2l(X:q09):Con Sg:=conV [.ptr 53 [.c,.v],.sl C.range] [.ptr 53 [.sl C.u8,.int .i64],.sl C.range] [.vec 157 C.range] [.ptr 53 [.same,.int .i64],.same] fun a K=>X a.1.1 a.1.2.1 a.2.1 (fun q0 q1=>K (q0,()) (((),q1,()),(),()))
theorem w4g{Qa:Qr}{Qn:J1}(h:AL [(17,Jb Qa),(34,He Qn)]):MT 83 (z2l (z7j Qa Qn)):=mP (rk:=[.own 157 C.range]) h [(39,⟨bl 433216480920727473,[1],[(0,(53,2))],[(.slot 1,.own 157 C.range),sI 6,(.cell 0 1,.int .i64)]⟩)]
theorem j4k:MT 83 (z2l q7b):=w4g ⟨Jq,q1h,trivial⟩
def j14(X:z0i):Con Sg:=conV [.ptr 53 [.c,.v],.el C.serve] [.ptr 53 [.sl C.u8,.int .i64],.el C.serve] [.el C.serve] [.ptr 53 [.same,.int .i64],.same] fun a K=>X a.1.1 a.1.2.1 a.2.1 (fun q0 q1=>K (q0,()) (((),q1,()),(),()))
theorem w78{Qa:Qr}{Qn:J1}{Qy:Vx}{Ho:q09}(h:AL [(17,Jb Qa),(34,He Qn),(33,q3j Qy),(83,z2l Ho)]):MT 82 (j14 (j09 Qa Qn Qy Ho)):=mP (rk:=[.el C.serve]) h []
theorem w79:MT 82 (j14 z5q):=w78 ⟨Jq,q1h,q8v,j4k,trivial⟩
def j59(X:z5r):Con Sg:=conV [.ptr 53 [.c,.v],.el C.flag] [.ptr 53 [.sl C.u8,.int .i64],.el C.flag] [.el C.flag] [.ptr 53 [.same,.int .i64],.same] fun a K=>X a.1.1 a.1.2.1 a.2.1 (fun q0 q1=>K (q0,()) (((),q1,()),(),()))
theorem v0z{Qa:Qr}{Qy:Vx}{Qn:J1}{z4p:z7i}{J3:Bg}{q3r:z19}{Z2:Jy}{z1f:z0i}(h:AL [(17,Jb Qa),(33,q3j Qy),(34,He Qn),(81,j58 z4p),(30,z2e J3),(79,j57 q3r),(80,q3k Z2),(82,j14 z1f)]):MT 36 (j59 (j5o Qa Qy Qn z4p J3 q3r Z2 z1f)):=mP (rk:=[.el C.flag]) h [(52,⟨bl 1901591985562359758556445540251,[0,1,9,7,5,3,2],[],[sB 112]⟩),(73,⟨bl 1131202267816792579474411990922536442517940535820187,[9,7,3,2],[(0,(53,2)),(1,(69,13))],[(.cell 0 1,.int .i64),(.cell 1 7,.own 126 C.rule)]⟩)]
theorem v00:MT 36 (j59 z91):=v0z ⟨Jq,q8v,q1h,w77,z92,w2r,q8w,w79,trivial⟩
def j15(X:z0j):Con Sg:=conV [.ptr 53 [.c,.v],.el C.layer] [.ptr 53 [.sl C.u8,.int .i64],.el C.layer] [.el C.layer] [.ptr 53 [.same,.int .i64],.same] fun a K=>X a.1.1 a.1.2.1 a.2.1 (fun q0 q1=>K (q0,()) (((),q1,()),(),()))
theorem w8a{Qa:Qr}{Qy:Vx}{Qn:J1}(h:AL [(17,Jb Qa),(33,q3j Qy),(34,He Qn)]):MT 37 (j15 (j1a Qa Qy Qn)):=mP (rk:=[.el C.layer]) h [(33,⟨bl 492594509791195,[3,2],[(1,(73,6)),(0,(53,2))],[sI 5,(.cell 1 5,.own 130 C.cool),(.cell 0 1,.int .i64)]⟩)]
theorem w8b:MT 37 (j15 z5s):=w8a ⟨Jq,q8v,q1h,trivial⟩
end Go.En
end
noncomputable section
set_option maxRecDepth 100000
open Go Go.RowKit Go.Fl Go.Fl.Lk Go.Fx
namespace Go.En
def q6f(X:Hw):Con Sg:=conV [.ptr 53 [.c,.v],.el C.exper] [.ptr 53 [.sl C.u8,.int .i64],.el C.exper] [.el C.exper] [.ptr 53 [.same,.int .i64],.same] fun a K=>X a.1.1 a.1.2.1 a.2.1 (fun q0 q1=>K (q0,()) (((),q1,()),(),()))
theorem j29{Qa:Qr}{Qy:Vx}{Qn:J1}{Ho:q09}{Z2:Jy}(h:AL [(17,Jb Qa),(33,q3j Qy),(34,He Qn),(83,z2l Ho),(80,q3k Z2)]):MT 38 (q6f (q6a Qa Qy Qn Ho Z2)):=mP (rk:=[.el C.exper]) h [(33,⟨bl 246316790071259,[3,2],[(1,(79,12)),(0,(53,2))],[sI 5,(.cell 1 5,.own 50 C.span),(.cell 0 1,.int .i64)]⟩),(42,⟨bl 105579301715931,[0,1,3,2],[],[sB 66]⟩)]
theorem j3a:MT 38 (q6f q1r):=j29 ⟨Jq,q8v,q1h,j4k,q8w,trivial⟩
def j16(X:z0k):Con Sg:=conV [.ptr 53 [.c,.v],.el C.env] [.ptr 53 [.sl C.u8,.int .i64],.el C.env] [.el C.env] [.ptr 53 [.same,.int .i64],.same] fun a K=>X a.1.1 a.1.2.1 a.2.1 (fun q0 q1=>K (q0,()) (((),q1,()),(),()))
theorem w8c{Qa:Qr}{Zy:Uj}{Qy:Vx}{Qn:J1}{q9d:q4n}{j0a:z5r}{z6l:z0j}{q11:Hw}(h:AL [(17,Jb Qa),(18,q5q Zy),(33,q3j Qy),(34,He Qn),(35,z4g q9d),(36,j59 j0a),(37,j15 z6l),(38,q6f q11)]):MT 10 (j16 (j1b Qa Zy Qy Qn q9d j0a z6l q11)):=mP (rk:=[.el C.env]) h [(26,⟨bl 1649368234011,[0,1,4,3,13,11,9,7,5,2],[],[sB 61]⟩),(63,⟨bl 280608314368554207639259276544178156030460336142363,[0,4,3,13,11,9,5,2],[(1,(35,8))],[sI 9,(.cell 1 4,.own 87 C.seg)]⟩)]
theorem w8d:MT 10 (j16 z5t):=w8c ⟨Jq,z2d,q8v,q1h,w0x,v00,w8b,j3a,trivial⟩
def q9o(X:Ra):Con Sg:=conS [.int .i64] [.bool] fun a K=>X a.1 (fun q0=>K (q0,()))
theorem z9f:MT 45 (q9o q2o):=mS (l:=[]) trivial []
def Hf(X:Ju):Con Sg:=conS [.el C.env,.str] [.el C.exper,.bool] fun a K=>X a.1 a.2.1 (fun q0 q1=>K (q0,q1,()))
theorem q1i:MT 46 (Hf W1):=mS (l:=[]) trivial [(5,⟨bl 1815,[0],[(1,(79,12))],[sI 11,(.cell 1 0,.str),(.cell 1 1,.str),(.cell 1 2,.str),(.cell 1 3,.str),(.cell 1 4,.int .i64),(.cell 1 5,.sl C.span),(.cell 1 6,.sl C.range),(.cell 1 7,.int .i64),(.cell 1 8,.str),(.cell 1 9,.str),(.cell 1 10,.sl C.val),(.cell 1 11,.sl C.ex)]⟩)]
def U1(X:Jo):Con Sg:=conS [.sl C.str,.sl C.str] [.bool] fun a K=>X a.1 a.2.1 (fun q0=>K (q0,()))
theorem q2t:MT 142 (U1 Jp):=mS (l:=[]) trivial [(9,⟨bl 8131,[],[],[sI 13]⟩)]
def q5u(X:R5):Con Sg:=conS [.el C.val,.el C.val] [.bool] fun a K=>X a.1 a.2.1 (fun q0=>K (q0,()))
theorem j8l{Jr:Jo}(h:AL [(142,U1 Jr)]):MT 96 (q5u (z0l Jr)):=mS h []
theorem z8q:MT 96 (q5u Gx):=j8l ⟨q2t,trivial⟩
def j17(X:Rt):Con Sg:=conV [.el C.ex,.el C.ex] [.el C.ex,.el C.ex] [.bool] [.same,.same] fun a K=>X a.1 a.2.1 (fun q0=>K (q0,()) ((),(),()))
theorem w0y:MT 91 (j17 q8f):=by
 show MT _ (conV ([.el C.ex,.el C.ex]:LP) ([.el C.ex,.el C.ex]:LV) ([.bool]:LV) ([.same,.same]:LV) fun a K=>q8f a.1 a.2.1 (fun q0=>K (q0,()) ((),(),())))
 exact mQ (l:=[(96,q5u Gx)]) (u:=4) (rk:=[.v]) ⟨z8q,trivial⟩ (by kernel_rfl) [(96000009,⟨bl 130055,[],[],[sI 17]⟩),(137000009,⟨bl 130055,[],[],[sI 17]⟩)] (fun X a K=>z36 Gx (fun a b K=>X (a,b,()) fun r _=>K r.1) a.1 a.2.1 (fun q0=>K (q0,()) ((),(),()))) (fun _ _ _=>by kernel_rfl) fun a K h X hX=>h (fun a b K=>X (a,b,()) fun r _=>K r.1) fun a b K hs=>hX (a,b,()) (fun r _=>K r.1) hs
def q0c(X:W8):Con Sg:=conV [.sl C.span,.sl C.span] [.sl C.span,.sl C.span] [.sl C.span] [.same,.same] fun a K=>X a.1 a.2.1 (fun q0=>K (q0,()) ((),(),()))
theorem q4y:MT 92 (q0c V9):=⟨entB (by kernel_rfl),j1c⟩
def q0d(X:Wd):Con Sg:=conS [.el C.env,.str] [.int .i64] fun a K=>X a.1 a.2.1 (fun q0=>K (q0,()))
theorem q4z:MT 93 (q0d We):=mS (l:=[]) trivial [(139000005,⟨bl 195,[1],[],[sI 8]⟩)]
def z3i(X:q1s):Con Sg:=conS [.el C.env,.str] [.el C.flag,.bool] fun a K=>X a.1 a.2.1 (fun q0 q1=>K (q0,q1,()))
theorem j3b:MT 94 (z3i q1t):=mS (l:=[]) trivial [(141000005,⟨bl 195,[1],[],[sI 8]⟩)]
def Rw(X:W9):Con Sg:=conS [.el C.env,.el C.env,.el C.exper,.el C.exper] [.bool] fun a K=>X a.1 a.2.1 a.2.2.1 a.2.2.2.1 (fun q0=>K (q0,()))
theorem z4h{q9e:Rt}{Ze:W8}{Zf:Wd}{H0:q1s}{R7:R5}(h:AL [(91,j17 q9e),(92,q0c Ze),(93,q0d Zf),(94,z3i H0),(96,q5u R7)]):MT 47 (Rw (Ru q9e Ze Zf H0 R7)):=mS h [(91000009,⟨bl 8131,[],[],[sI 13]⟩),(96000009,⟨bl 130055,[],[],[sI 17]⟩)]
theorem z4i:MT 47 (Rw Uq):=z4h ⟨w0y,q4y,q4z,j3b,z8q,trivial⟩
def q40(X:Ur):Con Sg:=conS [.el C.layer,.int .i64] [.vec 50 C.span] fun a K=>X a.1 a.2.1 (fun q0=>K (q0,()))
theorem z4j:MT 98 (q40 J7):=mS (l:=[]) trivial [(7,⟨bl 1815,[0],[],[(.slot 5,.own 50 C.span),sI 11]⟩)]
end Go.En
end
noncomputable section
set_option maxRecDepth 100000
open Go Go.RowKit Go.Fl Go.Fl.Lk Go.Fx
namespace Go.En
def q9p(X:q2p):Con Sg:=conV [.sl C.span,.sl C.span] [.sl C.span,.sl C.span] [.sl C.span] [.same,.same] fun a K=>X a.1 a.2.1 (fun q0=>K (q0,()) ((),(),()))
theorem z9g:MT 97 (q9p Ve):=⟨entB (by kernel_rfl),z85⟩
def q2u(X:U0):Con Sg:=conS [.el C.env,.el C.env,.el C.exper,.int .i64] [.int .i64] fun a K=>X a.1 a.2.1 a.2.2.1 a.2.2.2.1 (fun q0=>K (q0,()))
theorem z9h{Q1:Ju}{Ze:W8}{Zf:Wd}{Uv:Ur}{Rj:q2p}(h:AL [(46,Hf Q1),(92,q0c Ze),(93,q0d Zf),(98,q40 Uv),(97,q9p Rj)]):MT 48 (q2u (q2q Q1 Ze Zf Uv Rj)):=mS h [(5,⟨bl 917631,[2,1,0],[],[sI 20]⟩),(21,⟨bl 2251765458024575,[6,4,2,1,0],[],[sI 51]⟩)]
theorem z9i:MT 48 (q2u Rb):=z9h ⟨q1i,q4y,q4z,z4j,z9g,trivial⟩
def z03(X:By):Con Sg:=conS [.int .i64,.int .i64] [.int .i64] fun a K=>X a.1 a.2.1 (fun q0=>K (q0,()))
theorem j18:MT 100 (z03 Bz):=mS (l:=[]) trivial []
def q41(X:Gy):Con Sg:=conS [.el C.env,.el C.env,.el C.layer,.int .i64] [.bool] fun a K=>X a.1 a.2.1 a.2.2.1 a.2.2.2.1 (fun q0=>K (q0,()))
theorem j19{Ze:W8}{Q1:Ju}{q0u:By}{Zf:Wd}(h:AL [(92,q0c Ze),(46,Hf Q1),(100,z03 q0u),(93,q0d Zf)]):MT 49 (q41 (q4o Ze Q1 q0u Zf)):=mS h [(31,⟨bl 9079257389944801919,[3,2,1,0],[],[(.slot 63,.int .i64)]⟩),(41,⟨bl 1237940039141265627989379711,[9,7],[],[(.slot 90,.int .i64)]⟩),(10,⟨bl 895,[2,1,0],[(3,(71,1))],[(.cell 3 0,.sl C.cool)]⟩),(15,⟨bl 128849021567,[3,2,1,0],[],[sI 37]⟩),(100000007,⟨bl 6287,[],[],[(.slot 8,.own 50 C.span),sI 13]⟩)]
theorem j2a:MT 49 (q41 B0):=j19 ⟨q4y,q1i,j18,q4z,trivial⟩
def q6g(X:Hx):Con Sg:=conS [.el C.env,.el C.env,.int .i64] [.str,.int .i64] fun a K=>X a.1 a.2.1 a.2.2.1 (fun q0 q1=>K (q0,q1,()))
theorem j3c{Rk:Ra}{Q1:Ju}{Uw:W9}{Rl:U0}{q0v:Gy}(h:AL [(45,q9o Rk),(46,Hf Q1),(47,Rw Uw),(48,q2u Rl),(49,q41 q0v)]):MT 12 (q6g (q6b Rk Q1 Uw Rl q0v)):=mS h [(9,⟨bl 132120607,[1,0],[],[sI 27]⟩),(23,⟨bl 31525197926367263,[1,0],[],[sI 55]⟩),(37,⟨bl 67699846038030822766805023,[1,0],[],[sI 86]⟩),(53,⟨bl 141977167039165097007255069392927,[1,0],[],[sI 107]⟩)]
theorem j3d:MT 12 (q6g q1u):=j3c ⟨z9f,q1i,z4i,z9i,j2a,trivial⟩
def q0e(X:Wu):Con Sg:=conS [.el C.env,.str] [.el C.exper,.bool] fun a K=>X a.1 a.2.1 (fun q0 q1=>K (q0,q1,()))
theorem j6a{Qz:Jf}(h:AL [(101,Gb Qz)]):MT 51 (q0e (q8g Qz)):=mS h []
theorem q8x:MT 51 (q0e Us):=j6a ⟨q0b,trivial⟩
def z04(X:B1):Con Sg:=conS [.sl C.range,.sl C.range] [.bool] fun a K=>X a.1 a.2.1 (fun q0=>K (q0,()))
theorem j2b:MT 102 (z04 B2):=mS (l:=[]) trivial [(9,⟨bl 1987,[],[],[sI 5]⟩)]
def z78(X:q7c):Con Sg:=conS [.el C.env,.el C.env,.el C.exper,.el C.exper] [.int .i64] fun a K=>X a.1 a.2.1 a.2.2.1 a.2.2.2.1 (fun q0=>K (q0,()))
theorem w4h{q0w:B1}{Ww:Wt}{Zs:W7}{Qg:Zg}{Z5:Uf}{Uc:V2}(h:AL [(102,z04 q0w),(103,q8l Ww),(64,q1e Zs),(72,Wv Qg),(104,q5t Z5),(105,B3 Uc)]):MT 52 (z78 (z7k q0w Ww Zs Qg Z5 Uc)):=mS h []
theorem w4i:MT 52 (z78 z2a):=w4h ⟨j2b,z5z,q8q,Vk,z0y,z0r,trivial⟩
def z05(X:q2b):Con Sg:=conS [.sl C.span] [.vec 50 C.span] fun a K=>X a.1 (fun q0=>K (q0,()))
theorem j8m{Qs:J4}{Qx:Jx}(h:AL [(74,B7 Qs),(77,Rv Qx)]):MT 106 (z05 (z0m Qs Qx)):=mS h []
theorem j8n:MT 106 (z05 q5n):=j8m ⟨q2d,q1d,trivial⟩
def z4k(X:q4p):Con Sg:=conS [.el C.env,.el C.env,.el C.exper,.int .i64] [.int .i64] fun a K=>X a.1 a.2.1 a.2.2.1 a.2.2.2.1 (fun q0=>K (q0,()))
theorem w0z{Qz:Jf}{q2i:q2b}{Qg:Zg}{Qp:Ji}{Wq:Rn}{Z6:Vi}{Zq:Wu}{Zs:W7}(h:AL [(101,Gb Qz),(106,z05 q2i),(72,Wv Qg),(73,Gz Qp),(107,q8n Wq),(70,q2e Z6),(51,q0e Zq),(64,q1e Zs)]):MT 53 (z4k (z37 Qz q2i Qg Qp Wq Z6 Zq Zs)):=mS h [(16,⟨bl 17179804543,[2,1,0],[],[(.slot 10,.own 50 C.span)]⟩),(19,⟨bl 2111070915200639,[2,1,0],[],[sI 51,(.obj 5,.own 35 C.env),(.obj 4,.own 50 C.span)]⟩)]
theorem w00:MT 53 (z4k q8h):=w0z ⟨q0b,j8n,Vk,B6,j1k,z00,q8x,q8q,trivial⟩
def z06(X:q2c):Con Sg:=conS [.el C.env,.el C.env,.el C.layer,.int .i64] [.int .i64] fun a K=>X a.1 a.2.1 a.2.2.1 a.2.2.2.1 (fun q0=>K (q0,()))
theorem j8o{Qp:Ji}{Zq:Wu}{Qs:J4}{q0s:q68}{Qg:Zg}(h:AL [(73,Gz Qp),(51,q0e Zq),(74,B7 Qs),(75,j13 q0s),(72,Wv Qg)]):MT 54 (z06 (z0n Qp Zq Qs q0s Qg)):=mS h [(12,⟨bl 383,[2,1,0],[],[(.slot 9,.own 3 C.i64)]⟩),(17,⟨bl 515396078207,[4,3,2,1,0],[],[sI 12]⟩),(27,⟨bl 8761733290623,[4,3,2,1,0],[],[sI 13]⟩),(41,⟨bl 19807040573207845166091858047,[11,9,7],[],[sI 18]⟩)]
theorem j8p:MT 54 (z06 q5o):=j8o ⟨B6,q8x,q2d,j8k,Vk,trivial⟩
def z79(X:q7d):Con Sg:=conS [.el C.env,.el C.env,.int .i64] [.str,.int .i64] fun a K=>X a.1 a.2.1 a.2.2.1 (fun q0 q1=>K (q0,q1,()))
theorem w4j{Wh:Rz}{Zq:Wu}{z2x:q7c}{q9f:q4p}{q54:q2c}(h:AL [(50,z2f Wh),(51,q0e Zq),(52,z78 z2x),(53,z4k q9f),(54,z06 q54)]):MT 13 (z79 (z7l Wh Zq z2x q9f q54)):=mS h [(9,⟨bl 14680095,[1,0],[],[sI 8]⟩),(21,⟨bl 534774047,[1,0],[],[sI 11]⟩),(39,⟨bl 17870283321940904223,[1,0],[],[sI 16]⟩),(55,⟨bl 614018259503418899671906584863,[1,0],[],[sI 19]⟩)]
theorem w4k:MT 13 (z79 z2b):=w4j ⟨z7s,q8x,w4i,w00,j8p,trivial⟩
end Go.En
end
noncomputable section
set_option maxRecDepth 100000
open Go Go.RowKit Go.Fl Go.Fl.Lk Go.Fx
namespace Go.En
def Vy(X:Hr):Con Sg:=conS [.sl C.u8,.int .i64] [.bool] fun a K=>X a.1 a.2.1 (fun q0=>K (q0,()))
theorem z23{q3s:Bf}{j6t:j5b}{j6u:j5d}{q0x:Gw}{j0b:z5o}{z2y:q7a}{z6m:z0k}{Z8:Wn}{q12:Hx}{z2z:q7d}(h:AL [(4,q8i q3s),(5,w7m j6t),(6,w7n j6u),(7,q4x q0x),(8,j56 j0b),(9,z77 z2y),(10,j16 z6m),(11,Rd Z8),(12,q6g q12),(13,z79 z2z)]):MT 3 (Vy (Hs q3s j6t j6u q0x j0b z2y z6m Z8 q12 z2z)):=mS h [(19,⟨bl 18014398509220835,[7,0,5,3,1],[],[sI 54]⟩),(27,⟨bl 18889461427878953225187,[11,9],[],[sI 74]⟩)]
theorem z24:MT 3 (Vy Je):=z23 ⟨j5r,v33,v34,j12,v0x,w4e,w8d,q9n,j3d,w4k,trivial⟩
end Go.En
end
noncomputable section
set_option maxRecDepth 100000
namespace Go.En
open Go Go.Fl Go.Fl.Lk Go.Fx
theorem Cnd.mk{c A B:Prop}(h:c->A)(k: ¬c->B):Cnd c A B:=⟨h,k⟩
structure DS(list:List Int)(at_:Int):Prop where
 len:list.length<=1000
 lo:0<=at_
 hi:at_<=list.length
 byte: ∀x∈list,0<=x/\x<256
theorem getm{α:Type}{l:List α}{k:Nat}{x:α}(h:l[k]? =some x):x∈l:=List.mem_of_getElem? h
theorem Vu(n:Int):(Go.Utf8.encode n).size<=4:=by
 unfold Go.Utf8.encode
 generalize (if Go.Utf8.valid n then n.toNat else Go.Utf8.runeError)=c
 show (if c<0x80 then _ else if c<0x800 then _ else if c<0x10000 then _ else _:ByteArray).size<=4
 have h1: ∀a:UInt8,(ByteArray.mk #[a]).size<=4:=fun _=>(by decide:1<=4)
 have h2: ∀a b:UInt8,(ByteArray.mk #[a,b]).size<=4:=fun _ _=>(by decide:2<=4)
 have h3: ∀a b c:UInt8,(ByteArray.mk #[a,b,c]).size<=4:=fun _ _ _=>(by decide:3<=4)
 have h4: ∀a b c d:UInt8,(ByteArray.mk #[a,b,c,d]).size<=4:=fun _ _ _ _=>(by decide:4<=4)
 split
 ·exact h1 _
 ·split
  ·exact h2 _ _
  ·split
   ·exact h3 _ _ _
   ·exact h4 _ _ _ _
theorem Qc{list:List Int}{at_ n:Int}{K:Int->Int->Prop}(hD:DS list at_)(hn:1<=n)(h: ∀r a,0<=r->r<n->DS list a->K r a):Q3 list at_ n K:=by
 obtain⟨h1,h2,h3,h4⟩:=hD
 unfold Q3 j5g j5f
 refine fun _=>Cnd.mk (fun hl=> ?_) (fun _=>h _ _ (by omega) (by omega) ⟨h1,h2,h3,h4⟩)
 have hl:=of_decide_eq_true hl
 refine⟨by unfold InI;omega,by unfold InI;omega,by omega,fun y hy=>⟨by unfold InI;have:=h4 _ (getm hy);omega,by omega,?_⟩⟩
 obtain⟨a,b⟩:=h4 _ (getm hy)
 exact h _ _ (Int.tmod_nonneg _ a) (by have:=Int.tmod_lt_of_pos y (b:=n) (by omega);omega) ⟨h1,by omega,by omega,h4⟩
theorem U2{list:List Int}{at_ n:Int}{K:Int->Int->Prop}(hD:DS list at_)(hn:1<=n)(h: ∀r a,0<=r->r<n->DS list a->K r a):q5c list at_ n K:=by
 unfold q5c j5i
 refine Qc hD (by decide) fun r a r0 r1 hD=>⟨by unfold InI;omega,Qc hD (by decide) fun s b s0 s1 hD=>⟨by unfold InI;omega,by omega,?_⟩⟩
 exact h _ _ (Int.tmod_nonneg _ (by omega)) (by have:=Int.tmod_lt_of_pos (256*r+s) (b:=n) (by omega);omega) hD
theorem z58{n:Int}{l:List ByteArray}{K:List ByteArray->Prop}(h0:0<=n)(h1:n<=l.length)(h:K (l.take n.toNat)):z9z n l K:=⟨⟨h0,h1⟩,h⟩
theorem q0f{list:List Int}{at_:Int}{K:ByteArray->Int->Prop}(hD:DS list at_)(h: ∀r a,r∈q95->DS list a->K r a):q28 list at_ K:=by
 unfold q28 j5h
 exact Qc hD (by decide) fun r a r0 r1 hD=>⟨⟨r0,r1⟩,fun y hy=>h _ _ (getm hy) hD⟩
theorem sz_k(n:Int):(B8 [107]++Go.Utf8.encode n).size<=5:=by
 rw[ByteArray.size_append];have:=Vu n;show 1+_<=5;omega
theorem w2s{list:List Int}{at_:Int}{K:ByteArray->Int->Prop}(hD:DS list at_)(h: ∀r a,r.size<=5->DS list a->K r a):j04 list at_ K:=by
 unfold j04 j95
 refine Qc hD (by decide) fun r a r0 r1 hD=>⟨by unfold InI;omega,?_,h _ _ (sz_k _) hD⟩
 have:=Vu (Go.IntKind.i32.wrap (48+r));have e:(B8 [107]).size=1:=rfl;omega
theorem q7h{list:List Int}{at_:Int}{K:List ByteArray->Int->Prop}(hD:DS list at_)(h: ∀r a,r.length<=3->(∀s∈r,s.size<=5)->DS list a->K r a):q5d list at_ K:=by
 unfold q5d j5j
 refine Qc hD (by decide) fun n a n0 n1 hD=> ?_
 refine Lp3.ind (fun l i a=>DS list a/\0<=i/\i<=3/\(l.length:Int)=i/\ ∀s∈l,s.size<=5) (fun _ i _=>(3 - i).toNat) ?_ ⟨hD,by decide,by decide,rfl,by simp⟩
 rintro l i a ⟨hD,i0,i3,hl,hs⟩
 refine Qc hD (by decide) fun r a r0 r1 hD=>Cnd.mk (fun hc=> ?_) (fun hc=> ?_)
 ·have:=Vu (Go.IntKind.i32.wrap ((48:Int)+(n+i).tmod 10));have e:(B8 [107]).size=1:=rfl
  have m0:=Int.tmod_nonneg 10 (show 0<=n+i by omega);have m1:=Int.tmod_lt_of_pos (n+i) (b:=10) (by decide)
  refine⟨by unfold InI;omega,by decide,by unfold InI;omega,by omega,by unfold Sml;simp;omega,by unfold InI;omega,⟨hD,by omega,by omega,by simp;omega,fun s hm=> ?_⟩,by omega⟩
  rcases List.mem_append.1 hm with hm|hm
  ·exact hs s hm
  ·rw[List.mem_singleton.1 hm];exact sz_k _
 ·refine Lp2.ind (fun (i:Int) (m:List ByteArray)=>m=l/\1<=i/\i<=1+l.length) (fun (i:Int) _=>(1+l.length - i).toNat) ?_ ⟨rfl,by decide,by omega⟩
  rintro i m ⟨rfl,i0,i1⟩ _
  refine Cnd.mk (fun hc=>⟨by omega,fun y hy=>⟨by unfold InI;omega,by omega,fun z hz=>Cnd.mk (fun _=>⟨by unfold InI;omega,⟨rfl,by omega,by omega⟩,by omega⟩) (fun _=>⟨by omega,h _ _ (by simp;omega) (fun s hm=>hs s (List.mem_of_mem_take hm)) hD⟩)⟩⟩) (fun _=>h _ _ (by omega) hs hD)
theorem sz0:(ByteArray.mk (Array.mk ([]:List UInt8))).size<=100:=by decide
structure ValS(v:Val):Prop where
 num:InI v.number
 txt:v.text.size<=100
 len:v.list.length<=10
 txs: ∀s∈v.list,s.size<=100
theorem q1j{list:List Int}{at_ kind:Int}{K:Val->Int->Prop}(hD:DS list at_)(h: ∀r a,ValS r->DS list a->K r a):Uy list at_ kind K:=by
 unfold Uy z44
 have tt: ∀s∈q95,s.size<=100:=by decide
 have tv: ∀s∈q96,s.size<=100:=by decide
 have tl: ∀l∈j01,l.length<=10/\ ∀s∈l,s.size<=100:=by decide
 refine Cnd.mk (fun _=> ?_) fun _=>Cnd.mk (fun _=>fun _=> ?_) fun _=>Cnd.mk (fun _=> ?_) fun _=>Cnd.mk (fun _=> ?_) fun _=> ?_
 ·exact Qc hD (by decide) fun r a r0 r1 hD=>h _ _ ⟨by unfold InI;simp only;omega,sz0,by simp,by simp⟩ hD
 ·refine Qc hD (by decide) fun r a r0 r1 hD=>⟨⟨r0,r1⟩,fun y hy=>h _ _ ⟨?_,sz0,by simp,by simp⟩ hD⟩
  have:=getm hy
  have k: ∀y∈[(0:Int),(1:Int),(17:Int),(18:Int),(19:Int),(-5:Int),(64:Int),(1099511627776:Int),(-1099511627776:Int)], -9223372036854775808<=y/\y<=9223372036854775807:=by decide
  exact k y this
 ·exact q0f hD fun r a hr hD=>h _ _ ⟨by unfold InI;simp,tt _ hr,by simp,by simp⟩ hD
 ·exact Qc hD (by decide) fun r a r0 r1 hD=>⟨⟨r0,r1⟩,fun y hy=>h _ _ ⟨by unfold InI;simp,tv _ (getm hy),by simp,by simp⟩ hD⟩
 ·refine Qc hD (by decide) fun r a r0 r1 hD=>⟨⟨r0,r1⟩,fun y hy=> ?_⟩
  obtain⟨a1,a2⟩:=tl _ (getm hy)
  exact⟨by unfold Sml;simp;omega,h _ _ ⟨by unfold InI;simp,sz0,by simpa using a1,by simpa using a2⟩ hD⟩
structure VsS(l:List Val):Prop where
 len:l.length<=4
 all: ∀v∈l,ValS v
theorem VsS.nil:VsS []:=⟨by simp,by simp⟩
theorem VsS.one{v:Val}(h:ValS v):VsS [v]:=⟨by simp,by simpa using h⟩
def ExS:Nat->Ex->Prop
 |0,e=>VsS e.values/\(e.name.size<=100/\e.kind.size<=100)/\(InI e.op/\(2<=e.op->e.op<=4->e.kids≠[]))/\e.kids=[]
 |n+1,e=>VsS e.values/\(e.name.size<=100/\e.kind.size<=100)/\(InI e.op/\(2<=e.op->e.op<=4->e.kids≠[]))/\e.kids.length<=3/\ ∀k∈e.kids,ExS n k
theorem ExS.up: ∀{n:Nat} {e:Ex},ExS n e->ExS (n+1) e
 |0,e,h=>⟨h.1,h.2.1,h.2.2.1,by rw[h.2.2.2];simp,by rw[h.2.2.2];simp⟩
 |n+1,e,h=>⟨h.1,h.2.1,h.2.2.1,h.2.2.2.1,fun k hk=>(h.2.2.2.2 k hk).up⟩
theorem ExS.le{n m:Nat}{e:Ex}(h:ExS n e)(hm:n<=m):ExS m e:=by
 induction hm with
 |refl=>exact h
 |step _ ih=>exact ih.up
theorem ExS.kids{n:Nat}{e:Ex}(h:ExS n e):e.kids.length<=3:=by
 cases n with
 |zero=>rw[h.2.2.2];simp
 |succ n=>exact h.2.2.2.1
theorem ExS.kid{n:Nat}{e k:Ex}(h:ExS n e)(hk:k∈e.kids): ∃m,m+1=n/\ExS m k:=by
 cases n with
 |zero=>rw[h.2.2.2] at hk;simp at hk
 |succ n=>exact⟨n,rfl,h.2.2.2.2 k hk⟩
theorem ExS.vals{n:Nat}{e:Ex}(h:ExS n e):VsS e.values:=by cases n<;>exact h.1
theorem ExS.nm{n:Nat}{e:Ex}(h:ExS n e):e.name.size<=100:=by cases n<;>exact h.2.1.1
theorem ExS.kd{n:Nat}{e:Ex}(h:ExS n e):e.kind.size<=100:=by cases n<;>exact h.2.1.2
theorem ExS.opK{n:Nat}{e:Ex}(h:ExS n e):2<=e.op->e.op<=4->e.kids≠[]:=by cases n<;>exact h.2.2.1.2
def OpL(op:Int):Prop:=InI op/\ ¬(2<=op/\op<=4)
theorem OpL.ok{op:Int}(h:OpL op){l:List Ex}:InI op/\(2<=op->op<=4->l≠[]):=⟨h.1,fun a b=>absurd ⟨a,b⟩ h.2⟩
theorem opl{op:Int}(h:(6<=op/\op<=100)∨op=0∨op=1∨op=5){l:List Ex}:InI op/\(2<=op->op<=4->l≠[]):=⟨by unfold InI;omega,fun a b=>by omega⟩
theorem q0g{K:List Decl->Prop}(h: ∀l,l.length=8->(∀d∈l,d.kind.size<=100/\d.name.size<=100/\1<=d.type/\d.type<=5)->K l):Gh K:=by
 unfold Gh
 exact h _ rfl (by decide)
theorem Hy{list:List Int}{at_:Int}{K:Ex->Int->Prop}(hD:DS list at_)(h: ∀r a,ExS 0 r->6<=r.op/\r.op<=15->DS list a->K r a):q29 list at_ K:=by
 unfold q29 j5k
 refine q0g fun l hl hd _=>⟨by unfold InI;omega,Qc hD (by omega) fun r a r0 r1 hD _=>Cnd.mk (fun _=> ?_) fun hc=>⟨by omega,fun y hy=> ?_⟩⟩
 ·exact w2s hD fun s a hs hD=>h _ _ ⟨.one ⟨by unfold InI;simp,by show s.size<=100;omega,by simp,by simp⟩,⟨(by decide:(ByteArray.mk (Array.mk [107,101,121])).size<=100),(by decide:(ByteArray.mk (Array.mk [117,115,101,114])).size<=100)⟩,opl (by simp),rfl⟩ (by simp) hD
 obtain⟨hy0,hy1,hy2,hy3⟩:=hd y (getm hy)
 have one: ∀{op:Int} {v:Val},OpL op->ValS v->ExS 0 (Ex.mk op y.kind y.name [v] []):=fun ho hv=>⟨.one hv,⟨hy1,hy0⟩,ho.ok,rfl⟩
 refine Jn1.mk (fun x=>(∃b,x=(b,y.kind,y.name,([]:List Val),([]:List Ex),x.2.2.2.2.2.1,0,ByteArray.mk (Array.mk []),ByteArray.mk (Array.mk []),[],[],()))/\DS list x.2.2.2.2.2.1) ?_ ?_
 case refine_2=>
  rintro x ⟨⟨b,hx⟩,hD⟩
  refine q1j hD fun v a hv hD=>h _ _ ?_ (by simp) hD
  rw[hx]
  exact one ⟨by unfold InI;simp,by decide⟩ hv
 refine Qc hD (by decide) fun q a q0 q1 hD=> ?_
 refine Jn1.mk (fun x=>(∃b,x=(x.1,b,y.kind,y.name,([]:List Val),([]:List Ex),0,ByteArray.mk (Array.mk []),ByteArray.mk (Array.mk []),[],[],()))/\DS list x.1) ?_ ?_
 case refine_2=>
  rintro x ⟨⟨b,hx⟩,hD⟩
  have cmp:Q3 list x.1 4 fun r a=>InI (12+r)/\Uy list a y.3 fun v a=>K (Ex.mk (12+r) x.2.2.1 x.2.2.2.1 [v] x.2.2.2.2.2.1) a:=by
   refine Qc hD (by decide) fun r a r0 r1 hD=>⟨by unfold InI;omega,q1j hD fun v a hv hD=>h _ _ ?_ (by simp only;omega) hD⟩
   rw[hx]
   exact one ⟨by unfold InI;omega,by omega⟩ hv
  refine Cnd.mk (fun _=>cmp) fun _=>Cnd.mk (fun _=>cmp) fun _=>Cnd.mk (fun _=>cmp) fun _=> ?_
  refine⟨⟨b,?_⟩,hD⟩
  rw[hx]
 have nx: ∀{a:Int},DS list a->(fun x:Int×ByteArray×ByteArray×List Val×List Ex×Int×Int×ByteArray×ByteArray×List Val×List Ex×Unit=>(∃b,x=(b,y.kind,y.name,([]:List Val),([]:List Ex),x.2.2.2.2.2.1,0,ByteArray.mk (Array.mk []),ByteArray.mk (Array.mk []),[],[],()))/\DS list x.2.2.2.2.2.1) ((0:Int),y.1,y.2,[],[],a,(0:Int),ByteArray.mk (Array.mk []),ByteArray.mk (Array.mk []),[],[],()):=fun hD=>⟨⟨0,rfl⟩,hD⟩
 refine Cnd.mk (fun _=>h _ _ ⟨.nil,⟨hy1,hy0⟩,opl (by simp),rfl⟩ (by simp) hD) fun _=>Cnd.mk (fun _=> ?_) fun _=>Cnd.mk (fun _=> ?_) fun _=>Cnd.mk (fun _=> ?_) fun _=>Cnd.mk (fun _=> ?_) fun _=>nx hD
 ·refine Cnd.mk (fun _=>nx hD) fun _=> ?_
  refine Lp3.ind (fun i l a=>DS list a/\0<=i/\i<=3/\(l.length:Int)=i/\ ∀v∈l,ValS v) (fun i _ _=>(3 - i).toNat) ?_ ⟨hD,by decide,by decide,rfl,by simp⟩
  rintro i l a ⟨hD,i0,i3,hl,hv⟩
  refine Qc hD (by decide) fun r a r0 r1 hD=>Cnd.mk (fun hc=>q1j hD fun v a hv' hD=>⟨by unfold Sml;simp;omega,by unfold InI;omega,⟨hD,by omega,by omega,by simp;omega,fun u hu=> ?_⟩,by omega⟩) (fun hc=>h _ _ ⟨⟨by simp only;omega,hv⟩,⟨hy1,hy0⟩,opl (by simp),rfl⟩ (by simp) hD)
  rcases List.mem_append.1 hu with hu|hu
  ·exact hv u hu
  ·rw[List.mem_singleton.1 hu];exact hv'
 ·have c:Uy list a 3 fun v a=>K (Ex.mk 11 y.1 y.2 [v] []) a:=q1j hD fun v a hv hD=>h _ _ (one ⟨by unfold InI;simp,by decide⟩ hv) (by simp) hD
  exact Cnd.mk (fun _=>c) fun _=>Cnd.mk (fun _=>c) fun _=>nx hD
 ·exact Cnd.mk (fun _=>Qc hD (by decide) fun r a r0 r1 hD=>⟨by unfold InI;omega,q1j hD fun v a hv hD=>h _ _ (one ⟨by unfold InI;omega,by omega⟩ hv) (by simp only;omega) hD⟩) fun _=>⟨⟨0,rfl⟩,hD⟩
 ·exact⟨⟨0,rfl⟩,hD⟩
theorem ExS.eta{n:Nat}{e:Ex}(h:ExS n e):ExS n (Ex.mk e.op e.kind e.name e.values e.kids):=by cases e;exact h
theorem v01{n:Nat}{e:Ex}(h:ExS n e){k m:ByteArray}(hm:m.size<=100)(hk:k.size<=100):ExS (n+1) (Ex.mk 4 k m [] [e]):=⟨.nil,⟨hm,hk⟩,⟨InI.mk (by simp) (by simp),fun _ _=>by simp⟩,by simp,by simpa using h⟩
theorem w8e{list:List Int}{segs:List ByteArray}(hs: ∀s∈segs,s.size<=100): ∀(k:Nat) {at_ levels:Int} {K:Ex->Int->Prop},k<=100->levels<=k+1->1<=levels->DS list at_->(∀r a,ExS (2*k) r->DS list a->K r a)->q5e list at_ segs levels K:=by
 intro k at_ levels K hk0 hk hl hD h X hX
 induction k generalizing at_ levels K with
 |zero=>
  refine hX _ _ _ _ _ ?_
  unfold z1s
  have hseg: ∀{x:Int} {b:ByteArray} {a:Int},b∈segs->OpL x->DS list a->K (Ex.mk x (ByteArray.mk (Array.mk [])) b [] []) a:=fun hb hx hD=>h _ _ ⟨.nil,⟨hs _ hb,sz0⟩,hx.ok,rfl⟩ hD
  refine Qc hD (by decide) fun r a r0 r1 hD=>Jn1.mk (fun x=>0<=x/\x<=3) (Cnd.mk (fun _=>Cnd.mk (fun _=>⟨by unfold InI;omega,by omega,by omega⟩) fun _=>⟨by omega,by omega⟩) fun _=>by omega) fun x hx=> ?_
  have t:=Hy (K:=fun r a=>K (Ex.mk r.1 r.2 r.3 r.4 r.5) a) hD fun r a hr _ hD=>h _ a (hr.eta.le (by omega)) hD
  refine Cnd.mk (fun _=>h _ _ ⟨.nil,⟨sz0,sz0⟩,opl (by simp),rfl⟩ hD) fun _=>Cnd.mk (fun _ _=>Cnd.mk (fun hc _=> ?_) fun _=>t) fun _=>Cnd.mk (fun hc=>by omega) fun _=> ?_
  ·exact Qc hD (by omega) fun r a r0 r1 hD=>⟨⟨r0,r1⟩,fun y hy=>hseg (getm hy) ⟨by unfold InI;simp,by decide⟩ hD⟩
  ·exact Jn1.mk (fun x=>x=false) (Cnd.mk (fun hc=>by omega) fun _=>decide_eq_false (by omega)) fun x hx=>Cnd.mk (fun hc=>by rw[hx] at hc;cases hc) fun _=>t
 |succ k ih=>
  refine hX _ _ _ _ _ ?_
  unfold z1s
  have hseg: ∀{x:Int} {b:ByteArray} {a:Int},b∈segs->OpL x->DS list a->K (Ex.mk x (ByteArray.mk (Array.mk [])) b [] []) a:=fun hb hx hD=>h _ _ (ExS.le (n:=0) ⟨.nil,⟨hs _ hb,sz0⟩,hx.ok,rfl⟩ (by omega)) hD
  have go: ∀{at_:Int} {K:Ex->Int->Prop},InI (levels - 1)->1<=levels - 1->DS list at_->(∀r a,ExS (2*k) r->DS list a->K r a)->X list at_ segs (levels - 1) K:=fun _ h1 hD hK=>ih (by omega) (by omega) h1 hD hK
  refine Qc hD (by decide) fun r a r0 r1 hD=>Jn1.mk (fun x=>0<=x/\x<=7/\(levels<=1->x<=3)) (Cnd.mk (fun _=>Cnd.mk (fun _=>⟨by unfold InI;omega,by omega,by omega,by omega⟩) fun _=>⟨by omega,by omega,by omega⟩) fun _=>by omega) fun x hx=> ?_
  have t:=Hy (K:=fun r a=>K (Ex.mk r.1 r.2 r.3 r.4 r.5) a) hD fun r a hr _ hD=>h _ a (hr.eta.le (by omega)) hD
  refine Cnd.mk (fun _=>h _ _ (ExS.le (n:=0) ⟨.nil,⟨sz0,sz0⟩,opl (by simp),rfl⟩ (by omega)) hD) fun _=>Cnd.mk (fun _ _=>Cnd.mk (fun hc _=> ?_) fun _=>t) fun _=>Cnd.mk (fun hc=> ?_) fun _=> ?_
  ·exact Qc hD (by omega) fun r a r0 r1 hD=>⟨⟨r0,r1⟩,fun y hy=>hseg (getm hy) ⟨by unfold InI;simp,by decide⟩ hD⟩
  ·exact⟨by unfold InI;omega,go (by unfold InI;omega) (by omega) hD fun e a he hD=>h _ _ ((v01 he.eta sz0 sz0).le (by omega)) hD⟩
  refine Jn1.mk (fun y=>y=true->2<=levels) (Cnd.mk (fun hc _=>by omega) fun _ hc=>by have:=of_decide_eq_true hc;omega) fun y hy=>Cnd.mk (fun hc=> ?_) fun _=>t
  have hy:=hy hc
  refine Qc hD (by decide) fun r a r0 r1 hD=>⟨by unfold InI;omega,Qc hD (by decide) fun q a q0 q1 hD=>⟨by unfold InI;omega,?_⟩⟩
  refine LpH.ind (fun x=>0<=x.1/\x.1<=2+q/\DS list x.2.1/\x.2.2=(2+r,ByteArray.mk (Array.mk []),ByteArray.mk (Array.mk []),[],x.2.2.2.2.2.2.1,())/\(x.2.2.2.2.2.2.1.length:Int)=x.1/\ ∀e∈x.2.2.2.2.2.2.1,ExS (2*k+1) e) (fun x=>(3 - x.1).toNat) ?_ ⟨Int.le_refl 0,by simp only;omega,hD,rfl,rfl,by simp⟩
  rintro⟨i,a,x⟩ ⟨i0,i1,hD,hx,hl,he⟩
  simp only at i0 i1 hD hx hl he
  generalize x.2.2.2.2.1=l at*
  subst hx
  simp only at hl he⊢
  refine Cnd.mk (fun hc=>⟨by unfold InI;omega,go (by unfold InI;omega) (by omega) hD fun e a hk hD=> ?_⟩) fun hc=>h _ _ ⟨.nil,⟨sz0,sz0⟩,⟨InI.mk (by simp only;omega) (by simp only;omega),fun _ _ hn=>by simp only at hn;rw[hn] at hl;simp at hl;omega⟩,by simp only;omega,he⟩ hD
  refine Jn1.mk (fun z=>ExS (2*k+1) (Ex.mk z.1 z.2.1 z.2.2.1 z.2.2.2.1 z.2.2.2.2.1)) (Cnd.mk (fun _=>v01 hk.eta sz0 sz0) fun _=>hk.eta.up) fun z hz=> ?_
  refine⟨by unfold Sml;simp;omega,by unfold InI;omega,⟨by omega,by omega,hD,trivial,by simp;omega,fun e hm=> ?_⟩,by omega⟩
  rcases List.mem_append.1 hm with hm|hm
  ·exact he e hm
  ·rw[List.mem_singleton.1 hm];exact hz
structure SegS(g:Seg):Prop where
 key:g.key.size<=100
 kind:g.kind.size<=100
 incl:g.incl.length<=3
 excl:g.excl.length<=3
 cond:ExS 4 g.cond
theorem Zc{α:Type}{P:α->Prop}{l:List α}{x:α}(h: ∀y∈l,P y)(hx:P x): ∀y∈l++[x],P y:=fun y hy=>by
 rcases List.mem_append.1 hy with hy|hy
 ·exact h y hy
 ·rw[List.mem_singleton.1 hy];exact hx
theorem q2v{v:Envt}{K:List ByteArray->Prop}(hl:v.segments.length<=1000)(h:K (v.segments.map Seg.key)):V1 v K:=by
 unfold V1
 refine Lp2.ind (fun (l:List ByteArray) (i:Int)=>0<=i/\i<=v.segments.length/\l=(v.segments.take i.toNat).map Seg.key) (fun _ (i:Int)=>(v.segments.length - i).toNat) ?_ ⟨Int.le_refl 0,by omega,by simp⟩
 rintro l i ⟨i0,i1,rfl⟩ _
 refine Cnd.mk (fun hc=>⟨by omega,fun y hy=>⟨by unfold Sml;simp;omega,by unfold InI;omega,⟨by omega,by omega,?_⟩,by omega⟩⟩) fun hc=> ?_
 ·rw[show (i+1).toNat=i.toNat+1 by omega,List.take_add_one,hy];simp
 ·rw[List.take_of_length_le (by omega)];exact h
def SplS(n:Int)(l:List Rng):Prop:=l.length<=4/\ ∀r∈l,0<=r.lo/\r.hi<=10000/\1<=r.variation/\r.variation<=n
theorem w4l{list:List Int}{at_ n:Int}{K:List Rng->Int->Prop}(hD:DS list at_)(hn:1<=n)(hn':n<=100)(h: ∀l a,SplS n l->DS list a->K l a):q35 list at_ n K:=by
 unfold q35 z47
 refine Jn4.mk (fun l at_ last a=>DS list a/\l.length<=3/\0<=at_/\ ∀r∈l,0<=r.lo/\r.hi<=10000/\1<=r.variation/\r.variation<=n) ?_ ?_
 ·refine Lp5.ind (fun l at_ last i a=>DS list a/\0<=i/\i<=3/\(l.length:Int)=i/\0<=at_/\at_<=10000/\0<=last/\last<=n/\ ∀r∈l,0<=r.lo/\r.hi<=10000/\1<=r.variation/\r.variation<=n) (fun _ _ _ i _=>(3 - i).toNat) ?_ ⟨hD,by omega,by omega,rfl,by omega,by omega,by omega,by omega,by simp⟩
  rintro l at_ last i a ⟨hD,i0,i1,hl,a0,a1,l0,l1,hr⟩
  refine Qc hD (by decide) fun q a q0 q1 hD=>Cnd.mk (fun _=>Cnd.mk (fun _=>⟨by unfold InI;omega,U2 hD (by decide) fun w a w0 w1 hD=>⟨by unfold InI;omega,Qc hD hn fun v a v0 v1 hD=>⟨by unfold InI;omega,?_⟩⟩⟩) fun _=> ?_) fun _=> ?_
  ·have m0:=Int.tmod_nonneg n (show 0<=1+v by omega);have m1:=Int.tmod_lt_of_pos (1+v) (b:=n) (by omega)
   refine Jn1.mk (fun v=>1<=v/\v<=n) (Cnd.mk (fun _=>⟨by omega,by unfold InI;omega,by omega,by omega⟩) fun _=>⟨by omega,by omega⟩) fun v hv=>Cnd.mk (fun _=>⟨hD,by omega,a0,hr⟩) fun _=> ?_
   exact⟨by unfold Sml;simp;omega,by unfold InI;omega,⟨hD,by omega,by omega,by simp;omega,by omega,by omega,by omega,by omega,Zc hr ⟨by simp only;omega,by simp only;omega,by simp only;omega,by simp only;omega⟩⟩,by omega⟩
  ·exact⟨hD,by omega,a0,hr⟩
  ·exact⟨hD,by omega,a0,hr⟩
 ·rintro l at_ last a ⟨hD,hl,a0,hr⟩
  refine Qc hD hn fun v a v0 v1 hD=>⟨by unfold InI;omega,?_⟩
  have m0:=Int.tmod_nonneg n (show 0<=1+v by omega);have m1:=Int.tmod_lt_of_pos (1+v) (b:=n) (by omega)
  refine Jn1.mk (fun v=>1<=v/\v<=n) (Cnd.mk (fun _=>⟨by omega,by unfold InI;omega,by omega,by omega⟩) fun _=>⟨by omega,by omega⟩) fun v hv=> ?_
  exact⟨by unfold Sml;simp;omega,h _ _ ⟨by simp;omega,Zc hr ⟨a0,by simp,hv.1,hv.2⟩⟩ hD⟩
structure SrvS(n:Int)(s:Srv):Prop where
 kind:s.kind.size<=100
 var:0<=s.variation/\s.variation<=n
 split:SplS n s.split
 by_:s.by_.size<=100
 salt:s.salt.size<=100
theorem z8a{list:List Int}{at_ n:Int}{K:Srv->Int->Prop}(hD:DS list at_)(hn:1<=n)(hn':n<=100)(h: ∀s a,SrvS n s->DS list a->K s a):Bi list at_ n K:=by
 unfold Bi z48
 have tt: ∀s∈q95,s.size<=100:=by decide
 have key:(ByteArray.mk (Array.mk [107,101,121])).size<=100:=by decide
 refine Qc hD (by decide) fun r a r0 r1 hD=>Cnd.mk (fun _=>Qc hD hn fun v a v0 v1 hD=>⟨by unfold InI;omega,h _ _ ⟨sz0,⟨by simp only;omega,by simp only;omega⟩,⟨by simp,by simp⟩,sz0,sz0⟩ hD⟩) fun _=> ?_
 refine q0f hD fun t a ht hD=>w4l hD hn hn' fun l a hl hD=>q0g fun ds _ hds=>Qc hD (by decide) fun q a q0 q1 hD _=> ?_
 have usr:(ByteArray.mk (Array.mk [117,115,101,114])).size<=100:=by decide
 have ok: ∀{k b:ByteArray},k.size<=100->b.size<=100->SrvS n (Srv.mk 0 k b t l):=fun hk hb=>⟨hk,⟨by simp,by simp only;omega⟩,hl,hb,tt _ ht⟩
 refine Cnd.mk (fun _=>⟨by omega,fun y hy=>Cnd.mk (fun _=>h _ _ (ok usr key) hD) fun _=>⟨by omega,fun z hz=>⟨by omega,fun u hu=>h _ _ (ok (hds z (getm hz)).1 (hds u (getm hu)).2.1) hD⟩⟩⟩) fun _=>h _ _ (ok usr key) hD
structure LayS(l:Lay_):Prop where
 key:l.key.size<=100
 kind:l.kind.size<=100
 salt:l.salt.size<=100
 hold:0<=l.holdout/\l.holdout<=10000
 cool:0<=l.cool/\l.cool<=100
 cl:l.cooling.length<=1000
theorem w4m{list:List Int}{at_:Int}{key:ByteArray}{K:Lay_->Int->Prop}(hD:DS list at_)(hk:key.size<=100)(h: ∀l a,LayS l->l.key=key->DS list a->K l a):z5d list at_ key K:=by
 unfold z5d j05
 have tt: ∀s∈q95,s.size<=100:=by decide
 refine q0f hD fun t a ht hD=>Qc hD (by decide) fun c a c0 c1 hD=>⟨by unfold InI;omega,?_⟩
 refine Jn2.mk (fun k a=>k.size<=100/\DS list a) (Qc hD (by decide) fun r a r0 r1 hD=>Cnd.mk (fun _=>⟨by decide,hD⟩) fun _=>⟨by decide,hD⟩) fun kind a hx=> ?_
 obtain⟨hkd,hD⟩:=hx
 refine Jn2.mk (fun x a=>DS list a/\0<=x/\x<=10000) (Qc hD (by decide) fun r a r0 r1 hD=>Cnd.mk (fun _=>U2 hD (by decide) fun w a w0 w1 hD=>⟨hD,by omega,by omega⟩) fun _=>⟨hD,by omega,by omega⟩) fun hold a hx=> ?_
 obtain⟨hD,x0,x1⟩:=hx
 have ok: ∀{cs:List Col},cs.length<=1000->LayS (Lay_.mk key kind t hold (c*50) cs):=fun hcs=>⟨hk,hkd,tt _ ht,⟨x0,x1⟩,⟨by simp only;omega,by simp only;omega⟩,hcs⟩
 refine Lp4.ind (fun at_ i cs a=>DS list a/\0<=i/\i<=2/\(cs.length:Int)=i/\0<=at_/\at_<=10000/\ ∀c∈cs,0<=c.lo/\c.hi<=10000/\0<=c.until_/\c.until_<=200) (fun _ i _ _=>(2 - i).toNat) ?_ ⟨hD,by omega,by omega,rfl,by omega,by omega,by simp⟩
 rintro at_ i cs a ⟨hD,i0,i1,hl,a0,a1,hc⟩
 refine Qc hD (by decide) fun q a q0 q1 hD=>Cnd.mk (fun _=>U2 hD (by decide) fun w a w0 w1 hD=>⟨by unfold InI;omega,by unfold InI;omega,U2 hD (by decide) fun w' a w0' w1' hD=>⟨by unfold InI;omega,Cnd.mk (fun _=>h _ _ (ok (by omega)) rfl hD) fun _=> ?_⟩⟩) fun _=>h _ _ (ok (by omega)) rfl hD
 refine Qc hD (by decide) fun u a u0 u1 hD=>⟨by unfold Sml;simp;omega,by unfold InI;omega,⟨hD,by omega,by omega,by simp;omega,by omega,by omega,Zc hc ⟨by simp only;omega,by simp only;omega,by simp only;omega,by simp only;omega⟩⟩,by omega⟩
structure SpsS(l:List Spn):Prop where
 len:l.length<=10000
 all: ∀s∈l,0<=s.lo/\s.lo<s.hi/\s.hi<=10000
structure RulS(n:Int)(r:Rul):Prop where
 name:r.name.size<=100
 cond:ExS 4 r.cond
 serve:SrvS n r.serve
structure FlgS(f:Flg):Prop where
 key:f.key.size<=100
 vlen:1<=f.variations.length/\f.variations.length<=4
 vals: ∀v∈f.variations,ValS v
 nlen:f.needs.length<=4
 needs: ∀q∈f.needs,q.flag.size<=100
 tlen:f.targets.length<=3
 tgts: ∀t∈f.targets,t.kind.size<=100
 rlen:f.rules.length<=4
 rules: ∀r∈f.rules,RulS f.variations.length r
 dflt:SrvS f.variations.length f.dflt
structure ExpS(x:Exper):Prop where
 key:x.key.size<=100
 layer:x.layer.size<=100
 flag:x.flag.size<=100
 claims:SpsS x.claims
 arms:SplS 4 x.arms
 cond:ExS 4 x.cond
structure EnvS(v:Envt):Prop where
 hkind:v.settings.holdoutKind.size<=100
 attrs: ∀d∈v.attributes,d.kind.size<=100/\d.name.size<=100
 slen:v.segments.length<=3
 segs: ∀g∈v.segments,SegS g
 flen:v.flags.length<=4
 flags: ∀f∈v.flags,FlgS f
 llen:v.layers.length<=2
 layers: ∀l∈v.layers,LayS l
 xlen:v.experiments.length<=3
 exps: ∀x∈v.experiments,ExpS x
end Go.En
end
noncomputable section
set_option maxRecDepth 100000
namespace Go.En
open Go Go.Fl Go.Fl.Lk Go.Fx
theorem z8b{α:Type}{a b:List α}(hl:a.length=b.length){F:α->α->(Bool->Prop)->Prop}{K:Bool->Prop}(hF: ∀x∈a,∀y∈b,∀K:Bool->Prop,(∀r,(r=true↔x=y)->K r)->F x y K)(h: ∀r,(r=true↔a=b)->K r):
  Lp1 (fun i Y=>a.length<=9223372036854775807->Cnd (i<(a.length:Int)) ((0<=i/\i<(a.length:Int))/\ ∀x,a[i.toNat]? =some x->(0<=i/\i<(b.length:Int))/\ ∀y,b[i.toNat]? =some y->F x y fun r=>Cnd (r=true) (InI (i+1)/\Y (i+1)) (K false)) (K true)) 0:=by
 refine Lp1.ind (fun (i:Int)=>0<=i/\i<=a.length/\a.take i.toNat=b.take i.toNat) (fun (i:Int)=>(a.length - i).toNat) ?_ ⟨by omega,by omega,by simp⟩
 rintro i ⟨i0,i1,he⟩ _
 refine Cnd.mk (fun hc=>⟨by omega,fun x hx=>⟨by omega,fun y hy=>hF x (getm hx) y (getm hy) _ fun r hr=>Cnd.mk (fun hc=>⟨by unfold InI;omega,⟨by omega,by omega,?_⟩,by omega⟩) fun hc=>h _ ⟨fun h=>(by cases h),fun h=> ?_⟩⟩⟩) fun hc=>h _ ⟨fun _=> ?_,fun _=>rfl⟩
 ·rw[show (i+1).toNat=i.toNat+1 by omega,List.take_add_one,List.take_add_one,he,hx,hy,hr.1 hc]
 ·subst h;rw[hx] at hy;exact absurd (hr.2 (by cases hy;rfl)) hc
 ·rwa [List.take_of_length_le (by omega),List.take_of_length_le (by omega)] at he
theorem w4n{a b:List ByteArray}{K:Bool->Prop}(h: ∀r,(r=true↔a=b)->K r):z5b a b K:=by
 unfold z5b
 intro ha hb
 refine Cnd.mk (fun hl=> ?_) fun hl=>h _ ⟨fun h=>(by cases h),fun e=>by rw[e] at hl;exact absurd rfl hl⟩
 refine Lp1.ind (fun (i:Int)=>0<=i/\i<=a.length/\a.take i.toNat=b.take i.toNat) (fun (i:Int)=>(a.length - i).toNat) ?_ ⟨by omega,by omega,by simp⟩
 rintro i ⟨i0,i1,he⟩ _
 refine Cnd.mk (fun hc=>⟨by omega,fun x hx=>⟨by omega,fun y hy=>Cnd.mk (fun hc=>⟨by unfold InI;omega,⟨by omega,by omega,?_⟩,by omega⟩) fun hc=>h _ ⟨fun h=>(by cases h),fun h=> ?_⟩⟩⟩) fun hc=>h _ ⟨fun _=> ?_,fun _=>rfl⟩
 ·rw[show (i+1).toNat=i.toNat+1 by omega,List.take_add_one,List.take_add_one,he,hx,hy,hc]
 ·subst h;rw[hx] at hy;cases hy;exact absurd rfl hc
 ·rwa [List.take_of_length_le (by omega),List.take_of_length_le (by omega)] at he
theorem j2c{l:List ByteArray}{s:ByteArray}{K:Bool->Prop}(h: ∀r,(r=true↔s∈l)->K r):q5i l s K:=by
 unfold q5i
 refine Lp1.ind (fun (i:Int)=>0<=i/\i<=l.length/\s∉l.take i.toNat) (fun (i:Int)=>(l.length - i).toNat) ?_ ⟨by omega,by omega,by simp⟩
 rintro i ⟨i0,i1,he⟩ _
 refine Cnd.mk (fun hc=>⟨by omega,fun x hx=>Cnd.mk (fun e=>h _ ⟨fun _=>e▸getm hx,fun _=>rfl⟩) fun e=>⟨by unfold InI;omega,⟨by omega,by omega,?_⟩,by omega⟩⟩) fun hc=>h _ ⟨fun h=>(by cases h),fun hm=> ?_⟩
 ·rw[show (i+1).toNat=i.toNat+1 by omega,List.take_add_one,hx];simp[he,Ne.symm e]
 ·rw[List.take_of_length_le (by omega)] at he;exact absurd hm he
theorem w01{a b:Val}{K:Bool->Prop}(h: ∀r,(r=true↔a=b)->K r):z1t a b K:=by
 unfold z1t z66
 have no:(a≠b)->K false:=fun hn=>h _ ⟨fun h=>(by cases h),fun e=>absurd e hn⟩
 refine Cnd.mk (fun h1=>Cnd.mk (fun h2=>Cnd.mk (fun h3=>w4n fun r hr=>h r (hr.trans ⟨fun h4=> ?_,fun e=>by rw[e]⟩)) fun h=>no fun e=>h (by rw[e])) fun h=>no fun e=>h (by rw[e])) fun h=>no fun e=>h (by rw[e])
 cases a;cases b;simp_all
theorem q2w{a b:List Val}{K:Bool->Prop}(h: ∀r,(r=true↔a=b)->K r):W4 a b K:=by
 unfold W4 q37
 intro ha hb
 exact Cnd.mk (fun hl=>z8b (by omega) (fun x _ y _ K hK=>w01 hK) h) fun hl=>h _ ⟨fun h=>(by cases h),fun e=>by rw[e] at hl;exact absurd rfl hl⟩
theorem Zd{e:Ex}:Ex.mk e.op e.kind e.name e.values e.kids=e:=by cases e;rfl
theorem j3e: ∀(n:Nat) {a b:Ex} {K:Bool->Prop},ExS n a->(∀r,(r=true↔a=b)->K r)->Uk a b K:=by
 intro n a b K ha h X hX
 induction n using Nat.strongRecOn generalizing a b K with
 |_ n ih=>
 refine hX _ _ _ ?_
 unfold q3a
 have no:(a≠b)->K false:=fun hn=>h _ ⟨fun h=>(by cases h),fun e=>absurd e hn⟩
 refine Cnd.mk (fun h1=>Cnd.mk (fun h2=>Cnd.mk (fun h3=>q2w fun r hr=>Cnd.mk (fun hc _ _=>Cnd.mk (fun hl=> ?_) fun h=>no fun e=>h (by rw[e])) fun hc=>no fun e=>hc (hr.2 (by rw[e]))) fun h=>no fun e=>h (by rw[e])) fun h=>no fun e=>h (by rw[e])) fun h=>no fun e=>h (by rw[e])
 have h4:=hr.1 hc
 refine z8b (by omega) (fun x hx y _ K hK=> ?_) fun r hr=>h r (hr.trans ⟨fun h5=> ?_,fun e=>by rw[e]⟩)
 ·obtain⟨m,hm,hk⟩:=ha.kid hx
  rw[Zd,Zd]
  exact ih m (by omega) hk hK
 ·cases a;cases b;simp_all
theorem j2d(n:Nat){a b:Ex}{K:Bool->Prop}(ha:ExS n a)(h: ∀r,(r=true↔a=b)->K r):Uk (Ex.mk a.1 a.2 a.3 a.4 a.5) (Ex.mk b.1 b.2 b.3 b.4 b.5) K:=by
 rw[Zd,Zd];exact j3e n ha h
theorem z8r{n:Nat}{l:List Ex}{e:Ex}{K:Int->Prop}(hl: ∀x∈l,ExS n x)(h: ∀r:Int,(r= -1/\e∉l)∨(0<=r/\l[r.toNat]? =some e/\e∉l.take r.toNat)->K r):Vq l e K:=by
 unfold Vq z3v
 refine Lp1.ind (fun (i:Int)=>0<=i/\i<=l.length/\e∉l.take i.toNat) (fun (i:Int)=>(l.length - i).toNat) ?_ ⟨by omega,by omega,by simp⟩
 rintro i ⟨i0,i1,he⟩ _
 refine Cnd.mk (fun hc=>⟨by omega,fun x hx=>j2d n (hl x (getm hx)) fun r hr=>Cnd.mk (fun hc=>h _ (.inr ⟨i0,by rw[hx,hr.1 hc],he⟩)) fun hc=>⟨by unfold InI;omega,⟨by omega,by omega,?_⟩,by omega⟩⟩) fun hc=>h _ (.inl ⟨rfl,?_⟩)
 ·rw[show (i+1).toNat=i.toNat+1 by omega,List.take_add_one,hx]
  have:e≠x:=fun e=>hc (hr.2 e.symm)
  simp[he,this]
 ·rwa [List.take_of_length_le (by omega)] at he
theorem R6{op:Int}{K:Bool->Prop}(h: ∀r,(r=true↔6<=op/\op<=15)->K r):Wl op K:=by
 unfold Wl
 exact Cnd.mk (fun h6=>h _ ⟨fun a=>⟨h6,of_decide_eq_true a⟩,fun a=>decide_eq_true a.2⟩) fun h6=>h _ ⟨fun a=>(by cases a),fun a=>absurd a.1 h6⟩
theorem j2e{now:Int}{K:Bool->Prop}(h: ∀r,(r=true↔0<=now/\now<=1099511627776)->K r):R0 now K:=by
 unfold R0
 exact Cnd.mk (fun h6=>h _ ⟨fun a=>⟨h6,of_decide_eq_true a⟩,fun a=>decide_eq_true a.2⟩) fun h6=>h _ ⟨fun a=>(by cases a),fun a=>absurd a.1 h6⟩
theorem j8q{α:Type}{l:List α}{f:α->ByteArray}{key:ByteArray}{K:Int->Prop}(h: ∀r:Int,(r= -1/\ ∀x∈l,f x≠key)∨(0<=r/\r<l.length/\(∃x,l[r.toNat]? =some x/\f x=key)/\ ∀x∈l.take r.toNat,f x≠key)->K r):
  Lp1 (fun i Y=>l.length<=9223372036854775807->Cnd (i<(l.length:Int)) ((0<=i/\i<(l.length:Int))/\ ∀y,l[i.toNat]? =some y->Cnd (f y=key) (K i) (InI (i+1)/\Y (i+1))) (K (-1))) 0:=by
 refine Lp1.ind (fun (i:Int)=>0<=i/\i<=l.length/\ ∀x∈l.take i.toNat,f x≠key) (fun (i:Int)=>(l.length - i).toNat) ?_ ⟨by omega,by omega,by simp⟩
 rintro i ⟨i0,i1,he⟩ _
 refine Cnd.mk (fun hc=>⟨by omega,fun x hx=>Cnd.mk (fun e=>h _ (.inr ⟨i0,hc,⟨x,hx,e⟩,he⟩)) fun e=>⟨by unfold InI;omega,⟨by omega,by omega,?_⟩,by omega⟩⟩) fun hc=>h _ (.inl ⟨rfl,?_⟩)
 ·rw[show (i+1).toNat=i.toNat+1 by omega,List.take_add_one,hx]
  exact Zc he e
 ·rwa [List.take_of_length_le (by omega)] at he
def PlcS{α:Type}(l:List α)(f:α->ByteArray)(key:ByteArray)(r:Int):Prop:=(r= -1/\ ∀x∈l,f x≠key)∨(0<=r/\r<l.length/\(∃x,l[r.toNat]? =some x/\f x=key)/\ ∀x∈l.take r.toNat,f x≠key)
theorem q1w{v:Envt}{key:ByteArray}{K:Int->Prop}(h: ∀r,PlcS v.layers Lay_.key key r->K r):Zw v key K:=j8q h
theorem q8y{v:Envt}{key:ByteArray}{K:Int->Prop}(h: ∀r,PlcS v.flags Flg.key key r->K r):Gu v key K:=j8q h
theorem Hg{l:List Spn}{K:List Bool->Prop}(h: ∀b:List Bool,b.length=10000->K b):V5 l K:=by
 unfold V5
 refine⟨⟨by decide,Int.le_refl _,by unfold Sml;decide⟩,Lp2.ind (fun (i:Int) (b:List Bool)=>0<=i/\i<=l.length/\b.length=10000) (fun (i:Int) _=>(l.length - i).toNat) ?_ ⟨by omega,by omega,by rw[List.length_replicate];decide⟩⟩
 rintro i b ⟨i0,i1,hb⟩ _
 refine Cnd.mk (fun hc=>⟨by omega,fun y hy=> ?_⟩) fun _=>h b hb
 refine Lp2.ind (fun (j:Int) (b:List Bool)=>0<=j/\b.length=10000) (fun (j:Int) _=>(10000 - j).toNat) ?_ ⟨by omega,hb⟩
 rintro j b ⟨j0,hb⟩
 refine⟨by omega,fun z hz=>Cnd.mk (fun hc=>⟨by omega,fun u hu=>⟨by unfold InI;omega,⟨by omega,by simpa using hb⟩,by omega⟩⟩) fun _=>⟨by unfold InI;omega,⟨by omega,by omega,hb⟩,by omega⟩⟩
theorem q2f{b:List Bool}{K:List Spn->Prop}(hb:b.length<=10000)(h: ∀l,SpsS l->K l):W6 b K:=by
 unfold W6
 refine Lp2.ind (fun (l:List Spn) (i:Int)=>0<=i/\i<=b.length/\l.length<=i/\(∀s∈l,0<=s.lo/\s.lo<s.hi/\s.hi<=i)/\(0<i->b[(i - 1).toNat]? =some true->l≠[])) (fun _ (i:Int)=>(b.length - i).toNat) ?_ ⟨by omega,by omega,by simp,by simp,by omega⟩
 rintro l i ⟨i0,i1,hl,hs,hn⟩ _
 refine Cnd.mk (fun hc=>⟨by omega,fun y hy=>Cnd.mk (fun ht=> ?_) fun hf=> ?_⟩) fun _=>h l ⟨by omega,fun s hm=>by have:=hs s hm;omega⟩
 ·have snoc:InI (i+1)/\Sml (l++[Spn.mk i (i+1)]).length/\InI (i+1)/\((0<=i+1/\i+1<=b.length/\((l++[Spn.mk i (i+1)]).length:Int)<=i+1/\(∀s∈l++[Spn.mk i (i+1)],0<=s.lo/\s.lo<s.hi/\s.hi<=i+1)/\(0<i+1->b[(i+1 - 1).toNat]? =some true->l++[Spn.mk i (i+1)]≠[]))/\(b.length - (i+1)).toNat<(b.length - i).toNat):=
   ⟨by unfold InI;omega,by unfold Sml;simp;omega,by unfold InI;omega,⟨by omega,by omega,by simp;omega,Zc (fun s hm=>by have:=hs s hm;omega) ⟨i0,by simp only;omega,by simp⟩,fun _ _=>by simp⟩,by omega⟩
  refine Cnd.mk (fun hp=>⟨by unfold InI;omega,by omega,fun z hz=>Cnd.mk (fun hz1=> ?_) fun _=>snoc⟩) fun _=>snoc
  have hne:=hn hp (by rw[hz,hz1])
  have hpos:0<l.length:=List.length_pos_iff.2 hne
  refine fun _=>⟨by unfold InI;omega,by unfold InI;omega,by omega,fun u hu=>⟨by unfold InI;omega,⟨by omega,by omega,by simp;omega,fun s hm=> ?_,fun _ _ hx=> ?_⟩,by omega⟩⟩
  ·have:=hs u (getm hu)
   rcases List.mem_or_eq_of_mem_set hm with hm|rfl
   ·have:=hs s hm;omega
   ·exact⟨this.1,by simp only;omega,by simp⟩
  ·exact hne (by rw[←List.length_eq_zero_iff] at hx⊢;simpa using hx)
 ·refine⟨by unfold InI;omega,⟨by omega,by omega,by omega,fun s hm=>by have:=hs s hm;omega,fun _ hx=> ?_⟩,by omega⟩
  rw[show (i+1 - 1).toNat=i.toNat by omega,hy] at hx
  cases hx;exact absurd rfl hf
theorem q2x{l:List Col}{now:Int}{K:List Int->Prop}(h: ∀b:List Int,b.length=10000->K b):Z3 l now K:=by
 unfold Z3
 refine⟨⟨by decide,Int.le_refl _,by unfold Sml;decide⟩,Lp2.ind (fun (i:Int) (b:List Int)=>0<=i/\i<=10000/\b.length=10000) (fun (i:Int) _=>(10000 - i).toNat) ?_ ⟨by omega,by omega,by rw[List.length_replicate];decide⟩⟩
 rintro i b ⟨i0,i1,hb⟩ _
 refine Cnd.mk (fun hc=>⟨by omega,fun y hy=>⟨by unfold InI;omega,⟨by omega,by omega,by simpa using hb⟩,by omega⟩⟩) fun _=> ?_
 refine Lp2.ind (fun (i:Int) (b:List Int)=>0<=i/\i<=l.length/\b.length=10000) (fun (i:Int) _=>(l.length - i).toNat) ?_ ⟨by omega,by omega,hb⟩
 rintro i b ⟨i0,i1,hb⟩ _
 refine Cnd.mk (fun hc=>⟨by omega,fun y hy=> ?_⟩) fun _=>h b hb
 refine Lp2.ind (fun (j:Int) (b:List Int)=>0<=j/\b.length=10000) (fun (j:Int) _=>(10000 - j).toNat) ?_ ⟨by omega,hb⟩
 rintro j b ⟨j0,hb⟩
 refine⟨by omega,fun z hz=>Cnd.mk (fun hc=>⟨by omega,fun u hu=>⟨by omega,fun w hw=>⟨by omega,fun x hx=>⟨by unfold InI;omega,⟨by omega,by simpa using hb⟩,by omega⟩⟩⟩⟩) fun _=>⟨by unfold InI;omega,⟨by omega,by omega,hb⟩,by omega⟩⟩
theorem z07{u:List Int}{now:Int}{K:List Spn->Prop}(hu:u.length<=10000)(h: ∀l,SpsS l->K l):Un u now K:=by
 unfold Un q7y
 refine fun _=>⟨⟨by omega,Int.le_refl _,by unfold Sml;omega⟩,Lp2.ind (fun (i:Int) (b:List Bool)=>0<=i/\i<=u.length/\b.length=u.length) (fun (i:Int) _=>(u.length - i).toNat) ?_ ⟨by omega,by omega,by simp⟩⟩
 rintro i b ⟨i0,i1,hb⟩ _
 exact Cnd.mk (fun hc=>⟨by omega,fun y hy=>⟨by omega,fun z hz=>⟨by unfold InI;omega,⟨by omega,by omega,by simpa using hb⟩,by omega⟩⟩⟩) fun _=>q2f (by omega) h
theorem q5v{a b:List Spn}{K:List Spn->Prop}(h: ∀l,SpsS l->K l):Rq a b K:=by
 unfold Rq q7z
 refine Hg fun x hx=>Hg fun y hy=>Lp2.ind (fun (i:Int) (b:List Bool)=>0<=i/\i<=10000/\b.length=10000) (fun (i:Int) _=>(10000 - i).toNat) ?_ ⟨by omega,by omega,hx⟩
 rintro i b ⟨i0,i1,hb⟩ _
 exact Cnd.mk (fun hc=>⟨by omega,fun y hy=>Cnd.mk (fun _=>⟨by omega,fun _ _=>⟨by unfold InI;omega,⟨by omega,by omega,by simpa using hb⟩,by omega⟩⟩) fun _=>⟨by omega,fun _ _=>⟨by omega,fun _ _=>⟨by unfold InI;omega,⟨by omega,by omega,by simpa using hb⟩,by omega⟩⟩⟩⟩) fun _=>q2f (by omega) h
theorem z8s{a b:List Spn}{K:List Spn->Prop}(h: ∀l,SpsS l->K l):Vt a b K:=by
 unfold Vt q70
 refine Hg fun x hx=>Hg fun y hy=>Lp2.ind (fun (i:Int) (b:List Bool)=>0<=i/\i<=10000/\b.length=10000) (fun (i:Int) _=>(10000 - i).toNat) ?_ ⟨by omega,by omega,hx⟩
 rintro i b ⟨i0,i1,hb⟩ _
 exact Cnd.mk (fun hc=>⟨by omega,fun y hy=>Cnd.mk (fun _=>⟨by omega,fun _ _=>⟨by omega,fun _ _=>⟨by unfold InI;omega,⟨by omega,by omega,by simpa using hb⟩,by omega⟩⟩⟩) fun _=>⟨by omega,fun _ _=>⟨by unfold InI;omega,⟨by omega,by omega,by simpa using hb⟩,by omega⟩⟩⟩) fun _=>q2f (by omega) h
theorem z59{a b:List Spn}{K:List Spn->Prop}(h: ∀l,SpsS l->K l):Wx a b K:=by
 unfold Wx q5m
 refine Hg fun x hx=>Hg fun y hy=>Lp2.ind (fun (i:Int) (b:List Bool)=>0<=i/\i<=10000/\b.length=10000) (fun (i:Int) _=>(10000 - i).toNat) ?_ ⟨by omega,by omega,hx⟩
 rintro i b ⟨i0,i1,hb⟩ _
 exact Cnd.mk (fun hc=>⟨by omega,fun y hy=>Cnd.mk (fun _=>⟨by omega,fun _ _=>⟨by omega,fun _ _=>⟨by unfold InI;omega,⟨by omega,by omega,by simpa using hb⟩,by omega⟩⟩⟩) fun _=>⟨by omega,fun _ _=>⟨by unfold InI;omega,⟨by omega,by omega,by simpa using hb⟩,by omega⟩⟩⟩) fun _=>q2f (by omega) h
theorem z08{a:List Spn}{n:Int}{K:List Spn->Prop}(hn: -1000000<=n/\n<=1000000)(h: ∀l,SpsS l->K l):q03 a n K:=by
 unfold q03 z3x
 refine Hg fun x hx=>Lp3.ind (fun (m i:Int) (b:List Bool)=>0<=i/\i<=10000/\b.length=10000/\ -1000000 - i<=m/\m<=1000000) (fun _ (i:Int) _=>(10000 - i).toNat) ?_ ⟨by omega,by omega,hx,by omega,by omega⟩
 rintro m i b ⟨i0,i1,hb,m0,m1⟩ _
 refine Cnd.mk (fun hc=>⟨by omega,fun y hy=> ?_⟩) fun _=>q2f (by omega) h
 have step:(0<=i/\i<(b.length:Int))/\ ∀y5,b[i.toNat]? =some y5->Cnd (y5=true) (InI (m - 1)/\InI (i+1)/\((0<=i+1/\i+1<=10000/\b.length=10000/\ -1000000 - (i+1)<=m - 1/\m - 1<=1000000)/\(10000 - (i+1)).toNat<(10000 - i).toNat)) (InI (i+1)/\((0<=i+1/\i+1<=10000/\b.length=10000/\ -1000000 - (i+1)<=m/\m<=1000000)/\(10000 - (i+1)).toNat<(10000 - i).toNat)):=
  ⟨by omega,fun _ _=>Cnd.mk (fun _=>⟨by unfold InI;omega,by unfold InI;omega,by omega,by omega⟩) fun _=>⟨by unfold InI;omega,by omega,by omega⟩⟩
 exact Cnd.mk (fun _=>Cnd.mk (fun _=>⟨by omega,fun _ _=>⟨by unfold InI;omega,⟨by omega,by omega,by simpa using hb,by omega,by omega⟩,by omega⟩⟩) fun _=>step) fun _=>step
theorem v37(n:Int):0<=Go.IntKind.u8.wrap n/\Go.IntKind.u8.wrap n<=255:=by
 have e:Go.IntKind.u8.wrap n=n % 256:=rfl
 rw[e];omega
theorem w4o{s:ByteArray}{K:Bool->Prop}(hs:s.size<=1000)(h: ∀r,K r):z5f s K:=by
 unfold z5f
 refine Lp1.ind (fun (i:Int)=>0<=i/\i<=s.size) (fun (i:Int)=>(s.size - i).toNat) ?_ ⟨by omega,by omega⟩
 rintro i ⟨i0,i1⟩
 (repeat' (first|exact h _|assumption|(unfold InI;omega)|omega|refine Cnd.mk (fun _=> ?_) fun _=> ?_|refine⟨?_,?_⟩|intro _))
theorem j4l{e:Ex}{K:Bool->Prop}(h: ∀r,K r):z5h e K:=by
 unfold z5h
 (repeat' (first|exact h _|assumption|(unfold InI;omega)|omega|refine Cnd.mk (fun _=> ?_) fun _=> ?_|refine⟨?_,?_⟩|intro _))
theorem z8t{e:Ex}{K:Bool->Prop}(h: ∀r:Bool,(r=true->9<=e.op->e.op<=11->e.values≠[])->K r):q73 e K:=by
 unfold q73 z3y
 intro _ _
 refine Jn2.mk (fun _ v=>v=true->9<=e.op->e.op<=11->e.values.length=1) ?_ fun k v hv=> ?_
 ·refine Cnd.mk (fun _ _ _ _ _=>by omega) fun _=>Cnd.mk (fun _ _ _ _ _=>by omega) fun _=>Cnd.mk (fun _ _ _ _ _=>by omega) fun _=>Cnd.mk (fun _ _ _ _ _=>by omega) fun _=>R6 fun r hr=>Cnd.mk (fun _=>Cnd.mk (fun _ _ _ _=>by omega) fun _ _ hd _ _=>by have:=of_decide_eq_true hd;omega) fun hc _ h1 h2=>absurd (hr.2 ⟨by omega,by omega⟩) hc
 ·have no:K false:=h _ fun h=>by cases h
  refine R6 fun r _=>Cnd.mk (fun _=>Cnd.mk (fun hv'=> ?_) fun _=>no) fun _=>no
  have yes: ∀r,K r:=fun r=>h r fun _ h1 h2 hn=>by have:=hv hv' h1 h2;rw[hn] at this;cases this
  (repeat' (first|exact yes _|exact no|assumption|(unfold InI;omega)|omega|refine Cnd.mk (fun _=> ?_) fun _=> ?_|refine⟨?_,?_⟩|intro _))
theorem w02{v:Val}{K:Bool->Prop}(h: ∀r,K r):z1v v K:=by
 unfold z1v
 (repeat' (first|exact h _|assumption|(unfold InI;omega)|omega|refine Cnd.mk (fun _=> ?_) fun _=> ?_|refine⟨?_,?_⟩|intro _))
theorem q8z{l:List Rng}{n:Int}{K:Int->Prop}(h: ∀r,0<=r->r<=100->K r):q6y l n K:=by
 unfold q6y
 intro _
 refine Cnd.mk (fun _=>h _ (by omega) (by omega)) fun _=> ?_
 refine Lp2.ind (fun _ (i:Int)=>0<=i/\i<=l.length) (fun _ (i:Int)=>(l.length - i).toNat) ?_ ⟨by omega,by omega⟩
 rintro a i ⟨i0,i1⟩
 (repeat' (first|exact h _ (by omega) (by omega)|assumption|(unfold InI;omega)|omega|refine Cnd.mk (fun _=> ?_) fun _=> ?_|refine⟨?_,?_⟩|intro _))
theorem j2f{l:List Spn}{K:Int->Prop}(h: ∀r,0<=r->r<=100->K r):z13 l K:=by
 unfold z13
 intro _
 refine Cnd.mk (fun _=>h _ (by omega) (by omega)) fun _=> ?_
 refine Lp1.ind (fun (i:Int)=>0<=i/\i<=l.length) (fun (i:Int)=>(l.length - i).toNat) ?_ ⟨by omega,by omega⟩
 rintro i ⟨i0,i1⟩
 (repeat' (first|exact h _ (by omega) (by omega)|assumption|(unfold InI;omega)|omega|refine Cnd.mk (fun _=> ?_) fun _=> ?_|refine⟨?_,?_⟩|intro _))
theorem j8r{α:Type}{l:List α}{f:α->ByteArray}{K:List ByteArray->Prop}(hl:l.length<=1000000)(h:K (l.map f)):
  Lp2 (fun (r:List ByteArray) (i:Int) Y=>l.length<=9223372036854775807->Cnd (i<(l.length:Int)) ((0<=i/\i<(l.length:Int))/\ ∀y,l[i.toNat]? =some y->Sml (r++[f y]).length/\InI (i+1)/\Y (r++[f y]) (i+1)) (K r)) [] 0:=by
 refine Lp2.ind (fun (r:List ByteArray) (i:Int)=>0<=i/\i<=l.length/\r=(l.take i.toNat).map f) (fun _ (i:Int)=>(l.length - i).toNat) ?_ ⟨Int.le_refl 0,by omega,by simp⟩
 rintro r i ⟨i0,i1,rfl⟩ _
 refine Cnd.mk (fun hc=>⟨by omega,fun y hy=>⟨by unfold Sml;simp;omega,by unfold InI;omega,⟨by omega,by omega,?_⟩,by omega⟩⟩) fun hc=> ?_
 ·rw[show (i+1).toNat=i.toNat+1 by omega,List.take_add_one,hy];simp
 ·rw[List.take_of_length_le (by omega)];exact h
theorem q42{l:List Seg}{K:List ByteArray->Prop}(hl:l.length<=1000000)(h:K (l.map Seg.key)):q63 l K:=j8r hl h
theorem v02{i:Nat}:(29:Int)*10 ^ (i+1)=10*(29*10 ^ i):=by rw[Int.pow_succ];omega
theorem z8c{s:ByteArray}{K:Int->Int->Prop}(hs:s.size<=1000)(h: ∀n e,InI n->0<=e->e<=100->K n e):H6 s K:=by
 unfold H6
 refine Jn1.mk (fun d=>d.size<=1000) ?_ fun d hd=> ?_
 ·(repeat' (first|(show (s.extract _ _).size<=1000;rw[ByteArray.size_extract];omega)|assumption|(unfold InI;omega)|omega|refine Cnd.mk (fun _=> ?_) fun _=> ?_|refine⟨?_,?_⟩|intro _))
 refine Lp1.ind (fun (i:Int)=>0<=i/\i<=d.size) (fun (i:Int)=>(d.size - i).toNat) ?_ ⟨by omega,by omega⟩
 rintro i ⟨i0,i1⟩
 have fin:d.size<=13->Lp2 (fun (Qk Jv:Int) v4r=>Cnd (Jv<(↑d.size:Int)) (InI ((10:Int)*Qk)/\((0:Int)<=Jv/\Jv<(↑d.size:Int))/\ ∀b5,d[Jv.toNat]? =some b5->InI (Go.IntKind.u8.wrap ((↑b5.toNat:Int) - (48:Int)))/\InI ((10:Int)*Qk+Go.IntKind.u8.wrap ((↑b5.toNat:Int) - (48:Int)))/\InI (Jv+(1:Int))/\v4r ((10:Int)*Qk+Go.IntKind.u8.wrap ((↑b5.toNat:Int) - (48:Int))) (Jv+(1:Int))) (Cnd ((1099511627776:Int)<Qk) (K (0:Int) (3:Int)) (Cnd ((↑d.size:Int)<(↑s.size:Int)) (InI ((0:Int) - Qk)/\K ((0:Int) - Qk) (0:Int)) (K Qk (0:Int))))) (0:Int) (0:Int):=fun h13=>by
  refine Lp2.ind (fun (n j:Int)=>0<=j/\j<=d.size/\0<=n/\n+29<=29*10 ^ j.toNat) (fun _ (j:Int)=>(d.size - j).toNat) ?_ ⟨by omega,by omega,by omega,by simp⟩
  rintro n j ⟨j0,j1,n0,n1⟩
  have hp:(10:Int) ^ j.toNat<=10 ^ 13:=by
   have:=Nat.pow_le_pow_right (n:=10) (by decide) (show j.toNat<=13 by omega)
   exact_mod_cast this
  refine Cnd.mk (fun hc=>⟨by unfold InI;omega,by omega,fun b _=> ?_⟩) fun hc=> ?_
  ·obtain⟨w0,w1⟩:=v37 ((b.toNat:Int) - 48)
   refine⟨by unfold InI;omega,by unfold InI;omega,by unfold InI;omega,⟨by omega,by omega,by omega,?_⟩,by omega⟩
   rw[show (j+1).toNat=j.toNat+1 by omega,v02];omega
  ·exact Cnd.mk (fun _=>h _ _ (by unfold InI;omega) (by omega) (by omega)) fun _=>Cnd.mk (fun _=>⟨by unfold InI;omega,h _ _ (by unfold InI;omega) (by omega) (by omega)⟩) fun _=>h _ _ (by unfold InI;omega) (by omega) (by omega)
 have k1:=h 0 1 (by unfold InI;omega) (by omega) (by omega)
 have k3:=h 0 3 (by unfold InI;omega) (by omega) (by omega)
 refine Cnd.mk (fun hc=>⟨by omega,fun b hb=>Cnd.mk (fun _=>k1) fun _=>⟨by omega,fun b' hb'=>Cnd.mk (fun _=>k1) fun _=>⟨by unfold InI;omega,by omega,by omega⟩⟩⟩) fun _=> ?_
 refine Cnd.mk (fun _=>k1) fun he=>⟨⟨by omega,?_⟩,fun b hb=>Cnd.mk (fun _=>Cnd.mk (fun _=>Cnd.mk (fun _=>k3) fun _=>fin (by omega)) fun _=>k1) fun _=>Cnd.mk (fun _=>k3) fun _=>fin (by omega)⟩
 refine Int.not_le.1 fun hn=>he ?_
 have:d.size=0:=by omega
 exact ByteArray.ext (Array.eq_empty_of_size_eq_zero this)
theorem w4p{t:Int}{e:Ex}{K:Bool->Prop}(h: ∀r,K r):q4f t e K:=by
 unfold q4f
 refine Cnd.mk (fun _=>h _) fun _=>Cnd.mk (fun _=> ?_) fun _ _=>Cnd.mk (fun _=>h _) fun _=>⟨by omega,fun y hy=>Cnd.mk (fun _=>h _) fun _=>Jn1.mk (fun _=>True) ?_ fun x _=> ?_⟩
 ·refine Lp1.ind (fun (i:Int)=>0<=i/\i<=e.values.length) (fun (i:Int)=>(e.values.length - i).toNat) ?_ ⟨by omega,by omega⟩
  rintro i ⟨i0,i1⟩
  (repeat' (first|exact h _|assumption|(unfold InI;omega)|omega|refine Cnd.mk (fun _=> ?_) fun _=> ?_|refine⟨?_,?_⟩|intro _))
 ·(repeat' (first|exact trivial|assumption|(unfold InI;omega)|omega|refine Cnd.mk (fun _=> ?_) fun _=> ?_|refine⟨?_,?_⟩|intro _))
 ·(repeat' (first|exact h _|assumption|(unfold InI;omega)|omega|refine Cnd.mk (fun _=> ?_) fun _=> ?_|refine⟨?_,?_⟩|intro _))
theorem z09{v:Envt}{K:List ByteArray->Prop}(hl:v.flags.length<=1000000)(h:K (v.flags.map Flg.key)):q59 v K:=j8r hl h
def q2y(f:Flg):List Edg:=f.needs.map fun q=>Edg.mk f.key q.flag
theorem q9q{v:Envt}{K:List Edg->Prop}(hl:v.flags.length<=1000)(hn: ∀f∈v.flags,f.needs.length<=1000)(h:K (v.flags.flatMap q2y)):Bv v K:=by
 unfold Bv
 have hb: ∀l:List Flg,(∀f∈l,f.needs.length<=1000)->(l.flatMap q2y).length<=1000*l.length:=by
  intro l
  induction l with
  |nil=>simp
  |cons f l ih=>intro hf;have h1:=hf f (by simp);have h2:=ih fun g hg=>hf g (by simp[hg]);simp only[List.flatMap_cons,List.length_append,q2y,List.length_map,List.length_cons] at*;omega
 refine Lp2.ind (fun (r:List Edg) (i:Int)=>0<=i/\i<=v.flags.length/\r=(v.flags.take i.toNat).flatMap q2y) (fun _ (i:Int)=>(v.flags.length - i).toNat) ?_ ⟨Int.le_refl 0,by omega,by simp⟩
 rintro r i ⟨i0,i1,rfl⟩ _
 refine Cnd.mk (fun hc=> ?_) fun hc=> ?_
 ·obtain⟨f,hf⟩: ∃f,v.flags[i.toNat]? =some f:=⟨_,List.getElem?_eq_getElem (by omega)⟩
  have hfn:=hn f (getm hf)
  have hbt:=hb (v.flags.take i.toNat) fun g hg=>hn g (List.mem_of_mem_take hg)
  rw[List.length_take] at hbt
  refine Lp2.ind (fun (r:List Edg) (j:Int)=>0<=j/\j<=f.needs.length/\r=(v.flags.take i.toNat).flatMap q2y++(f.needs.take j.toNat).map fun q=>Edg.mk f.key q.flag) (fun _ (j:Int)=>(f.needs.length - j).toNat) ?_ ⟨by omega,by omega,by simp⟩
  rintro r j ⟨j0,j1,rfl⟩
  refine⟨by omega,fun g hg=> ?_⟩
  rw[hf] at hg;cases hg
  refine fun _=>Cnd.mk (fun hc=>⟨by omega,fun g hg=> ?_⟩) fun hc=>⟨by unfold InI;omega,⟨by omega,by omega,?_⟩,by omega⟩
  ·rw[hf] at hg;cases hg
   refine⟨by omega,fun g hg=> ?_⟩
   rw[hf] at hg;cases hg
   refine⟨by omega,fun q hq=>⟨?_,by unfold InI;omega,⟨by omega,by omega,?_⟩,by omega⟩⟩
   ·unfold Sml;simp only[List.length_append,List.length_map,List.length_take,List.length_cons,List.length_nil];omega
   ·rw[show (j+1).toNat=j.toNat+1 by omega,List.take_add_one,hq];simp
  ·rw[List.take_of_length_le (show f.needs.length<=j.toNat by omega),show (i+1).toNat=i.toNat+1 by omega,List.take_add_one,hf];simp[q2y]
 ·rw[List.take_of_length_le (by omega)];exact h
end Go.En
end
noncomputable section
set_option maxRecDepth 100000
namespace Go.Sg
open Go
abbrev bts(s:ByteArray):List UInt8:=s.data.toList
def isD(c:UInt8):Bool:=decide (48<=c.toNat) && decide (c.toNat<=57)
def v78(n:Nat)(c:UInt8):Nat:=10*n+(c.toNat - 48)
def valD(n:Nat)(l:List UInt8):Nat:=l.foldl v78 n
def digs(s:ByteArray):ByteArray:=if s[0]? =some 45 then s.extract 1 s.size else s
def pnum(s:ByteArray):Int×Int:=
 if (bts (digs s)).all isD=false then (0,1)
 else if (digs s).size=0∨((digs s)[0]? =some 48/\s≠ByteArray.mk (Array.mk [48])) then (0,1)
 else if 1099511627776<valD 0 (bts (digs s)) then (0,3)
 else (if (digs s).size<s.size then -(valD 0 (bts (digs s)):Int) else valD 0 (bts (digs s)),0)
def dot(s:ByteArray)(k:Nat):Nat:=k+((bts s).drop k).idxOf 46
def okp(p:Int×Int):Bool:=decide (p.2=0) && decide (0<=p.1) && decide (p.1<=999999)
def v38(s:ByteArray)(k:Nat):Int×Int:=pnum (s.extract k (dot s k))
def v55(s:ByteArray):Prop:=(dot s 0<s.size/\okp (v38 s 0)=true)/\(dot s (dot s 0+1)<s.size/\okp (v38 s (dot s 0+1))=true)/\ ¬dot s (dot s (dot s 0+1)+1)<s.size/\okp (v38 s (dot s (dot s 0+1)+1))=true
instance (s:ByteArray):Decidable (v55 s):=by unfold v55;infer_instance
end Go.Sg
end
noncomputable section
set_option maxRecDepth 100000
namespace Go.En
open Go Go.Fl Go.Fl.Lk Go.Fx Go.Sg
theorem take_snoc{l:List UInt8}{i:Nat}{b:UInt8}(h:l[i]? =some b):l.take (i+1)=l.take i++[b]:=by rw[List.take_add_one,h];rfl
end Go.En
end
noncomputable section
set_option maxRecDepth 100000
namespace Go.En
open Go Go.Fl Go.Fl.Lk Go.Fx Go.Sg
def sg(l g:Prop)[Decidable l][Decidable g]:Int:=if l then -1 else if g then 1 else 0
end Go.En
end
noncomputable section
set_option maxRecDepth 100000
namespace Go.En
open Go Go.Fl Go.Fl.Lk Go.Fx Go.Sg
open Classical in
def dec(p:Prop):Bool:=decide p
theorem w8f{p:Prop}:dec p=true↔p:=by unfold dec;exact @decide_eq_true_iff p (Classical.propDecidable p)
theorem Re{p:Prop}(h:p):dec p=true:=w8f.2 h
theorem Jd{p:Prop}(h: ¬p):dec p=false:=by rw[Bool.eq_false_iff];exact fun e=>h (w8f.1 e)
theorem j2g{a b:List ByteArray}{K:Bool->Prop}(h: ∀r,(r=true↔a=b)->K r):Jp a b K:=by
 unfold Jp
 intro ha hb
 refine Cnd.mk (fun hl _=> ?_) fun hl=>h _ ⟨fun h=>(by cases h),fun e=>by rw[e] at hl;exact absurd rfl hl⟩
 refine Lp1.ind (fun (i:Int)=>0<=i/\i<=a.length/\a.take i.toNat=b.take i.toNat) (fun (i:Int)=>(a.length - i).toNat) ?_ ⟨by omega,by omega,by simp⟩
 rintro i ⟨i0,i1,he⟩
 refine Cnd.mk (fun hc=>⟨by omega,fun x hx=>⟨by omega,fun y hy=>Cnd.mk (fun hc=>⟨by unfold InI;omega,⟨by omega,by omega,?_⟩,by omega⟩) fun hc=>h _ ⟨fun h=>(by cases h),fun h=> ?_⟩⟩⟩) fun hc=>h _ ⟨fun _=> ?_,fun _=>rfl⟩
 ·rw[show (i+1).toNat=i.toNat+1 by omega,List.take_add_one,List.take_add_one,he,hx,hy,hc]
 ·subst h;rw[hx] at hy;cases hy;exact absurd rfl hc
 ·rwa [List.take_of_length_le (by omega),List.take_of_length_le (by omega)] at he
def ValB(w:Val):Prop:=w.3.size<=2000000/\w.4.length<=2000000
end Go.En
end
noncomputable section
set_option maxRecDepth 100000
namespace Go.Gr
open Go.Fl Go.Fl.Lk
abbrev E2:=ByteArray×ByteArray
variable {ns ms:List ByteArray}{E D:List E2}{o o':List ByteArray}{x y:ByteArray}
def Rch(E:List E2)(x y:ByteArray):Prop:= ∀p:ByteArray->Prop,(∀e∈E,e.1=x∨p e.1->p e.2)->p y
theorem Rch.step{e:E2}(h:Rch E x e.1)(he:e∈E):Rch E x e.2:=fun p hp=>hp e he (.inr (h p hp))
def nd(E:List E2)(x:ByteArray):List ByteArray:=(E.filter fun e=>decide (e.1=x)).map (·.2)
end Go.Gr
end
noncomputable section
set_option maxRecDepth 100000
namespace Go.En
open Go Go.Fl Go.Fl.Lk Go.Fx Go.Sg
mutual
def evl(T:Ex->Bool)(I:ByteArray->Bool):Ex->Bool
 |⟨op,kind,name,values,kids⟩=>if op=1 then true else if op=2 then evlA T I kids else if op=3 then evlO T I kids else if op=4 then evlN T I kids else if op=5 then I name else T ⟨op,kind,name,values,kids⟩
def evlA(T:Ex->Bool)(I:ByteArray->Bool):List Ex->Bool
 |[]=>true
 |k::l=>if evl T I k=true then evlA T I l else false
def evlO(T:Ex->Bool)(I:ByteArray->Bool):List Ex->Bool
 |[]=>false
 |k::l=>if evl T I k=true then true else evlO T I l
def evlN(T:Ex->Bool)(I:ByteArray->Bool):List Ex->Bool
 |[]=>false
 |k::_=> !(evl T I k)
end
mutual
def subs:Ex->List Ex
 |⟨op,kind,name,values,kids⟩=>⟨op,kind,name,values,kids⟩::w4q kids
def w4q:List Ex->List Ex
 |[]=>[]
 |k::l=>subs k++w4q l
end
theorem w8g(e:Ex):subs e=e::w4q e.5:=by cases e;rfl
theorem j2h{a:Ex}{l:List Ex}:a∈w4q l↔ ∃k∈l,a∈subs k:=by
 induction l with
 |nil=>simp[w4q]
 |cons k l ih=>simp[w4q,ih]
mutual
def wt:Ex->Nat
 |⟨_,_,_,values,kids⟩=>1+wtV values+wtL kids
def wtL:List Ex->Nat
 |[]=>0
 |k::l=>wt k+wtL l
def wtV:List Val->Nat
 |[]=>0
 |v::l=>1+v.4.length+wtV l
end
theorem v03(e:Ex):wt e=1+wtV e.4+wtL e.5:=by cases e;rfl
theorem v17(e:Ex):1<=wt e:=by rw[v03];omega
theorem v39{k:Ex}{l:List Ex}(h:k∈l):wt k<=wtL l:=by
 induction l with
 |nil=>simp at h
 |cons a l ih=>
  simp only[wtL]
  rcases List.mem_cons.1 h with rfl|h
  ·omega
  ·have:=ih h;omega
theorem v18{e k:Ex}(h:k∈e.5):wt k<wt e:=by have:=v39 h;rw[v03 e];omega
def EvB(e:Ex):Prop:= ∀a∈subs e,∀w∈a.4,ValB w
end Go.En
end
noncomputable section
set_option maxRecDepth 100000
namespace Go.En
open Go Go.Fl Go.Fl.Lk Go.Fx
theorem v4a{l:List ByteArray}(ha:Asc l){i:Nat}{s:ByteArray}(h1: ∀y∈l.take i,blt y s)(h2: ∀y∈l.drop i,blt s y):Asc (l.take i++[s]++l.drop i):=by
 unfold Asc at*
 rw[←List.take_append_drop i l,List.pairwise_append] at ha
 obtain⟨a1,a2,a3⟩:=ha
 rw[List.append_assoc,List.pairwise_append,List.singleton_append,List.pairwise_cons]
 refine⟨a1,⟨h2,a2⟩,fun a ha b hb=> ?_⟩
 rcases List.mem_cons.1 hb with rfl|hb
 ·exact h1 a ha
 ·exact a3 a ha b hb
theorem j2i{l:List ByteArray}{s:ByteArray}{K:List ByteArray->Prop}(ha:Asc l)(hl:l.length<=1100000)(h: ∀r,Asc r->(∀y,y∈r↔y∈l∨y=s)->K r):q5j l s K:=by
 unfold q5j
 refine Lp1.ind (fun (i:Int)=>0<=i/\i<=l.length/\ ∀y∈l.take i.toNat,blt y s) (fun (i:Int)=>(l.length - i).toNat) ?_ ⟨by omega,by omega,by simp⟩
 rintro i ⟨i0,i1,hb⟩ _
 have ins:(∀y∈l.drop i.toNat,blt s y)->((0:Int)<=0/\0<=i/\i<=(l.length:Int))/\Sml ([]++List.drop (Int.toNat 0) (List.take i.toNat l)).length/\(0<=i/\i<=(l.length:Int)/\(l.length:Int)<=(l.length:Int))/\Sml ([]++List.drop (Int.toNat 0) (List.take i.toNat l)++[s]).length/\
   Sml ([]++List.drop (Int.toNat 0) (List.take i.toNat l)++[s]++List.drop i.toNat (List.take (l.length:Int).toNat l)).length/\K ([]++List.drop (Int.toNat 0) (List.take i.toNat l)++[s]++List.drop i.toNat (List.take (l.length:Int).toNat l)):=fun hd=>by
  have e:[]++List.drop (Int.toNat 0) (List.take i.toNat l)++[s]++List.drop i.toNat (List.take (l.length:Int).toNat l)=l.take i.toNat++[s]++l.drop i.toNat:=by simp
  refine⟨by omega,by unfold Sml;simp;omega,by omega,by unfold Sml;simp;omega,by unfold Sml;simp;omega,?_⟩
  rw[e]
  refine h _ (v4a ha hb hd) fun y=> ?_
  rw[List.mem_append,List.mem_append,List.mem_singleton]
  conv=>rhs;rw[←List.take_append_drop i.toNat l,List.mem_append]
  constructor
  ·rintro ((a|a)|a)
   ·exact .inl (.inl a)
   ·exact .inr a
   ·exact .inl (.inr a)
  ·rintro ((a|a)|a)
   ·exact .inl (.inl a)
   ·exact .inr a
   ·exact .inl (.inr a)
 have dropc: ∀{y:ByteArray},l[i.toNat]? =some y-> ∀z∈l.drop i.toNat,z=y∨blt y z:=fun {y} hy z hz=>by
  have hlt:=(List.getElem?_eq_some_iff.1 hy).1
  rw[List.drop_eq_getElem_cons hlt] at hz
  have e:l[i.toNat]=y:=(List.getElem?_eq_some_iff.1 hy).2
  rcases List.mem_cons.1 hz with hz|hz
  ·exact .inl (hz.trans e)
  ·unfold Asc at ha
   rw[←List.take_append_drop i.toNat l,List.pairwise_append,List.drop_eq_getElem_cons hlt,List.pairwise_cons,e] at ha
   exact .inr (ha.2.1.1 z hz)
 refine Cnd.mk (fun hc=>⟨by omega,fun y hy=>Cnd.mk (fun hlt=>⟨by unfold InI;omega,⟨by omega,by omega,?_⟩,by omega⟩) fun hn _=>Cnd.mk (fun _=>⟨by omega,fun z hz=>Cnd.mk (fun e=> ?_) fun e=>ins fun z' hz'=> ?_⟩) fun hx=>absurd hc hx⟩) fun hc _=>Cnd.mk (fun hx=>absurd hx hc) fun _=>ins ?_
 ·rw[show (i+1).toNat=i.toNat+1 by omega,List.take_add_one,hy]
  exact Zc hb hlt
 ·exact h _ ha fun y=>⟨.inl,fun hy=>hy.elim id fun q=>by rw[q,←e];exact getm hz⟩
 ·rw[hy] at hz;cases hz
  rcases dropc hy z' hz' with rfl|hlt
  ·exact Classical.byContradiction fun hb=>e (j9g hn hb)
  ·exact Classical.byContradiction fun hb=>by
    have h1:=j9g hn (fun k=>hb (j0g k hlt))
    exact e h1
 ·intro z hz
  rw[List.drop_of_length_le (by omega)] at hz;simp at hz
theorem w03:Asc []:=List.Pairwise.nil
end Go.En
end
noncomputable section
set_option maxRecDepth 100000
namespace Go.En
open Go Go.Fl Go.Fl.Lk Go.Fx Go.Sg
theorem z6a{a b:Val}{K:Bool->Prop}(h: ∀r,(r=true↔a=b)->K r):Gx a b K:=by
 unfold Gx z0l
 have no:(a≠b)->K false:=fun hn=>h _ ⟨fun h=>(by cases h),fun e=>absurd e hn⟩
 refine Cnd.mk (fun h1=>Cnd.mk (fun h2=>Cnd.mk (fun h3=>j2g fun r hr=>h r (hr.trans ⟨fun h4=> ?_,fun e=>by rw[e]⟩)) fun h=>no fun e=>h (by rw[e])) fun h=>no fun e=>h (by rw[e])) fun h=>no fun e=>h (by rw[e])
 cases a;cases b;simp_all
theorem j8s: ∀(n:Nat) {a b:Ex} {K:Bool->Prop},wt b<=n->(∀r,(r=true↔a=b)->K r)->q8f a b K:=by
 intro n a b K hn h X hX
 induction n generalizing a b K with
 |zero=>have:=v17 b;omega
 |succ n ih=>
 refine hX _ _ _ ?_
 unfold z36
 have no:(a≠b)->K false:=fun hn=>h _ ⟨fun h=>(by cases h),fun e=>absurd e hn⟩
 refine Cnd.mk (fun h1=>Cnd.mk (fun h2=>Cnd.mk (fun h3 ha4 _=>Cnd.mk (fun hl _=> ?_) fun h=>no fun e=>h (by rw[e])) fun h=>no fun e=>h (by rw[e])) fun h=>no fun e=>h (by rw[e])) fun h=>no fun e=>h (by rw[e])
 refine Lp1.ind (fun (i:Int)=>0<=i/\i<=a.4.length/\a.4.take i.toNat=b.4.take i.toNat) (fun (i:Int)=>(a.4.length - i).toNat) ?_ ⟨by omega,by omega,by simp⟩
 rintro i ⟨i0,i1,he⟩
 refine Cnd.mk (fun hc=>⟨by omega,fun x hx=>⟨by omega,fun y hy=>z6a fun r hr=>Cnd.mk (fun hb=>⟨by unfold InI;omega,⟨by omega,by omega,?_⟩,by omega⟩) fun hb=>no fun e=> ?_⟩⟩) fun hc ha5 _=>Cnd.mk (fun hl5 _=> ?_) fun h=>no fun e=>h (by rw[e])
 ·rw[show (i+1).toNat=i.toNat+1 by omega,List.take_add_one,List.take_add_one,he,hx,hy,hr.1 hb]
 ·subst e;rw[hx] at hy;cases hy;exact hb (hr.2 rfl)
 rw[List.take_of_length_le (by omega),List.take_of_length_le (by omega)] at he
 refine Lp1.ind (fun (i:Int)=>0<=i/\i<=a.5.length/\a.5.take i.toNat=b.5.take i.toNat) (fun (i:Int)=>(a.5.length - i).toNat) ?_ ⟨by omega,by omega,by simp⟩
 rintro i ⟨i0,i1,he5⟩
 refine Cnd.mk (fun hc=>⟨by omega,fun x hx=>⟨by omega,fun y hy=> ?_⟩⟩) fun hc=>h _ ⟨fun _=> ?_,fun _=>rfl⟩
 ·dsimp only;rw[Zd,Zd]
  have hkid:=v18 (getm hy)
  refine ih (by omega) fun r hr=>Cnd.mk (fun hb=>⟨by unfold InI;omega,⟨by omega,by omega,?_⟩,by omega⟩) fun hb=>no fun e=> ?_
  ·rw[show (i+1).toNat=i.toNat+1 by omega,List.take_add_one,List.take_add_one,he5,hx,hy,hr.1 hb]
  ·subst e;rw[hx] at hy;cases hy;exact hb (hr.2 rfl)
 ·rw[List.take_of_length_le (by omega),List.take_of_length_le (by omega)] at he5
  cases a;cases b;simp_all
def atm(e:Ex):Prop:=e.1=5∨(6<=e.1/\e.1<=15)
def nms(e:Ex):List ByteArray:=((subs e).filter fun a=>decide (a.1=5)).map Ex.name
theorem w04{e:Ex}{x:ByteArray}:x∈nms e↔ ∃a∈subs e,a.1=5/\a.3=x:=by
 unfold nms
 simp only[List.mem_map,List.mem_filter,decide_eq_true_eq]
 exact⟨fun ⟨a,⟨h1,h2⟩,h3⟩=>⟨a,h1,h2,h3⟩,fun ⟨a,h1,h2,h3⟩=>⟨a,⟨h1,h2⟩,h3⟩⟩
theorem j4m(e:Ex)(x:ByteArray):x∈nms e↔(e.1=5/\e.3=x)∨ ∃k∈e.5,x∈nms k:=by
 rw[w04,w8g]
 constructor
 ·rintro⟨a,ha,h⟩
  rcases List.mem_cons.1 ha with rfl|ha
  ·exact .inl h
  ·obtain⟨k,hk,ha⟩:=j2h.1 ha
   exact .inr ⟨k,hk,w04.2 ⟨a,ha,h⟩⟩
 ·rintro (h|⟨k,hk,h⟩)
  ·exact⟨e,List.mem_cons_self,h⟩
  ·obtain⟨a,ha,h⟩:=w04.1 h
   exact⟨a,List.mem_cons_of_mem _ (j2h.2 ⟨k,hk,ha⟩),h⟩
end Go.En
end
noncomputable section
set_option maxRecDepth 100000
namespace Go.En
open Go Go.Fl Go.Fl.Lk Go.Fx Go.Sg
structure ClE(segs:List ByteArray)(Q:Nat->Ex->Prop):Prop where
 hT: ∀k,Q k (Ex.mk 1 (ByteArray.mk (Array.mk [])) (ByteArray.mk (Array.mk [])) [] [])
 hS: ∀k b,b∈segs->Q k (Ex.mk 5 (ByteArray.mk (Array.mk [])) b [] [])
 ht: ∀k e,ExS 0 e->6<=e.1/\e.1<=15->Q k e
 hN: ∀k e,Q k e->Q (k+1) (Ex.mk 4 (ByteArray.mk (Array.mk [])) (ByteArray.mk (Array.mk [])) [] [e])
 hA: ∀k op l,op=2∨op=3->l.length<=3->l≠[]->(∀e∈l,Q k e∨ ∃e',Q k e'/\e=Ex.mk 4 (ByteArray.mk (Array.mk [])) (ByteArray.mk (Array.mk [])) [] [e'])->Q (k+1) (Ex.mk op (ByteArray.mk (Array.mk [])) (ByteArray.mk (Array.mk [])) [] l)
theorem ClE.and{segs:List ByteArray}{Q R:Nat->Ex->Prop}(a:ClE segs Q)(b:ClE segs R):ClE segs fun k e=>Q k e/\R k e:=
 ⟨fun k=>⟨a.hT k,b.hT k⟩,fun k x hx=>⟨a.hS k x hx,b.hS k x hx⟩,fun k e h1 h2=>⟨a.ht k e h1 h2,b.ht k e h1 h2⟩,fun k e h=>⟨a.hN k e h.1,b.hN k e h.2⟩,
  fun k op l h1 h2 h3 h=>⟨a.hA k op l h1 h2 h3 fun e he=>(h e he).imp (·.1) fun ⟨e',h,h'⟩=>⟨e',h.1,h'⟩,b.hA k op l h1 h2 h3 fun e he=>(h e he).imp (·.2) fun ⟨e',h,h'⟩=>⟨e',h.2,h'⟩⟩⟩
theorem z8d{list:List Int}{segs:List ByteArray}{Q:Nat->Ex->Prop}(c:ClE segs Q):
  ∀(k:Nat) {at_ levels:Int} {K:Ex->Int->Prop},k<=100->levels<=k+1->1<=levels->DS list at_->(∀r a,Q k r->DS list a->K r a)->q5e list at_ segs levels K:=by
 obtain⟨hT,hS,ht,hN,hA⟩:=c
 intro k at_ levels K hk0 hk hl hD h X hX
 induction k generalizing at_ levels K with
 |zero=>
  refine hX _ _ _ _ _ ?_
  unfold z1s
  refine Qc hD (by decide) fun r a r0 r1 hD=>Jn1.mk (fun x=>0<=x/\x<=3) (Cnd.mk (fun _=>Cnd.mk (fun _=>⟨by unfold InI;omega,by omega,by omega⟩) fun _=>⟨by omega,by omega⟩) fun _=>by omega) fun x hx=> ?_
  have t:=Hy (K:=fun r a=>K (Ex.mk r.1 r.2 r.3 r.4 r.5) a) hD fun r a hr h6 hD=>h _ a (by rw[Zd];exact ht 0 r hr h6) hD
  refine Cnd.mk (fun _=>h _ _ (hT 0) hD) fun _=>Cnd.mk (fun _ _=>Cnd.mk (fun hc _=> ?_) fun _=>t) fun _=>Cnd.mk (fun hc=>by omega) fun _=> ?_
  ·exact Qc hD (by omega) fun r a r0 r1 hD=>⟨⟨r0,r1⟩,fun y hy=>h _ _ (hS 0 y (getm hy)) hD⟩
  ·exact Jn1.mk (fun x=>x=false) (Cnd.mk (fun hc=>by omega) fun _=>decide_eq_false (by omega)) fun x hx=>Cnd.mk (fun hc=>by rw[hx] at hc;cases hc) fun _=>t
 |succ k ih=>
  refine hX _ _ _ _ _ ?_
  unfold z1s
  have go: ∀{at_:Int} {K:Ex->Int->Prop},1<=levels - 1->DS list at_->(∀r a,Q k r->DS list a->K r a)->X list at_ segs (levels - 1) K:=fun h1 hD hK=>ih (by omega) (by omega) h1 hD hK
  refine Qc hD (by decide) fun r a r0 r1 hD=>Jn1.mk (fun x=>0<=x/\x<=7/\(levels<=1->x<=3)) (Cnd.mk (fun _=>Cnd.mk (fun _=>⟨by unfold InI;omega,by omega,by omega,by omega⟩) fun _=>⟨by omega,by omega,by omega⟩) fun _=>by omega) fun x hx=> ?_
  have t:=Hy (K:=fun r a=>K (Ex.mk r.1 r.2 r.3 r.4 r.5) a) hD fun r a hr h6 hD=>h _ a (by rw[Zd];exact ht _ r hr h6) hD
  refine Cnd.mk (fun _=>h _ _ (hT _) hD) fun _=>Cnd.mk (fun _ _=>Cnd.mk (fun hc _=> ?_) fun _=>t) fun _=>Cnd.mk (fun hc=> ?_) fun _=> ?_
  ·exact Qc hD (by omega) fun r a r0 r1 hD=>⟨⟨r0,r1⟩,fun y hy=>h _ _ (hS _ y (getm hy)) hD⟩
  ·refine⟨by unfold InI;omega,go (by omega) hD fun e a he hD=>h _ _ ?_ hD⟩
   rw[Zd];exact hN k e he
  refine Jn1.mk (fun y=>y=true->2<=levels) (Cnd.mk (fun hc _=>by omega) fun _ hc=>by have:=of_decide_eq_true hc;omega) fun y hy=>Cnd.mk (fun hc=> ?_) fun _=>t
  have hy:=hy hc
  refine Qc hD (by decide) fun r a r0 r1 hD=>⟨by unfold InI;omega,Qc hD (by decide) fun q a q0 q1 hD=>⟨by unfold InI;omega,?_⟩⟩
  refine LpH.ind (fun x=>0<=x.1/\x.1<=2+q/\DS list x.2.1/\x.2.2=(2+r,ByteArray.mk (Array.mk []),ByteArray.mk (Array.mk []),[],x.2.2.2.2.2.2.1,())/\(x.2.2.2.2.2.2.1.length:Int)=x.1/\ ∀e∈x.2.2.2.2.2.2.1,Q k e∨ ∃e',Q k e'/\e=Ex.mk 4 (ByteArray.mk (Array.mk [])) (ByteArray.mk (Array.mk [])) [] [e']) (fun x=>(3 - x.1).toNat) ?_ ⟨Int.le_refl 0,by simp only;omega,hD,rfl,rfl,by simp⟩
  rintro⟨i,a,x⟩ ⟨i0,i1,hD,hx,hl,he⟩
  simp only at i0 i1 hD hx hl he
  generalize x.2.2.2.2.1=l at*
  subst hx
  simp only at hl he⊢
  refine Cnd.mk (fun hc=>⟨by unfold InI;omega,go (by omega) hD fun e a hk hD=> ?_⟩) fun hc=>h _ _ (hA k (2+r) l (by omega) (by omega) (fun e=>by rw[e] at hl;simp at hl;omega) he) hD
  refine Jn1.mk (fun z=>(fun e=>Q k e∨ ∃e',Q k e'/\e=Ex.mk 4 (ByteArray.mk (Array.mk [])) (ByteArray.mk (Array.mk [])) [] [e']) (Ex.mk z.1 z.2.1 z.2.2.1 z.2.2.2.1 z.2.2.2.2.1)) (Cnd.mk (fun _=> .inr ⟨e,hk,by simp only;rw[Zd]⟩) fun _=> .inl (by simp only;rw[Zd];exact hk)) fun z hz=> ?_
  exact⟨by unfold Sml;simp;omega,by unfold InI;omega,⟨by omega,by omega,hD,trivial,by simp;omega,Zc he hz⟩,by omega⟩
structure DrE(segs:List ByteArray)(w:Nat)(e:Ex):Prop where
 wt:wt e<=w
 nms: ∀x∈nms e,x∈segs
 ev:EvB e
theorem EvB.mk'{e:Ex}(h: ∀w∈e.4,ValB w)(hk: ∀k∈e.5,EvB k):EvB e:=fun a ha=>by
 rw[w8g] at ha
 rcases List.mem_cons.1 ha with rfl|ha
 ·exact h
 ·obtain⟨k,hk',ha⟩:=j2h.1 ha
  exact hk k hk' a ha
theorem v56{l:List Val}{b:Nat}(h: ∀v∈l,v.4.length<=b):wtV l<=l.length*(1+b):=by
 induction l with
 |nil=>simp[wtV]
 |cons v l ih=>
  have h1:=h v List.mem_cons_self
  have h2:=ih fun v hv=>h v (List.mem_cons_of_mem _ hv)
  simp only[wtV,List.length_cons,Nat.add_mul,Nat.one_mul] at*
  omega
theorem v57{l:List Ex}{b:Nat}(h: ∀e∈l,wt e<=b):wtL l<=l.length*b:=by
 induction l with
 |nil=>simp[wtL]
 |cons v l ih=>
  have h1:=h v List.mem_cons_self
  have h2:=ih fun v hv=>h v (List.mem_cons_of_mem _ hv)
  simp only[wtL,List.length_cons,Nat.add_mul,Nat.one_mul] at*
  omega
def lvl:Nat->Nat
 |0=>45
 |k+1=>4+3*lvl k
theorem w8h(k:Nat):45<=lvl k:=by
 induction k with
 |zero=>exact Nat.le_refl _
 |succ k ih=>simp only[lvl];omega
theorem w8i{segs:List ByteArray}:ClE segs fun k e=>DrE segs (lvl k) e:=by
 have leaf: ∀{e:Ex} {x:ByteArray},e.5=[]->x∈nms e->e.1=5/\e.3=x:=fun {e x} h5 hx=>by
  rw[j4m,h5] at hx
  exact hx.elim id fun ⟨k,hk,_⟩=>by simp at hk
 refine⟨fun k=>⟨?_,fun x hx=> ?_,EvB.mk' (by simp) (by simp)⟩,fun k b hb=>⟨?_,fun x hx=> ?_,EvB.mk' (by simp) (by simp)⟩,fun k e he h6=>⟨?_,fun x hx=> ?_,EvB.mk' (fun w hw=> ?_) (by rw[he.2.2.2];simp)⟩,fun k e he=>⟨?_,fun x hx=> ?_,EvB.mk' (by simp) (by simpa using he.ev)⟩,fun k op l hop h3 hne he=>⟨?_,fun x hx=> ?_,EvB.mk' (by simp) fun e hm=> ?_⟩⟩
 ·have:=w8h k;simp only[wt,wtV,wtL];omega
 ·have:=(leaf rfl hx).1;simp at this
 ·have:=w8h k;simp only[wt,wtV,wtL];omega
 ·rw[←(leaf rfl hx).2];exact hb
 ·have h1:=w8h k
  have h2:=v56 (l:=e.4) (b:=10) fun v hv=>(he.vals.all v hv).len
  have h3:=he.vals.len
  rw[v03,he.2.2.2]
  simp only[wtL];omega
 ·have:=(leaf he.2.2.2 hx).1;omega
 ·exact⟨Nat.le_trans (he.vals.all w hw).txt (by decide),Nat.le_trans (he.vals.all w hw).len (by decide)⟩
 ·have:=he.wt;simp only[wt,wtV,wtL,lvl];omega
 ·rw[j4m] at hx
  rcases hx with hx|⟨k,hk,hx⟩
  ·simp at hx
  ·have:k=e:=by simpa using hk
   rw[this] at hx;exact he.nms x hx
 ·rw[v03]
  have:wtL l<=l.length*(1+lvl k):=v57 fun e hm=>by
   rcases he e hm with h|⟨e',h,rfl⟩
   ·have:=h.wt;omega
   ·have:=h.wt;simp only[wt,wtV,wtL];omega
  have h4:l.length*(1+lvl k)<=3*(1+lvl k):=Nat.mul_le_mul_right _ h3
  simp only[wtV,lvl];omega
 ·rw[j4m] at hx
  rcases hx with hx|⟨q,hq,hx⟩
  ·simp only at hx;omega
  ·rcases he q hq with h|⟨e',h,rfl⟩
   ·exact h.nms x hx
   ·rw[j4m] at hx
    rcases hx with hx|⟨k,hk,hx⟩
    ·simp at hx
    ·have:k=e':=by simpa using hk
     rw[this] at hx;exact h.nms x hx
 ·rcases he e hm with h|⟨e',h,rfl⟩
  ·exact h.ev
  ·exact EvB.mk' (by simp) (by simpa using h.ev)
theorem w05{segs:List ByteArray}(hs: ∀s∈segs,s.size<=100):ClE segs fun k e=>ExS (2*k) e:=
 ⟨fun k=>ExS.le (n:=0) ⟨.nil,⟨sz0,sz0⟩,opl (by simp),rfl⟩ (by omega),fun k b hb=>ExS.le (n:=0) ⟨.nil,⟨hs _ hb,sz0⟩,opl (by simp),rfl⟩ (by omega),fun k e he _=>he.le (by omega),fun k e he=>(v01 he sz0 sz0).le (by omega),
  fun k op l hop h3 hne he=>⟨.nil,⟨sz0,sz0⟩,⟨InI.mk (by simp only;omega) (by simp only;omega),fun _ _=>hne⟩,h3,fun e hm=>by
   rcases he e hm with h|⟨e',h,rfl⟩
   ·exact h.up
   ·exact v01 h sz0 sz0⟩⟩
def Byts(l:List Int):Prop:= ∀x∈l,0<=x/\x<256
theorem v04{l:List Int}{most:Int}{K:List Int->Int->Prop}(hb:Byts l)(h0:0<=most)(h1:most<=1000)(h: ∀r,DS r 0->K r 0):j5c l most K:=by
 unfold j5c
 refine Jn1.mk (fun r=>DS r 0) ?_ h
 refine fun _=>Cnd.mk (fun hc=>⟨by omega,?_⟩) fun hc=>⟨by omega,by omega,by omega,hb⟩
 rw[show List.drop (Int.toNat 0) (List.take most.toNat l)=l.take most.toNat from rfl]
 exact⟨by rw[List.length_take];omega,by omega,by omega,fun x hx=>hb x (List.mem_of_mem_take hx)⟩
end Go.En
end
noncomputable section
set_option maxRecDepth 100000
namespace Go.En
open Go Go.Fl Go.Fl.Lk Go.Fx
theorem w2t{α:Type}{l:List α}{p:α->Bool}{i:Nat}{y:α}(hy:l[i]? =some y)(hp:p y=true):(l.drop i).find? p=some y:=by
 have hlt:=Qe hy
 rw[List.drop_eq_getElem_cons hlt,List.find?_cons]
 have e:l[i]=y:=by rw[List.getElem?_eq_getElem hlt] at hy;exact Option.some.inj hy
 rw[e,hp]
theorem j8t{α:Type}{l:List α}{p:α->Bool}{i:Nat}{y:α}(hy:l[i]? =some y)(hp:p y=false):(l.drop i).find? p=(l.drop (i+1)).find? p:=by
 have hlt:=Qe hy
 rw[List.drop_eq_getElem_cons hlt,List.find?_cons]
 have e:l[i]=y:=by rw[List.getElem?_eq_getElem hlt] at hy;exact Option.some.inj hy
 rw[e,hp]
theorem srch{α:Type}{l:List α}(p:α->Bool){G:Int->α->(Int->Prop)->Prop}{B:Prop}(hl:l.length<=1000000000)(hB:l.find? p=none->B)
  (hG: ∀(i:Nat) y Y,l[i]? =some y->i<l.length->(p y=true->l.find? p=some y)->(p y=false->InI ((i:Int)+1)/\Y ((i:Int)+1))->G (i:Int) y Y):
  Lp1 (fun x Y=>Cnd (x<(l.length:Int)) ((0<=x/\x<(l.length:Int))/\ ∀y,l[x.toNat]? =some y->G x y Y) B) 0:=by
 refine Lp1.ind (fun i=> ∃j:Nat,i=(j:Int)/\j<=l.length/\l.find? p=(l.drop j).find? p) (fun i=>(l.length - i).toNat) ?_ ⟨0,rfl,by omega,rfl⟩
 rintro i ⟨j,rfl,hj,hf⟩
 refine Cnd.mk (fun hc=>⟨by omega,fun y hy=> ?_⟩) fun hc=> ?_
 ·have hy:l[j]? =some y:=hy
  refine hG j y _ hy (by omega) (fun hp=>by rw[hf,w2t hy hp]) fun hp=>⟨by unfold InI;omega,⟨j+1,by omega,by omega,by rw[hf,j8t hy hp]⟩,by omega⟩
 ·refine hB ?_
  rw[hf,List.drop_eq_nil_of_le (by omega)];rfl
theorem j8u{α:Type}{l:List α}(p:α->Bool){G:Int->α->(Int->Prop)->Prop}{B:Prop}(hl:l.length<=1000000000)(hB:l.find? p=none->B)
  (hG: ∀(i:Nat) y Y,l[i]? =some y->i<l.length->(p y=true->l.find? p=some y)->(p y=false->InI ((i:Int)+1)/\Y ((i:Int)+1))->G (i:Int) y Y):
  Lp1 (fun x Y=>l.length<=(9223372036854775807:Nat)->Cnd (x<(l.length:Int)) ((0<=x/\x<(l.length:Int))/\ ∀y,l[x.toNat]? =some y->G x y Y) B) 0:=by
 refine Lp1.ind (fun i=> ∃j:Nat,i=(j:Int)/\j<=l.length/\l.find? p=(l.drop j).find? p) (fun i=>(l.length - i).toNat) ?_ ⟨0,rfl,by omega,rfl⟩
 rintro i ⟨j,rfl,hj,hf⟩ _
 refine Cnd.mk (fun hc=>⟨by omega,fun y hy=> ?_⟩) fun hc=> ?_
 ·have hy:l[j]? =some y:=hy
  refine hG j y _ hy (by omega) (fun hp=>by rw[hf,w2t hy hp]) fun hp=>⟨by unfold InI;omega,⟨j+1,by omega,by omega,by rw[hf,j8t hy hp]⟩,by omega⟩
 ·refine hB ?_
  rw[hf,List.drop_eq_nil_of_le (by omega)];rfl
def xof(v:Envt)(key:ByteArray):Option Exper:=v.6.find? fun x=>decide (x.1=key)
def insV(l:List Spn)(b:Int):Bool:=(l.find? fun r=>decide (r.1<=b) && decide (b<r.2)).isSome
def lof(v:Envt)(key:ByteArray):Option Lay_:=v.5.find? fun l=>decide (l.1=key)
theorem dt{p:Prop}[Decidable p](h:p):decide p=true:=decide_eq_true h
theorem df{p:Prop}[Decidable p](h: ¬p):decide p=false:=decide_eq_false h
end Go.En
end
noncomputable section
set_option maxRecDepth 100000
namespace Go.En
open Go Go.Fl Go.Fl.Lk Go.Fx
theorem Rx{v:Envt}{key:ByteArray}{K:Int->Prop}(hn:v.6.length<=1000)(h0:xof v key=none->K (-1))(h1: ∀(j:Nat) x,v.6[j]? =some x->xof v key=some x->K (j:Int)):Wg v key K:=by
 unfold Wg
 exact j8u (fun x:Exper=>decide (x.1=key)) (by omega) h0 fun i y Y hy _ hp hq=>Cnd.mk (fun he=>h1 i y hy (hp (dt he))) fun he=>hq (df he)
theorem Vv{v:Envt}{key:ByteArray}{K:Int->Prop}(hn:v.5.length<=1000)(h0:lof v key=none->K (-1))(h1: ∀(j:Nat) l,v.5[j]? =some l->lof v key=some l->K (j:Int)):Zw v key K:=by
 unfold Zw
 exact j8u (fun l:Lay_=>decide (l.1=key)) (by omega) h0 fun i y Y hy _ hp hq=>Cnd.mk (fun he=>h1 i y hy (hp (dt he))) fun he=>hq (df he)
end Go.En
end
noncomputable section
set_option maxRecDepth 100000
namespace Go.En
open Go Go.Fl Go.Fl.Lk Go.Fx
theorem Vw{s:ByteArray}{K:Bool->Prop}(h: ∀r,K r):U6 s K:=by
 unfold U6 z68
 refine Cnd.mk (fun _=>h _) fun hs=>⟨by omega,Cnd.mk (fun _=> ?_) fun _=>h _⟩
 refine Lp1.ind (fun (i:Int)=>0<=i/\i<=s.size) (fun (i:Int)=>(s.size - i).toNat) ?_ ⟨by omega,by omega⟩
 rintro i ⟨i0,i1⟩
 (repeat' (first|exact h _|assumption|(unfold InI;omega)|omega|refine Cnd.mk (fun _=> ?_) fun _=> ?_|refine⟨?_,?_⟩|intro _))
theorem j3f{K:List ByteArray->Prop}(h: ∀l:List ByteArray,l.length<=100->K l):q3c K:=by
 unfold q3c
 exact h _ (by decide)
theorem Jj{s:ByteArray}{K:Bool->Prop}(hs:s.size<=1000)(h: ∀r,K r):U9 s K:=by
 unfold U9 j5l
 refine w4o hs fun r=>Cnd.mk (fun _=>Cnd.mk (fun _=>h _) fun _=>j3f fun l hl=> ?_) fun _=>h _
 refine Lp1.ind (fun (i:Int)=>0<=i/\i<=l.length) (fun (i:Int)=>(l.length - i).toNat) ?_ ⟨by omega,by omega⟩
 rintro i ⟨i0,i1⟩
 (repeat' (first|exact h _|assumption|(unfold InI;omega)|omega|refine Cnd.mk (fun _=> ?_) fun _=> ?_|refine⟨?_,?_⟩|intro _))
theorem z3j{s:Sett}{K:Int->Prop}(hs:s.holdoutKind.size<=1000)(h: ∀r,K r):q3d s K:=by
 unfold q3d q71
 (repeat' (first|exact h _|refine Vw fun _=> ?_|refine Jj hs fun _=> ?_|assumption|(unfold InI;omega)|omega|refine Cnd.mk (fun _=> ?_) fun _=> ?_|refine⟨?_,?_⟩|intro _))
theorem z3k{l:List Decl}{K:Int->Prop}(hl: ∀d∈l,d.kind.size<=1000/\d.name.size<=1000)(h: ∀r,K r):q3e l K:=by
 unfold q3e q72
 refine fun _=>Cnd.mk (fun _=>h _) fun _=> ?_
 refine Lp1.ind (fun (i:Int)=>0<=i/\i<=l.length) (fun (i:Int)=>(l.length - i).toNat) ?_ ⟨by omega,by omega⟩
 rintro i ⟨i0,i1⟩ _
 refine Cnd.mk (fun hc=>⟨by omega,fun y hy=>Jj (hl y (getm hy)).1 fun _=>Cnd.mk (fun _=>⟨by omega,fun y hy=>Jj (hl y (getm hy)).2 fun _=> ?_⟩) fun _=>h _⟩) fun _=>h _
 (repeat' (first|exact h _|assumption|(unfold InI;omega)|omega|refine Cnd.mk (fun _=> ?_) fun _=> ?_|refine⟨?_,?_⟩|intro _))
theorem q3l{l:List ByteArray}{K:Int->Prop}(h: ∀r,K r):q14 l K:=by
 unfold q14 z0a
 refine fun _=>Cnd.mk (fun _=>h _) fun _=> ?_
 refine Lp1.ind (fun (i:Int)=>0<=i/\i<=l.length) (fun (i:Int)=>(l.length - i).toNat) ?_ ⟨by omega,by omega⟩
 rintro i ⟨i0,i1⟩
 (repeat' (first|exact h _|refine Vw fun _=> ?_|assumption|(unfold InI;omega)|omega|refine Cnd.mk (fun _=> ?_) fun _=> ?_|refine⟨?_,?_⟩|intro _))
theorem w4r{l:List ByteArray}{K:Int->Prop}(h: ∀r,K r):z5i l K:=by
 unfold z5i j06
 refine fun _=>Cnd.mk (fun _=>h _) fun _=> ?_
 refine Lp1.ind (fun (i:Int)=>0<=i/\i<=l.length) (fun (i:Int)=>(l.length - i).toNat) ?_ ⟨by omega,by omega⟩
 rintro i ⟨i0,i1⟩ _
 refine Cnd.mk (fun hc=>⟨by omega,fun y hy=>Vw fun _=>Cnd.mk (fun _=>⟨by unfold InI;omega,⟨by omega,by omega⟩,by omega⟩) fun _=>h _⟩) fun _=> ?_
 refine Lp1.ind (fun (i:Int)=>1<=i/\i<=l.length+1) (fun (i:Int)=>(l.length+1 - i).toNat) ?_ ⟨by omega,by omega⟩
 rintro i ⟨i0,i1⟩
 (repeat' (first|exact h _|assumption|(unfold InI;omega)|omega|refine Cnd.mk (fun _=> ?_) fun _=> ?_|refine⟨?_,?_⟩|intro _))
theorem w06{s:ByteArray}{K:A3->Bool->Prop}(hs:s.size<=1000)(h: ∀a r,K a r):z1w s K:=by
 unfold z1w z69
 refine LpH.ind (fun x=>0<=x.1/\0<=x.2.1/\x.2.1<=3/\(x.2.1<3->x.1<=(s.size:Int))) (fun x=>(3 - x.2.1).toNat) ?_ ⟨by simp,by simp,by simp,by simp⟩
 rintro⟨a,i,x⟩ ⟨a0,i0,i1,a1⟩
 simp only at a0 a1 i0 i1⊢
 refine Cnd.mk (fun hc=> ?_) fun _=>h _ _
 have a1:=a1 hc
 have sz: ∀j:Int,(s.extract a.toNat j.toNat).size<=1000:=fun j=>by rw[ByteArray.size_extract];omega
 refine Lp1.ind (fun (j:Int)=>a<=j/\j<=s.size) (fun (j:Int)=>(s.size - j).toNat) ?_ ⟨by omega,by omega⟩
 rintro j ⟨j0,j1⟩
 (repeat' (first|exact h _ _|exact trivial|refine z8c (sz _) fun _ _ _ _ _=> ?_|(intro _;simp only[decide_eq_decide] at*;omega)|assumption|(unfold InI;omega)|omega|refine Cnd.mk (fun _=> ?_) fun _=> ?_|refine⟨?_,?_⟩|intro _))
theorem q80{v:Val}{K:Int->Prop}(hv:v.text.size<=1000)(h: ∀r,K r):q6x v K:=by
 unfold q6x z7a
 (repeat' (first|exact h _|refine w02 fun _=> ?_|refine Vw fun _=> ?_|refine w06 hv fun _ _=> ?_|refine w4r fun _=> ?_|assumption|(unfold InI;omega)|omega|refine Cnd.mk (fun _=> ?_) fun _=> ?_|refine⟨?_,?_⟩|intro _))
theorem w4s{n:Nat}{e:Ex}{K:Int->Prop}(he:ExS n e)(h: ∀r,K r):q15 e K:=by
 unfold q15 z5k
 have hv: ∀v∈e.values,v.text.size<=1000:=fun v hv=>by have:=(he.vals.all v hv).txt;omega
 have hn:=he.nm
 have hk:=he.kd
 rw[Zd]
 refine Cnd.mk (fun _=>h _) fun _=>Cnd.mk (fun _=>h _) fun _=>z8t fun r hr=>Cnd.mk (fun hc=> ?_) fun _=>h _
 have hne:=hr hc
 have z:e.op=9∨e.op=10∨e.op=11->(0:Int)<(e.values.length:Int):=fun ho=>by
  have:=List.length_pos_iff.2 (hne (by omega) (by omega));omega
 (repeat' (first|exact h _|refine R6 fun _ _=> ?_|refine Jj (by omega) fun _=> ?_|(refine q80 (hv _ (getm (by assumption))) fun _=> ?_)|(refine Lp1.ind (fun (i:Int)=>0<=i/\i<=e.kids.length+e.values.length) (fun (i:Int)=>(e.kids.length+e.values.length - i).toNat) (fun i hi=> ?_) ⟨by omega,by omega⟩)|assumption|(unfold InI;omega)|omega|refine Cnd.mk (fun _=> ?_) fun _=> ?_|refine⟨?_,?_⟩|intro _))
theorem w4t: ∀(n:Nat) {e:Ex} {d m:Int} {K:Int->Int->Prop},ExS n e->0<=d->d<=11->0<=m->(∀r m,0<=m->K r m)->z0c e d m K:=by
 intro n e d m K he d0 d1 m0 h X hX
 induction n using Nat.strongRecOn generalizing e d m K with
 |_ n ih=>
 refine hX _ _ _ _ ?_
 unfold z5l
 rw[Zd]
 refine Cnd.mk (fun _=>h _ _ m0) fun _=>⟨by unfold InI;omega,Cnd.mk (fun _=>h _ _ (by omega)) fun _=>w4s he fun _=>Cnd.mk (fun _=> ?_) fun _=>h _ _ (by omega)⟩
 refine Lp2.ind (fun (i m:Int)=>0<=i/\i<=e.kids.length/\0<=m) (fun (i _:Int)=>(e.kids.length - i).toNat) ?_ ⟨by omega,by omega,by omega⟩
 rintro i m ⟨i0,i1,m0⟩ _
 refine Cnd.mk (fun hc=>⟨by omega,fun y hy=>⟨by unfold InI;omega,?_⟩⟩) fun _=>h _ _ m0
 obtain⟨q,hq,hk⟩:=he.kid (getm hy)
 rw[Zd]
 exact ih q (by omega) hk (by omega) (by omega) m0 fun r m m0=>Cnd.mk (fun _=>⟨by unfold InI;omega,⟨by omega,by omega,m0⟩,by omega⟩) fun _=>h _ _ m0
theorem z8e{n:Nat}{e:Ex}{K:Int->Prop}(he:ExS n e)(h: ∀r,K r):q16 e K:=by
 unfold q16 z5m
 rw[Zd]
 exact w4t n he (by decide) (by decide) (by decide) fun r _ _=>h r
theorem j6b{g:Seg}{K:Int->Prop}(hg:SegS g)(h: ∀r,K r):R1 g K:=by
 unfold R1 q5g
 have h1:=hg.key
 have h2:=hg.kind
 rw[Zd]
 (repeat' (first|exact h _|refine Jj (by omega) fun _=> ?_|refine q3l fun _=> ?_|refine j4l fun _=> ?_|refine z8e hg.cond fun _=> ?_|assumption|(unfold InI;omega)|omega|refine Cnd.mk (fun _=> ?_) fun _=> ?_|refine⟨?_,?_⟩|intro _))
theorem j3g{l:List Seg}{K:Int->Prop}(hl: ∀g∈l,SegS g)(h: ∀r,K r):G8 l K:=by
 unfold G8 q3f
 refine fun _=>Cnd.mk (fun _=>h _) fun _=> ?_
 refine Lp1.ind (fun (i:Int)=>0<=i/\i<=l.length) (fun (i:Int)=>(l.length - i).toNat) ?_ ⟨by omega,by omega⟩
 rintro i ⟨i0,i1⟩ _
 refine Cnd.mk (fun hc=>⟨by omega,fun y hy=> ?_⟩) fun _=>h _
 dsimp only;rw[Zd]
 refine j6b (hl y (getm hy)) fun _=> ?_
 (repeat' (first|exact h _|assumption|(unfold InI;omega)|omega|refine Cnd.mk (fun _=> ?_) fun _=> ?_|refine⟨?_,?_⟩|intro _))
theorem z9j{f:Flg}{K:Int->Prop}(hf: ∀v∈f.variations,ValS v)(h: ∀r,K r):V6 f K:=by
 unfold V6 Br
 have hv: ∀v∈f.variations,v.text.size<=1000:=fun v hv=>by have:=(hf v hv).txt;omega
 (repeat' (first|exact h _|(refine q80 (hv _ (getm (by assumption))) fun _=> ?_)|(refine Lp1.ind (fun (i:Int)=>0<=i/\i<=f.variations.length) (fun (i:Int)=>(f.variations.length - i).toNat) (fun i hi=> ?_) ⟨by omega,by omega⟩)|assumption|(unfold InI;omega)|omega|refine Cnd.mk (fun _=> ?_) fun _=> ?_|refine⟨?_,?_⟩|intro _))
theorem z4l{l:List Prq}{K:Int->Prop}(hl: ∀q∈l,q.flag.size<=100)(h: ∀r,K r):Wf l K:=by
 unfold Wf Ga
 refine fun _=>Cnd.mk (fun _=>h _) fun _=> ?_
 refine Lp1.ind (fun (i:Int)=>0<=i/\i<=l.length) (fun (i:Int)=>(l.length - i).toNat) ?_ ⟨by omega,by omega⟩
 rintro i ⟨i0,i1⟩ _
 refine Cnd.mk (fun hc=>⟨by omega,fun y hy=>Jj (by have:=hl y (getm hy);omega) fun _=> ?_⟩) fun _=>h _
 (repeat' (first|exact h _|assumption|(unfold InI;omega)|omega|refine Cnd.mk (fun _=> ?_) fun _=> ?_|refine⟨?_,?_⟩|intro _))
theorem j6c{l:List Tgt}{n:Int}{K:Int->Prop}(hl: ∀t∈l,t.kind.size<=100)(h: ∀r,K r):R2 l n K:=by
 unfold R2 q5h
 refine fun _=>Cnd.mk (fun _=>h _) fun _=> ?_
 refine Lp1.ind (fun (i:Int)=>0<=i/\i<=l.length) (fun (i:Int)=>(l.length - i).toNat) ?_ ⟨by omega,by omega⟩
 rintro i ⟨i0,i1⟩ _
 refine Cnd.mk (fun hc=>⟨by omega,fun y hy=>Jj (by have:=hl y (getm hy);omega) fun _=> ?_⟩) fun _=>h _
 (repeat' (first|exact h _|refine q3l fun _=> ?_|assumption|(unfold InI;omega)|omega|refine Cnd.mk (fun _=> ?_) fun _=> ?_|refine⟨?_,?_⟩|intro _))
theorem j2j{m n:Int}{s:Srv}{K:Int->Prop}(hs:SrvS m s)(h: ∀r,K r):q06 s n K:=by
 unfold q06 z1x
 have h1:=hs.kind
 have h2:=hs.by_
 (repeat' (first|exact h _|refine Jj (by omega) fun _=> ?_|refine Vw fun _=> ?_|refine q8z fun _ _ _=> ?_|assumption|(unfold InI;omega)|omega|refine Cnd.mk (fun _=> ?_) fun _=> ?_|refine⟨?_,?_⟩|intro _))
theorem w07{m n:Int}{l:List Rul}{K:Int->Prop}(hl: ∀r∈l,RulS m r)(h: ∀r,K r):q3w l n K:=by
 unfold q3w z1y
 refine fun _=>Cnd.mk (fun _=>h _) fun _=> ?_
 refine Lp1.ind (fun (i:Int)=>0<=i/\i<=l.length) (fun (i:Int)=>(l.length - i).toNat) ?_ ⟨by omega,by omega⟩
 rintro i ⟨i0,i1⟩ _
 refine Cnd.mk (fun hc=>⟨by omega,fun y hy=>Jj (by have:=(hl y (getm hy)).name;omega) fun _=>Cnd.mk (fun _=> ?_) fun _=>h _⟩) fun _=>h _
 refine Lp1.ind (fun (j:Int)=>0<=j/\j<=i) (fun (j:Int)=>(i - j).toNat) ?_ ⟨by omega,by omega⟩
 rintro j ⟨j0,j1⟩
 refine Cnd.mk (fun hc=>⟨by omega,fun y hy=>⟨by omega,fun z hz=>Cnd.mk (fun _=>h _) fun _=>⟨by unfold InI;omega,⟨by omega,by omega⟩,by omega⟩⟩⟩) fun _=>⟨by omega,fun y hy=> ?_⟩
 dsimp only;rw[Zd]
 refine z8e (hl y (getm hy)).cond fun _=>Cnd.mk (fun _=>⟨by omega,fun z hz=>j2j (hl z (getm hz)).serve fun _=> ?_⟩) fun _=>h _
 (repeat' (first|exact h _|assumption|(unfold InI;omega)|omega|refine Cnd.mk (fun _=> ?_) fun _=> ?_|refine⟨?_,?_⟩|intro _))
theorem w4u{f:Flg}{K:Int->Prop}(hf:FlgS f)(h: ∀r,K r):q60 f K:=by
 unfold q60 z5n
 have h1:=hf.key
 (repeat' (first|exact h _|refine Jj (by omega) fun _=> ?_|refine z9j hf.vals fun _=> ?_|refine z4l hf.needs fun _=> ?_|refine j6c hf.tgts fun _=> ?_|refine w07 hf.rules fun _=> ?_|refine j2j hf.dflt fun _=> ?_|assumption|(unfold InI;omega)|omega|refine Cnd.mk (fun _=> ?_) fun _=> ?_|refine⟨?_,?_⟩|intro _))
theorem w08{l:List Flg}{K:Int->Prop}(hl: ∀f∈l,FlgS f)(h: ∀r,K r):q3x l K:=by
 unfold q3x z1z
 refine fun _=>Cnd.mk (fun _=>h _) fun _=> ?_
 refine Lp1.ind (fun (i:Int)=>0<=i/\i<=l.length) (fun (i:Int)=>(l.length - i).toNat) ?_ ⟨by omega,by omega⟩
 rintro i ⟨i0,i1⟩ _
 refine Cnd.mk (fun hc=>⟨by omega,fun y hy=>w4u (hl y (getm hy)) fun _=> ?_⟩) fun _=>h _
 (repeat' (first|exact h _|assumption|(unfold InI;omega)|omega|refine Cnd.mk (fun _=> ?_) fun _=> ?_|refine⟨?_,?_⟩|intro _))
theorem w09{l:Lay_}{K:Int->Prop}(hl:LayS l)(h: ∀r,K r):q3y l K:=by
 unfold q3y z10
 have h1:=hl.key
 have h2:=hl.kind
 (repeat' (first|exact h _|refine Jj (by omega) fun _=> ?_|refine Vw fun _=> ?_|(refine Lp1.ind (fun (i:Int)=>0<=i/\i<=l.cooling.length) (fun (i:Int)=>(l.cooling.length - i).toNat) (fun i hi=> ?_) ⟨by omega,by omega⟩)|assumption|(unfold InI;omega)|omega|refine Cnd.mk (fun _=> ?_) fun _=> ?_|refine⟨?_,?_⟩|intro _))
theorem j8v{l:List Lay_}{K:Int->Prop}(hl: ∀f∈l,LayS f)(h: ∀r,K r):q07 l K:=by
 unfold q07 q74
 refine fun _=>Cnd.mk (fun _=>h _) fun _=> ?_
 refine Lp1.ind (fun (i:Int)=>0<=i/\i<=l.length) (fun (i:Int)=>(l.length - i).toNat) ?_ ⟨by omega,by omega⟩
 rintro i ⟨i0,i1⟩ _
 refine Cnd.mk (fun hc=>⟨by omega,fun y hy=>w09 (hl y (getm hy)) fun _=> ?_⟩) fun _=>h _
 (repeat' (first|exact h _|assumption|(unfold InI;omega)|omega|refine Cnd.mk (fun _=> ?_) fun _=> ?_|refine⟨?_,?_⟩|intro _))
theorem z9k{x:Exper}{K:Int->Prop}(hx:ExpS x)(h: ∀r,K r):V7 x K:=by
 unfold V7 Bs
 have h1:=hx.key
 have h2:=hx.layer
 have h3:=hx.flag
 rw[Zd]
 (repeat' (first|exact h _|refine Jj (by omega) fun _=> ?_|refine Vw fun _=> ?_|refine j2f fun _ _ _=> ?_|refine q8z fun _ _ _=> ?_|refine z8e hx.cond fun _=> ?_|assumption|(unfold InI;omega)|omega|refine Cnd.mk (fun _=> ?_) fun _=> ?_|refine⟨?_,?_⟩|intro _))
theorem z8f{l:List Exper}{K:Int->Prop}(hl: ∀f∈l,ExpS f)(h: ∀r,K r):Vc l K:=by
 unfold Vc H7
 refine fun _=>Cnd.mk (fun _=>h _) fun _=> ?_
 refine Lp1.ind (fun (i:Int)=>0<=i/\i<=l.length) (fun (i:Int)=>(l.length - i).toNat) ?_ ⟨by omega,by omega⟩
 rintro i ⟨i0,i1⟩ _
 refine Cnd.mk (fun hc=>⟨by omega,fun y hy=> ?_⟩) fun _=>h _
 dsimp only;rw[Zd]
 refine z9k (hl y (getm hy)) fun _=> ?_
 (repeat' (first|exact h _|assumption|(unfold InI;omega)|omega|refine Cnd.mk (fun _=> ?_) fun _=> ?_|refine⟨?_,?_⟩|intro _))
theorem q7i{v:Envt}{K:Int->Prop}(hv:EnvS v)(h: ∀r,K r):Wo v K:=by
 unfold Wo H8
 refine z3j (show v.settings.holdoutKind.size<=1000 by have:=hv.hkind;omega) fun _=>Cnd.mk (fun _=>z3k (fun d hd=>by have:=hv.attrs d hd;omega) fun _=> ?_) fun _=>h _
 (repeat' (first|exact h _|refine j3g hv.segs fun _=> ?_|refine w08 hv.flags fun _=> ?_|refine j8v hv.layers fun _=> ?_|refine z8f hv.exps fun _=> ?_|assumption|(unfold InI;omega)|omega|refine Cnd.mk (fun _=> ?_) fun _=> ?_|refine⟨?_,?_⟩|intro _))
end Go.En
end
noncomputable section
set_option maxRecDepth 100000
namespace Go.Dg
open Go.Fl
abbrev Nd:=Int×Int×Int
def nd(ns:List Nd)(id:Int):Nd:=ns.getD id.toNat (0,0,0)
def top(ns:List Nd)(id:Int):Int:=if id<0 then 1001 else (nd ns id).1
def Ok(ns:List Nd)(id:Int):Prop:= -1002<id/\id<ns.length
def evF(ns:List Nd)(h:Int->Bool):Nat->Int->Int
 |0,id=> -1 - id
 |n+1,id=>if id<0 then -1 - id else evF ns h n (if h (nd ns id).1=true then (nd ns id).2.1 else (nd ns id).2.2)
def ev(ns:List Nd)(h:Int->Bool)(id:Int):Int:=evF ns h (id.toNat+1) id
structure Nod(ns:List Nd):Prop where
 nod: ∀i:Int,0<=i->i<ns.length->0<=(nd ns i).1/\(nd ns i).1<=1000/\ -1002<(nd ns i).2.1/\(nd ns i).2.1<i/\ -1002<(nd ns i).2.2/\(nd ns i).2.2<i/\
  (nd ns i).2.1≠(nd ns i).2.2/\(nd ns i).1<top ns (nd ns i).2.1/\(nd ns i).1<top ns (nd ns i).2.2
 one: ∀i j:Int,0<=i->i<ns.length->0<=j->j<ns.length->nd ns i=nd ns j->i=j
structure Inv(ns:List Nd)(ids:Nd->Option Int):Prop where
 nod:Nod ns
 ids: ∀n (id:Int),ids n=some id↔0<=id/\id<ns.length/\nd ns id=n
theorem q6h{ns:List Nd}{h:Int->Bool}{id:Int}(hi:id<0):ev ns h id= -1 - id:=by
 simp[ev,evF,hi]
theorem w2u{ns:List Nd}(hN:Nod ns){h:Int->Bool}: ∀(n m:Nat) (id:Int),id<ns.length->id<n->id<m->evF ns h n id=evF ns h m id:=by
 intro n
 induction n with
 |zero=>
  intro m id _ h1 _
  have:id<0:=by omega
  cases m with
  |zero=>rfl
  |succ m=>simp[evF,this]
 |succ n ih=>
  intro m id hl h1 h2
  cases m with
  |zero=>
   have:id<0:=by omega
   simp[evF,this]
  |succ m=>
   simp only[evF]
   by_cases hi:id<0
   ·simp[hi]
   ·simp only[hi,if_false]
    obtain⟨_,_,_,a,_,b,_⟩:=hN.nod id (by omega) hl
    cases ht:h (nd ns id).1 with
    |true=>simp only[if_true];exact ih m _ (by omega) (by omega) (by omega)
    |false=>simp only[Bool.false_eq_true,if_false];exact ih m _ (by omega) (by omega) (by omega)
theorem q43{ns:List Nd}(hN:Nod ns){h:Int->Bool}{id:Int}(hi:0<=id)(hl:id<ns.length):
  ev ns h id=if h (nd ns id).1=true then ev ns h (nd ns id).2.1 else ev ns h (nd ns id).2.2:=by
 obtain⟨_,_,_,a,_,b,_⟩:=hN.nod id hi hl
 have hn: ¬id<0:=by omega
 show evF ns h (id.toNat+1) id=_
 simp only[evF,hn,if_false]
 cases ht:h (nd ns id).1 with
 |true=>simp only[if_true];exact w2u hN _ _ _ (by omega) (by omega) (by omega)
 |false=>simp only[Bool.false_eq_true,if_false];exact w2u hN _ _ _ (by omega) (by omega) (by omega)
theorem w2v{ns:List Nd}(hN:Nod ns){id:Int}(hl:id<ns.length):0<=top ns id/\top ns id<=1001/\(0<=id->top ns id<=1000):=by
 by_cases hi:id<0
 ·simp only[top,hi,if_true];omega
 ·obtain⟨a,b,_⟩:=hN.nod id (by omega) hl
  simp only[top,hi,if_false];omega
theorem ind{ns:List Nd}(hN:Nod ns){p:Int->Prop}(h0: ∀id:Int, -1002<id->id<0->p id)
  (h1: ∀id:Int,0<=id->id<ns.length->p (nd ns id).2.1->p (nd ns id).2.2->p id){id:Int}(hi:Ok ns id):p id:=by
 have key: ∀(k:Nat) (id:Int),id<k->Ok ns id->p id:=by
  intro k
  induction k with
  |zero=>exact fun id hk hi=>h0 id hi.1 hk
  |succ k ih=>
   intro id hk hi
   by_cases hn:id<0
   ·exact h0 id hi.1 hn
   ·obtain⟨_,_,a,b,c,d,_⟩:=hN.nod id (by omega) hi.2
    have:=hi.2
    exact h1 id (by omega) hi.2 (ih _ (by omega) ⟨a,by omega⟩) (ih _ (by omega) ⟨c,by omega⟩)
 exact key (id.toNat+1) id (by omega) hi
theorem v58{ns:List Nd}(hN:Nod ns){h h':Int->Bool}{id:Int}(hi:Ok ns id):(∀t,top ns id<=t->h t=h' t)->ev ns h id=ev ns h' id:=by
 refine ind hN (p:=fun id=>(∀t,top ns id<=t->h t=h' t)->ev ns h id=ev ns h' id) ?_ ?_ hi
 ·intro id _ hn _
  rw[q6h hn,q6h hn]
 ·intro id hp hl ih1 ih2 he
  obtain⟨_,_,_,_,_,_,_,a,b⟩:=hN.nod id hp hl
  have ht:top ns id=(nd ns id).1:=by simp only[top,if_neg (show ¬id<0 by omega)]
  rw[q43 hN hp hl,q43 hN hp hl,←he _ (by omega),ih1 fun t h=>he t (by omega),ih2 fun t h=>he t (by omega)]
def setB(h:Int->Bool)(t:Int)(b:Bool):Int->Bool:=fun x=>if x=t then b else h x
theorem w2w{ns:List Nd}(hN:Nod ns){h:Int->Bool}{t:Int}{b:Bool}{id:Int}(hi:Ok ns id)(ht:t<top ns id):ev ns (setB h t b) id=ev ns h id:=
 v58 hN hi fun x hx=>by simp only[setB,if_neg (show ¬x=t by omega)]
theorem v59{ns:List Nd}(hN:Nod ns){h:Int->Bool}{id:Int}(hi:0<=id)(hl:id<ns.length):ev ns (setB h (nd ns id).1 true) id=ev ns h (nd ns id).2.1:=by
 obtain⟨_,_,c,d,_,_,_,a,b⟩:=hN.nod id hi hl
 rw[q43 hN hi hl]
 simp only[setB,if_true]
 exact w2w hN ⟨c,by omega⟩ a
theorem v79{ns:List Nd}(hN:Nod ns){h:Int->Bool}{id:Int}(hi:0<=id)(hl:id<ns.length):ev ns (setB h (nd ns id).1 false) id=ev ns h (nd ns id).2.2:=by
 obtain⟨_,_,_,_,c,d,_,a,b⟩:=hN.nod id hi hl
 rw[q43 hN hi hl]
 simp only[setB,if_true]
 exact w2w hN ⟨c,by omega⟩ b
theorem v6a{ns ms:List Nd}{id:Int}(h1:id<ns.length)(h0:0<=id):nd (ns++ms) id=nd ns id:=by
 simp only[nd,List.getD_eq_getElem?_getD]
 rw[List.getElem?_append_left (by omega)]
theorem z1a{ns ns':List Nd}(hp:ns<+:ns'){id:Int}(h1:id<ns.length)(h0:0<=id):nd ns' id=nd ns id:=by
 obtain⟨ms,rfl⟩:=hp
 exact v6a h1 h0
theorem q81{ns ns':List Nd}(hp:ns<+:ns'){id:Int}(h1:id<ns.length):top ns' id=top ns id:=by
 by_cases h:id<0
 ·simp only[top,if_pos h]
 ·simp only[top,if_neg h,z1a hp h1 (by omega)]
theorem Ok.pre{ns ns':List Nd}(hp:ns<+:ns'){id:Int}(h:Ok ns id):Ok ns' id:=by
 have:=hp.length_le
 exact⟨h.1,by have:=h.2;omega⟩
theorem q2g{ns ns':List Nd}(hN:Nod ns)(hN':Nod ns')(hp:ns<+:ns'){h:Int->Bool}{id:Int}(hi:Ok ns id):ev ns' h id=ev ns h id:=by
 refine ind hN (p:=fun id=>ev ns' h id=ev ns h id) ?_ ?_ hi
 ·intro id _ hn
  rw[q6h hn,q6h hn]
 ·intro id h0 hl i1 i2
  have hl':=hp.length_le
  rw[q43 hN h0 hl,q43 hN' h0 (by omega),z1a hp hl h0,i1,i2]
def Tb(ns:List Nd)(b:Int):Prop:= ∀i:Int,0<=i->i<ns.length->(nd ns i).1<b
theorem z1b{ns:List Nd}{n:Nd}:nd (ns++[n]) ns.length=n:=by
 simp[nd,List.getD_eq_getElem?_getD]
theorem Nod.add{ns:List Nd}(hN:Nod ns){t y n:Int}(ht:0<=t)(ht':t<=1000)(hy:Ok ns y)(hn:Ok ns n)(hne:y≠n)(h1:t<top ns y)(h2:t<top ns n)
  (hnew: ∀i:Int,0<=i->i<ns.length->nd ns i≠(t,y,n)):Nod (ns++[(t,y,n)]):=by
 have hp:ns<+:ns++[(t,y,n)]:=List.prefix_append _ _
 have hlen:((ns++[(t,y,n)]).length:Int)=ns.length+1:=by simp
 refine⟨fun i h0 hl=> ?_,fun i j h0 hl k0 kl he=> ?_⟩
 ·by_cases hi:i<ns.length
  ·rw[z1a hp hi h0]
   obtain⟨a1,a2,a3,a4,a5,a6,a7,a8,a9⟩:=hN.nod i h0 hi
   rw[q81 hp (by omega),q81 hp (by omega)]
   exact⟨a1,a2,a3,a4,a5,a6,a7,a8,a9⟩
  ·have:i=ns.length:=by omega
   subst this
   rw[z1b]
   have hy2:=hy.2
   have hn2:=hn.2
   rw[q81 hp hy2,q81 hp hn2]
   exact⟨ht,ht',hy.1,hy2,hn.1,hn2,hne,h1,h2⟩
 ·by_cases hi:i<ns.length
  ·by_cases hj:j<ns.length
   ·rw[z1a hp hi h0,z1a hp hj k0] at he
    exact hN.one i j h0 hi k0 hj he
   ·have:j=ns.length:=by omega
    subst this
    rw[z1b,z1a hp hi h0] at he
    exact absurd he (hnew i h0 hi)
  ·have:i=ns.length:=by omega
   subst this
   by_cases hj:j<ns.length
   ·rw[z1b,z1a hp hj k0] at he
    exact absurd he.symm (hnew j k0 hj)
   ·omega
theorem Inv.add{ns:List Nd}{ids:Nd->Option Int}(hI:Inv ns ids){t y n:Int}(ht:0<=t)(ht':t<=1000)(hy:Ok ns y)(hn:Ok ns n)(hne:y≠n)(h1:t<top ns y)(h2:t<top ns n)
  (hnew:ids (t,y,n)=none):Inv (ns++[(t,y,n)]) (put ids (t,y,n) ns.length):=by
 have hnew': ∀i:Int,0<=i->i<ns.length->nd ns i≠(t,y,n):=fun i h0 hl he=>by
  rw[(hI.ids _ i).2 ⟨h0,hl,he⟩] at hnew
  cases hnew
 have hp:ns<+:ns++[(t,y,n)]:=List.prefix_append _ _
 have hlen:((ns++[(t,y,n)]).length:Int)=ns.length+1:=by simp
 refine⟨hI.nod.add ht ht' hy hn hne h1 h2 hnew',fun m id=> ?_⟩
 simp only[put]
 by_cases hm:m=(t,y,n)
 ·subst hm
  simp only[if_true,Option.some.injEq]
  constructor
  ·intro h
   subst h
   exact⟨by omega,by omega,z1b⟩
  ·rintro⟨a,b,c⟩
   by_cases hid:id<ns.length
   ·rw[z1a hp hid a] at c
    exact absurd c (hnew' id a hid)
   ·omega
 ·simp only[if_neg hm]
  rw[hI.ids]
  constructor
  ·rintro⟨a,b,c⟩
   exact⟨a,by omega,by rw[z1a hp b a];exact c⟩
  ·rintro⟨a,b,c⟩
   by_cases hid:id<ns.length
   ·exact⟨a,hid,by rw[z1a hp hid a] at c;exact c⟩
   ·have:id=ns.length:=by omega
    subst this
    rw[z1b] at c
    exact absurd c.symm hm
def z8u(ns:List Nd)(t y n:Int):Prop:=0<=t/\t<=1000/\Ok ns y/\Ok ns n/\t<top ns y/\t<top ns n
instance (ns:List Nd)(id:Int):Decidable (Ok ns id):=by unfold Ok;infer_instance
instance (ns:List Nd)(t y n:Int):Decidable (z8u ns t y n):=by unfold z8u;infer_instance
def node(ns:List Nd)(ids:Nd->Option Int)(full:Bool)(t y n:Int):Int×List Nd×(Nd->Option Int)×Bool:=
 if z8u ns t y n then
  if y=n then (y,ns,ids,full)
  else match ids (t,y,n) with
   |some id=>(id,ns,ids,full)
   |none=>if 4000<=ns.length then (-1002,ns,ids,true) else (ns.length,ns++[(t,y,n)],put ids (t,y,n) ns.length,full)
 else (-1002,ns,ids,full)
structure Grew(ns:List Nd)(ids:Nd->Option Int)(full:Bool)(k:Nat)(ns':List Nd)(ids':Nd->Option Int)(full':Bool):Prop where
 inv:Inv ns' ids'
 pre:ns<+:ns'
 len:ns'.length<=4000
 room:full'=full∨ns'.length=4000
 most:ns'.length<=ns.length+k
theorem Grew.refl{ns:List Nd}{ids:Nd->Option Int}{full:Bool}(hI:Inv ns ids)(hl:ns.length<=4000)(k:Nat):Grew ns ids full k ns ids full:=
 ⟨hI,List.prefix_refl _,hl,.inl rfl,by omega⟩
theorem Grew.trans{ns ns' ns'':List Nd}{ids ids' ids'':Nd->Option Int}{f f' f'':Bool}{k k' m:Nat}(h:Grew ns ids f k ns' ids' f')(h':Grew ns' ids' f' k' ns'' ids'' f'')(hm:k+k'<=m):
  Grew ns ids f m ns'' ids'' f'':=by
 refine⟨h'.inv,h.pre.trans h'.pre,h'.len,?_,?_⟩
 ·rcases h'.room with e|e
  ·rcases h.room with e'|e'
   ·exact .inl (e.trans e')
   ·have:=h'.pre.length_le
    have:=h'.len
    exact .inr (by omega)
  ·exact .inr e
 ·have:=h.most
  have:=h'.most
  omega
theorem w8j{ns:List Nd}{ids:Nd->Option Int}{full:Bool}(hI:Inv ns ids)(hl:ns.length<=4000){t y n:Int}(hO:z8u ns t y n){r:Int}{ns':List Nd}{ids':Nd->Option Int}{full':Bool}
  (he:node ns ids full t y n=(r,ns',ids',full')):Grew ns ids full 1 ns' ids' full'/\(∀b,Tb ns b->t<b->Tb ns' b)/\
   ((r= -1002/\ns'.length=4000/\full'=true)∨(full'=full/\Ok ns' r/\t<=top ns' r/\ ∀h,ev ns' h r=if h t=true then ev ns h y else ev ns h n)):=by
 obtain⟨h1,h2,hy,hn,h3,h4⟩:=hO
 rw[node,if_pos ⟨h1,h2,hy,hn,h3,h4⟩] at he
 by_cases hyn:y=n
 ·rw[if_pos hyn] at he
  cases he
  subst hyn
  exact⟨.refl hI hl 1,fun b h _=>h,.inr ⟨rfl,hy,by omega,fun h=>by simp⟩⟩
 ·rw[if_neg hyn] at he
  cases hid:ids (t,y,n) with
  |some id=>
   rw[hid] at he
   cases he
   obtain⟨a,b,c⟩:=(hI.ids _ _).1 hid
   refine⟨.refl hI hl 1,fun b h _=>h,.inr ⟨rfl,⟨by omega,b⟩,?_,fun h=> ?_⟩⟩
   ·simp only[top,if_neg (show ¬r<0 by omega),c];omega
   ·rw[q43 hI.nod a b,c]
  |none=>
   rw[hid] at he
   simp only at he
   by_cases hf:4000<=ns.length
   ·rw[if_pos hf] at he
    cases he
    exact⟨⟨hI,List.prefix_refl _,hl,.inr (by omega),by omega⟩,fun b h _=>h,.inl ⟨rfl,by omega,rfl⟩⟩
   ·rw[if_neg hf] at he
    cases he
    have hp:ns<+:ns++[(t,y,n)]:=List.prefix_append _ _
    have hI':=hI.add h1 h2 hy hn hyn h3 h4 hid
    have hlen:((ns++[(t,y,n)]).length:Int)=ns.length+1:=by simp
    refine⟨⟨hI',hp,by simp;omega,.inl rfl,by simp⟩,fun b hb ht i h0 hl=> ?_,.inr ⟨rfl,⟨by omega,by omega⟩,?_,fun h=> ?_⟩⟩
    ·by_cases hi:i<ns.length
     ·rw[z1a hp hi h0];exact hb i h0 hi
     ·have:i=ns.length:=by omega
      subst this
      rw[z1b];exact ht
    ·simp only[top,if_neg (show ¬(ns.length:Int)<0 by omega),z1b];omega
    ·rw[q43 hI'.nod (by omega) (by omega),z1b]
     simp only
     rw[q2g hI.nod hI'.nod hp hy,q2g hI.nod hI'.nod hp hn]
theorem w2x{ns:List Nd}{ids:Nd->Option Int}{full:Bool}{t y n:Int}(hO: ¬z8u ns t y n):node ns ids full t y n=(-1002,ns,ids,full):=by
 rw[node,if_neg hO]
def mtop(ns:List Nd)(f g h:Int):Int:=min (min (top ns f) (top ns g)) (top ns h)
def Cse(ns:List Nd)(f g h r:Int):Prop:= ∀v,ev ns v r=if ev ns v f=1 then ev ns v g else ev ns v h
def Cond(ns:List Nd)(f:Int):Prop:= ∀v,ev ns v f=0∨ev ns v f=1
def sd(ns:List Nd)(x t:Int):Int×Int:=if top ns x=t then ((nd ns x).2.1,(nd ns x).2.2) else (x,x)
theorem v4b{ns:List Nd}(hN:Nod ns){x t:Int}(hx:Ok ns x)(ht:t<=1000)(hl:t<=top ns x):
  Ok ns (sd ns x t).1/\Ok ns (sd ns x t).2/\t<top ns (sd ns x t).1/\t<top ns (sd ns x t).2/\ ∀v,ev ns v x=if v t=true then ev ns v (sd ns x t).1 else ev ns v (sd ns x t).2:=by
 unfold sd
 by_cases he:top ns x=t
 ·rw[if_pos he]
  have h0: ¬x<0:=fun hn=>by simp only[top,if_pos hn] at he;omega
  have hx2:=hx.2
  obtain⟨_,_,a,b,c,d,_,e,g⟩:=hN.nod x (by omega) hx.2
  have ht':(nd ns x).1=t:=by simp only[top,if_neg h0] at he;exact he
  refine⟨⟨a,by omega⟩,⟨c,by omega⟩,by rw[←ht'];exact e,by rw[←ht'];exact g,fun v=> ?_⟩
  rw[q43 hN (by omega) hx.2,ht']
 ·rw[if_neg he]
  refine⟨hx,hx,by show t<top ns x;omega,by show t<top ns x;omega,fun v=>by simp⟩
def Kn(ns:List Nd)(m:Nd->Option Int):Prop:= ∀f g h id,m (f,g,h)=some id->(id= -1002/\ns.length=4000)∨(Ok ns f/\Ok ns g/\Ok ns h/\Ok ns id/\Cse ns f g h id/\mtop ns f g h<=top ns id)
theorem Kn.nil(ns:List Nd):Kn ns fun _=>none:=fun _ _ _ _ h=>by cases h
theorem w8k{ns ns':List Nd}(hp:ns<+:ns'){f g h:Int}(hf:Ok ns f)(hg:Ok ns g)(hh:Ok ns h):mtop ns' f g h=mtop ns f g h:=by
 unfold mtop;rw[q81 hp hf.2,q81 hp hg.2,q81 hp hh.2]
theorem Cse.pre{ns ns':List Nd}(hN:Nod ns)(hN':Nod ns')(hp:ns<+:ns'){f g h r:Int}(hf:Ok ns f)(hg:Ok ns g)(hh:Ok ns h)(hr:Ok ns r)(hs:Cse ns f g h r):Cse ns' f g h r:=fun v=>by
 rw[q2g hN hN' hp hf,q2g hN hN' hp hg,q2g hN hN' hp hh,q2g hN hN' hp hr];exact hs v
theorem Kn.pre{ns ns':List Nd}(hN:Nod ns)(hN':Nod ns')(hp:ns<+:ns')(hl:ns'.length<=4000){m:Nd->Option Int}(hK:Kn ns m):Kn ns' m:=fun f g h id hm=>by
 rcases hK f g h id hm with ⟨h1,h2⟩|⟨h1,h2,h3,h4,h5,h6⟩
 ·have:=hp.length_le
  exact .inl ⟨h1,by omega⟩
 ·exact .inr ⟨h1.pre hp,h2.pre hp,h3.pre hp,h4.pre hp,h5.pre hN hN' hp h1 h2 h3 h4,by rw[w8k hp h1 h2 h3,q81 hp h4.2];exact h6⟩
theorem Kn.put{ns:List Nd}{m:Nd->Option Int}(hK:Kn ns m){f g h r:Int}(hr:(r= -1002/\ns.length=4000)∨(Ok ns f/\Ok ns g/\Ok ns h/\Ok ns r/\Cse ns f g h r/\mtop ns f g h<=top ns r)):Kn ns (put m (f,g,h) r):=fun f' g' h' id hm=>by
 unfold Fl.put at hm
 split at hm
 ·rename_i he
  cases hm
  simp only[Prod.mk.injEq] at he
  obtain⟨rfl,rfl,rfl⟩:=he
  exact hr
 ·exact hK f' g' h' id hm
structure Cho(ns:List Nd)(ids:Nd->Option Int)(full:Bool)(f g h:Int)(r:Int)(ns':List Nd)(ids':Nd->Option Int)(full':Bool):Prop where
 grew:Grew ns ids full 4000 ns' ids' full'
 few: ∀b,Tb ns b->Tb ns' b/\ns'.length+1<=ns.length+2 ^ (b - mtop ns f g h).toNat
 res:(r= -1002/\ns'.length=4000)∨(Ok ns' r/\Cse ns' f g h r/\mtop ns f g h<=top ns' r)
end Go.Dg
end
noncomputable section
set_option maxRecDepth 100000
namespace Go.En
open Go Go.Fl Go.Fx Go.Dg
theorem w8l{ns:List Nd}{id:Int}{y:Nd}(h:ns[id.toNat]? =some y):nd ns id=y:=by
 simp[nd,List.getD_eq_getElem?_getD,h]
theorem z3l{ns:List Nd}{ids:Nd->Option Int}{full:Bool}{id:Int}{K:Bool->List Nd->(Nd->Option Int)->Bool->Prop}(h:K (decide (Ok ns id)) ns ids full):Ul ns ids full id K:=by
 unfold Ul
 refine⟨fun h1 _=> ?_,fun h1=> ?_⟩
 ·have:decide (id<(ns.length:Int))=decide (Ok ns id):=decide_eq_decide.2 ⟨fun a=>⟨h1,a⟩,fun a=>a.2⟩
  rw[this];exact h
 ·have:decide (Ok ns id)=false:=decide_eq_false fun a=>h1 a.1
  rw[this] at h;exact h
theorem z1c{ns:List Nd}{ids:Nd->Option Int}{full:Bool}{id:Int}{K:Int->List Nd->(Nd->Option Int)->Bool->Prop}(hi:Ok ns id)(h:K (top ns id) ns ids full):Wb ns ids full id K:=by
 unfold Wb
 refine⟨fun hn=> ?_,fun hn=>⟨⟨by omega,hi.2⟩,fun y hy=> ?_⟩⟩
 ·simp only[top,if_pos hn] at h;exact h
 ·simp only[top,if_neg hn,w8l hy] at h;exact h
theorem j2k{ns:List Nd}{ids:Nd->Option Int}{full:Bool}{id t:Int}{K:Int->Int->List Nd->(Nd->Option Int)->Bool->Prop}(hi:Ok ns id)(ht:t<=1000)(h:K (sd ns id t).1 (sd ns id t).2 ns ids full):Wm ns ids full id t K:=by
 unfold Wm
 refine z1c hi ⟨fun he=> ?_,fun he=> ?_⟩
 ·have h0: ¬id<0:=fun hn=>by simp only[top,if_pos hn] at he;omega
  refine⟨⟨by omega,hi.2⟩,fun y hy=>⟨⟨by omega,hi.2⟩,fun z hz=> ?_⟩⟩
  rw[hy] at hz
  cases hz
  simp only[sd,if_pos he,w8l hy] at h
  exact h
 ·simp only[sd,if_neg he] at h;exact h
theorem w2y{ns:List Nd}{ids:Nd->Option Int}{full:Bool}{t y n:Int}{K:Int->List Nd->(Nd->Option Int)->Bool->Prop}(hl:ns.length<=4000)
  (h:K (node ns ids full t y n).1 (node ns ids full t y n).2.1 (node ns ids full t y n).2.2.1 (node ns ids full t y n).2.2.2):Jh ns ids full t y n K:=by
 unfold Jh
 by_cases hO:z8u ns t y n
 ·obtain⟨h1,h2,h3,h4,h5,h6⟩:=hO
  refine Cnd.no (by omega) (Cnd.no (by omega) (z3l (Cnd.yes (decide_eq_true h3) (z3l (Cnd.yes (decide_eq_true h4) (z1c h3 (Cnd.no (by omega) (z1c h4 (Cnd.no (by omega) ?_)))))))))
  rw[node,if_pos ⟨h1,h2,h3,h4,h5,h6⟩] at h
  refine⟨fun he=> ?_,fun he=> ?_⟩
  ·rw[if_pos he] at h;exact h
  rw[if_neg he] at h
  cases hid:ids (t,y,n) with
  |some id=>rw[hid] at h;exact Cnd.yes rfl h
  |none=>
   rw[hid] at h
   refine Cnd.no (by simp) fun _=>⟨fun hf=> ?_,fun hf=> ?_⟩
   ·rw[if_pos (by omega)] at h;exact h
   rw[if_neg (by omega)] at h
   have hlen:((ns++[(t,y,n)]).length:Int)=ns.length+1:=by simp
   have e1:((ns++[(t,y,n)]).length:Int) - 1=ns.length:=by omega
   have hs:Sml (ns++[(t,y,n)]).length:=by unfold Sml;simp;omega
   have hi:InI (((ns++[(t,y,n)]).length:Int) - 1):=by constructor<;>omega
   exact fun _=>⟨hs,fun _=>⟨hi,by rw[e1];exact h⟩⟩
 ·rw[w2x hO] at h
  refine⟨fun _=>h,fun h1=>⟨fun _=>h,fun h2=>z3l ⟨fun h3=>z3l ⟨fun h4=>z1c (of_decide_eq_true h3) ⟨fun _=>h,fun h5=>z1c (of_decide_eq_true h4) ⟨fun _=>h,fun h6=> ?_⟩⟩,fun _=>h⟩,fun _=>h⟩⟩⟩
  exact absurd ⟨by omega,by omega,of_decide_eq_true h3,of_decide_eq_true h4,by omega,by omega⟩ hO
theorem j8w{X:List Nd->(Nd->Option Int)->Bool->Int->Int->Int->(Nd->Option Int)->(Int->List Nd->(Nd->Option Int)->Bool->(Nd->Option Int)->Prop)->Prop}{ns:List Nd}{ids:Nd->Option Int}{full:Bool}{f g h:Int}{m:Nd->Option Int}{K:Int->List Nd->(Nd->Option Int)->Bool->(Nd->Option Int)->Prop}(hI:Inv ns ids)(hl:ns.length<=4000)(_:Ok ns f)(hg:Ok ns g)(hh:Ok ns h)(hc:Cond ns f)(hm:Kn ns m)(hn:f<0)
  (hK: ∀r ns' ids' full' m',Cho ns ids full f g h r ns' ids' full'->Kn ns' m'->K r ns' ids' full' m'):V4 Wb Wm Jh X ns ids full f g h m K:=by
 have hc0:=hc fun _=>true
 rw[q6h hn] at hc0
 have mk: ∀r,((f= -2/\r=g)∨(f= -1/\r=h))->Cho ns ids full f g h r ns ids full:=by
  rintro r hr
  refine⟨.refl hI hl _,fun b hb=>⟨hb,by have:=Nat.two_pow_pos ((b - mtop ns f g h).toNat);omega⟩,.inr ?_⟩
  rcases hr with ⟨h1,rfl⟩|⟨h1,rfl⟩
  ·exact⟨hg,fun v=>by rw[q6h (id:=f) hn,if_pos (by omega)],by unfold mtop;omega⟩
  ·exact⟨hh,fun v=>by rw[q6h (id:=f) hn,if_neg (by omega)],by unfold mtop;omega⟩
 unfold V4
 refine⟨fun he=>hK _ _ _ _ _ (mk g (.inl ⟨he,rfl⟩)) hm,fun he=>⟨fun hgh=> ?_,fun hgh=>⟨fun he'=>hK _ _ _ _ _ (mk h (.inr ⟨he',rfl⟩)) hm,fun he'=>absurd hc0 (by omega)⟩⟩⟩
 exact hK _ _ _ _ _ (mk g (.inr ⟨by omega,hgh⟩)) hm
theorem w4v: ∀(ns:List Nd) (ids:Nd->Option Int) (full:Bool) (f g h:Int) (m:Nd->Option Int) (K:Int->List Nd->(Nd->Option Int)->Bool->(Nd->Option Int)->Prop),Inv ns ids->ns.length<=4000->Ok ns f->Ok ns g->Ok ns h->Cond ns f->Kn ns m->
  (∀r ns' ids' full' m',Cho ns ids full f g h r ns' ids' full'->Kn ns' m'->K r ns' ids' full' m')->G6 ns ids full f g h m K:=by
 intro ns ids full f g h m K hI hl hf hg hh hc hm hK X hX
 have key: ∀(k:Nat) (ns:List Nd) (ids:Nd->Option Int) (full:Bool) (f g h:Int) (m:Nd->Option Int) (K:Int->List Nd->(Nd->Option Int)->Bool->(Nd->Option Int)->Prop),(1001 - mtop ns f g h).toNat<=k->Inv ns ids->ns.length<=4000->Ok ns f->Ok ns g->Ok ns h->Cond ns f->Kn ns m->
   (∀r ns' ids' full' m',Cho ns ids full f g h r ns' ids' full'->Kn ns' m'->K r ns' ids' full' m')->X ns ids full f g h m K:=by
  intro k
  induction k with
  |zero=>
   intro ns ids full f g h m K hk hI hl hf hg hh hc hm hK
   refine hX _ _ _ _ _ _ _ _ ?_
   have ht:=(w2v hI.nod hf.2)
   have hn:f<0:=by
    refine Int.not_le.1 fun h0=> ?_
    have:=ht.2.2 h0
    unfold mtop at hk;omega
   exact j8w hI hl hf hg hh hc hm hn hK
  |succ k ih=>
   intro ns ids full f g h m K hk hI hl hf hg hh hc hm hK
   refine hX _ _ _ _ _ _ _ _ ?_
   by_cases hn:f<0
   ·exact j8w hI hl hf hg hh hc hm hn hK
   have same: ∀r,(g=h/\r=g)->Cho ns ids full f g h r ns ids full:=by
    rintro r ⟨rfl,rfl⟩
    exact⟨.refl hI hl _,fun b hb=>⟨hb,by have:=Nat.two_pow_pos ((b - mtop ns f r r).toNat);omega⟩,.inr ⟨hg,fun v=>by simp,by unfold mtop;omega⟩⟩
   unfold V4
   refine Cnd.no (by omega) ⟨fun hgh=>hK _ _ _ _ _ (same g ⟨hgh,rfl⟩) hm,fun hgh=>Cnd.no (by omega) ⟨fun hs=> ?_,fun _=> ?_⟩⟩
   ·obtain⟨id,hid⟩:=Option.isSome_iff_exists.1 hs
    rw[hid]
    refine hK _ _ _ _ _ ⟨.refl hI hl _,fun b hb=>⟨hb,by have:=Nat.two_pow_pos ((b - mtop ns f g h).toNat);omega⟩,?_⟩ hm
    rcases hm f g h id hid with h1|⟨_,_,_,h4,h5,h6⟩
    ·exact .inl h1
    ·exact .inr ⟨h4,h5,h6⟩
   have t0:=w2v hI.nod hf.2
   have t1:=w2v hI.nod hg.2
   have t2:=w2v hI.nod hh.2
   have hft:=t0.2.2 (by omega)
   have ht:mtop ns f g h<=1000:=by unfold mtop;omega
   have ht0:0<=mtop ns f g h:=by unfold mtop;omega
   refine z1c hf (z1c hg (z1c hh ?_))
   rw[show min (min (top ns f) (top ns g)) (top ns h)=mtop ns f g h from rfl]
   refine j2k hf ht (j2k hg ht (j2k hh ht ?_))
   obtain⟨fa,fb,fc,fd,fe⟩:=v4b hI.nod hf ht (by unfold mtop;omega)
   obtain⟨ga,gb,gc,gd,ge⟩:=v4b hI.nod hg ht (by unfold mtop;omega)
   obtain⟨ha,hb,hc',hd,he⟩:=v4b hI.nod hh ht (by unfold mtop;omega)
   have cy:Cond ns (sd ns f (mtop ns f g h)).1:=fun v=>by
    have:=hc (setB v (mtop ns f g h) true)
    rw[fe] at this
    simp only[setB,if_true] at this
    rw[w2w hI.nod fa fc] at this
    exact this
   have cn:Cond ns (sd ns f (mtop ns f g h)).2:=fun v=>by
    have:=hc (setB v (mtop ns f g h) false)
    rw[fe] at this
    simp only[setB,if_true,Bool.false_eq_true,if_false] at this
    rw[w2w hI.nod fb fd] at this
    exact this
   have hty:mtop ns f g h<mtop ns (sd ns f (mtop ns f g h)).1 (sd ns g (mtop ns f g h)).1 (sd ns h (mtop ns f g h)).1:=by
    show _<min (min _ _) _;omega
   have htn:mtop ns f g h<mtop ns (sd ns f (mtop ns f g h)).2 (sd ns g (mtop ns f g h)).2 (sd ns h (mtop ns f g h)).2:=by
    show _<min (min _ _) _;omega
   refine ih _ _ _ _ _ _ _ _ (by omega) hI hl fa ga ha cy hm fun r1 ns1 ids1 full1 m1 C1 hm1=> ?_
   have hp1:=C1.grew.pre
   have hN1:=C1.grew.inv.nod
   have htn1:mtop ns1 (sd ns f (mtop ns f g h)).2 (sd ns g (mtop ns f g h)).2 (sd ns h (mtop ns f g h)).2=mtop ns (sd ns f (mtop ns f g h)).2 (sd ns g (mtop ns f g h)).2 (sd ns h (mtop ns f g h)).2:=w8k hp1 fb gb hb
   refine ih _ _ _ _ _ _ _ _ (by rw[htn1];omega) C1.grew.inv C1.grew.len (fb.pre hp1) (gb.pre hp1) (hb.pre hp1) (fun v=>by rw[q2g hI.nod hN1 hp1 fb];exact cn v) hm1 fun r2 ns2 ids2 full2 m2 C2 hm2=> ?_
   have hp2:=C2.grew.pre
   have hN2:=C2.grew.inv.nod
   have hp:=hp1.trans hp2
   have few2: ∀b,Tb ns b->Tb ns2 b/\ns2.length+2<=ns.length+2 ^ (b - mtop ns f g h).toNat:=fun b hb0=>by
    obtain⟨a1,a2⟩:=C1.few b hb0
    obtain⟨a3,a4⟩:=C2.few b a1
    rw[htn1] at a4
    have hlt:mtop ns f g h<b:=by
     have hq:=hb0 f (by omega) hf.2
     have:top ns f=(nd ns f).1:=by simp only[top,if_neg hn]
     unfold mtop;omega
    refine⟨a3,?_⟩
    have e:2 ^ (b - mtop ns f g h).toNat=2*2 ^ (b - mtop ns f g h - 1).toNat:=by
     rw[show (b - mtop ns f g h).toNat=(b - mtop ns f g h - 1).toNat+1 by omega,Nat.pow_succ];omega
    have p1:=Nat.pow_le_pow_right (show 0<2 by omega) (show (b - mtop ns (sd ns f (mtop ns f g h)).1 (sd ns g (mtop ns f g h)).1 (sd ns h (mtop ns f g h)).1).toNat<=(b - mtop ns f g h - 1).toNat by omega)
    have p2:=Nat.pow_le_pow_right (show 0<2 by omega) (show (b - mtop ns (sd ns f (mtop ns f g h)).2 (sd ns g (mtop ns f g h)).2 (sd ns h (mtop ns f g h)).2).toNat<=(b - mtop ns f g h - 1).toNat by omega)
    omega
   have gr2:Grew ns ids full 4000 ns2 ids2 full2:=by
    have:=C1.grew.trans C2.grew (Nat.le_refl _)
    exact⟨this.inv,this.pre,this.len,this.room,by have:=this.len;omega⟩
   have bad:ns2.length=4000->Cho ns ids full f g h (-1002) ns2 ids2 full2:=fun hb0=>⟨gr2,fun b hb1=>⟨(few2 b hb1).1,by have:=(few2 b hb1).2;omega⟩,.inl ⟨rfl,hb0⟩⟩
   have full1:r1= -1002->ns2.length=4000:=fun e=>by
    rcases C1.res with h1|h1
    ·have:=hp2.length_le
     have:=C2.grew.len
     omega
    ·have:=h1.1.1;omega
   have full2':r2= -1002->ns2.length=4000:=fun e=>by
    rcases C2.res with h1|h1
    ·exact h1.2
    ·have:=h1.1.1;omega
   have hbad:ns2.length=4000->Kn ns2 (Fl.put m2 (f,g,h) (-1002)):=fun hb0=>hm2.put (.inl ⟨rfl,hb0⟩)
   refine Jn4.mk (fun a b c d=>K a b d c (put m2 (f,g,h) a)) ?_ fun _ _ _ _ h=>h
   refine⟨fun e1=>hK _ _ _ _ _ (bad (full1 e1)) (hbad (full1 e1)),fun e1=>⟨fun e2=>hK _ _ _ _ _ (bad (full2' e2)) (hbad (full2' e2)),fun e2=> ?_⟩⟩
   have o1:Ok ns1 r1/\Cse ns1 (sd ns f (mtop ns f g h)).1 (sd ns g (mtop ns f g h)).1 (sd ns h (mtop ns f g h)).1 r1/\mtop ns (sd ns f (mtop ns f g h)).1 (sd ns g (mtop ns f g h)).1 (sd ns h (mtop ns f g h)).1<=top ns1 r1:=by
    rcases C1.res with h1|h1
    ·exact absurd h1.1 e1
    ·exact h1
   have o2:Ok ns2 r2/\Cse ns2 (sd ns f (mtop ns f g h)).2 (sd ns g (mtop ns f g h)).2 (sd ns h (mtop ns f g h)).2 r2/\mtop ns1 (sd ns f (mtop ns f g h)).2 (sd ns g (mtop ns f g h)).2 (sd ns h (mtop ns f g h)).2<=top ns2 r2:=by
    rcases C2.res with h1|h1
    ·exact absurd h1.1 e2
    ·exact h1
   have o1t:top ns2 r1=top ns1 r1:=q81 hp2 o1.1.2
   have hO:z8u ns2 (mtop ns f g h) r1 r2:=⟨ht0,ht,o1.1.pre hp2,o2.1,by rw[o1t];have:=o1.2.2;omega,by have:=o2.2.2;rw[htn1] at this;omega⟩
   refine w2y C2.grew.len ?_
   obtain⟨hg3,htb,hres⟩:=w8j C2.grew.inv C2.grew.len hO (r:=(node ns2 ids2 full2 (mtop ns f g h) r1 r2).1) (ns':=(node ns2 ids2 full2 (mtop ns f g h) r1 r2).2.1) (ids':=(node ns2 ids2 full2 (mtop ns f g h) r1 r2).2.2.1) (full':=(node ns2 ids2 full2 (mtop ns f g h) r1 r2).2.2.2) rfl
   generalize (node ns2 ids2 full2 (mtop ns f g h) r1 r2).1=r3 at hg3 htb hres
   generalize (node ns2 ids2 full2 (mtop ns f g h) r1 r2).2.1=ns3 at hg3 htb hres
   generalize (node ns2 ids2 full2 (mtop ns f g h) r1 r2).2.2.1=ids3 at hg3 htb hres
   generalize (node ns2 ids2 full2 (mtop ns f g h) r1 r2).2.2.2=full3 at hg3 htb hres
   have hp3:=hp.trans hg3.pre
   have hN3:=hg3.inv.nod
   have hr3:(r3= -1002/\ns3.length=4000)∨(Ok ns3 r3/\Cse ns3 f g h r3/\mtop ns f g h<=top ns3 r3):=by
    rcases hres with h1|⟨_,h1,h2,h3⟩
    ·exact .inl ⟨h1.1,h1.2.1⟩
    ·refine .inr ⟨h1,fun v=> ?_,h2⟩
     rw[h3,q2g hI.nod hN3 hp3 hf,q2g hI.nod hN3 hp3 hg,q2g hI.nod hN3 hp3 hh,fe,ge,he]
     cases v (mtop ns f g h) with
     |true=>
      simp only[if_true]
      rw[q2g hN1 hN2 hp2 o1.1,o1.2.1,q2g hI.nod hN1 hp1 fa,q2g hI.nod hN1 hp1 ga,q2g hI.nod hN1 hp1 ha]
     |false=>
      simp only[Bool.false_eq_true,if_false]
      rw[o2.2.1,q2g hI.nod hN2 hp fb,q2g hI.nod hN2 hp gb,q2g hI.nod hN2 hp hb]
   have hcho:Cho ns ids full f g h r3 ns3 ids3 full3:=by
    refine⟨?_,fun b hb0=>⟨?_,?_⟩,hr3⟩
    ·have:=gr2.trans hg3 (Nat.le_refl _)
     exact⟨this.inv,this.pre,this.len,this.room,by have:=this.len;omega⟩
    ·have hlt:mtop ns f g h<b:=by
      have hq:=hb0 f (by omega) hf.2
      have:top ns f=(nd ns f).1:=by simp only[top,if_neg hn]
      unfold mtop;omega
     exact htb b (few2 b hb0).1 hlt
    ·have:=(few2 b hb0).2
     have:=hg3.most
     omega
   refine hK _ _ _ _ _ hcho (Kn.put (hm2.pre hN2 hN3 hg3.pre hg3.len) ?_)
   rcases hr3 with h1|⟨h1,h2,h3⟩
   ·exact .inl h1
   ·exact .inr ⟨hf.pre hp3,hg.pre hp3,hh.pre hp3,h1,h2,by rw[w8k hp3 hf hg hh];exact h3⟩
 exact key _ ns ids full f g h m K (Nat.le_refl _) hI hl hf hg hh hc hm hK
inductive Rch(ns:List Nd):Int->Int->Prop
 |self (a:Int):Rch ns a a
 |yes {a x:Int}:0<=a->Rch ns (nd ns a).2.1 x->Rch ns a x
 |no {a x:Int}:0<=a->Rch ns (nd ns a).2.2 x->Rch ns a x
theorem Rch.step{ns:List Nd}{a b c:Int}(h:Rch ns a b)(k:Rch ns b c):Rch ns a c:=by
 induction h with
 |self=>exact k
 |yes h0 _ ih=>exact .yes h0 (ih k)
 |no h0 _ ih=>exact .no h0 (ih k)
theorem kids{ns:List Nd}(hN:Nod ns){a:Int}(h:Ok ns a)(h0:0<=a):Ok ns (nd ns a).2.1/\Ok ns (nd ns a).2.2/\(nd ns a).2.1<a/\(nd ns a).2.2<a:=by
 have h2:=h.2
 obtain⟨_,_,a1,a2,a3,a4,_⟩:=hN.nod a h0 h.2
 exact⟨⟨a1,by omega⟩,⟨a3,by omega⟩,a2,a4⟩
theorem Rch.ok{ns:List Nd}(hN:Nod ns){a x:Int}(h:Rch ns a x):Ok ns a->Ok ns x:=by
 induction h with
 |self=>exact id
 |yes h0 _ ih=>exact fun h=>ih (kids hN h h0).1
 |no h0 _ ih=>exact fun h=>ih (kids hN h h0).2.1
def Tr(F:Int->Option Bool):Prop:= ∀x,F x=none∨F x=some true
theorem Tr.get{F:Int->Option Bool}(h:Tr F){x:Int}:(F x).getD false=true↔(F x).isSome=true:=by
 rcases h x with e|e<;>simp[e]
theorem Tr.nil:Tr fun _=>none:=fun _=> .inl rfl
theorem Tr.put{F:Int->Option Bool}(h:Tr F)(x:Int):Tr (put F x true):=fun y=>by
 unfold Fl.put
 split
 ·exact .inr rfl
 ·exact h y
theorem Rf{F:Int->Option Bool}{x y:Int}:(put F x true y).isSome=true↔y=x∨(F y).isSome=true:=by
 unfold Fl.put
 split
 ·rename_i h;simp[h]
 ·rename_i h;simp[h]
theorem Rch.sub{ns:List Nd}{F:Int->Option Bool}{id x:Int}(h:Rch ns id x)(i:(F id).isSome=true)(c: ∀x,(F x).isSome=true->0<=x->(F (nd ns x).2.1).isSome=true/\(F (nd ns x).2.2).isSome=true):(F x).isSome=true:=by
 induction h with
 |self=>exact i
 |yes h0 _ ih=>exact ih (c _ i h0).1
 |no h0 _ ih=>exact ih (c _ i h0).2
def Rc(ns:List Nd)(id:Int)(F:Int->Option Bool):Prop:=Tr F/\ ∀x,(F x).isSome=true↔Rch ns id x
def univ(ns:List Nd):List Int:=(List.range (ns.length+1001)).map fun (i:Nat)=>(i:Int) - 1001
def left(ns:List Nd)(F:Int->Option Bool):Nat:=(univ ns).countP fun x=>(F x).isNone
theorem v05{ns:List Nd}{x:Int}(h:Ok ns x):x∈univ ns:=by
 obtain⟨h1,h2⟩:=h
 exact List.mem_map.2 ⟨(x+1001).toNat,List.mem_range.2 (by omega),by omega⟩
theorem w8m{l:List Int}{F:Int->Option Bool}{x:Int}(hx:x∈l)(hn:F x=none):(l.countP fun y=>(put F x true y).isNone)<l.countP fun y=>(F y).isNone:=by
 induction l with
 |nil=>cases hx
 |cons a l ih=>
  have le:(l.countP fun y=>(put F x true y).isNone)<=l.countP fun y=>(F y).isNone:=by
   refine List.countP_mono_left fun y _ h=> ?_
   unfold Fl.put at h
   split at h
   ·cases h
   ·exact h
  rw[List.countP_cons,List.countP_cons]
  by_cases ha:a=x
  ·subst ha
   simp only[Fl.put,if_true,Option.isNone_some,Bool.false_eq_true,if_false,hn,Option.isNone_none]
   simp only[Fl.put] at le
   omega
  ·have:=ih ((List.mem_cons.1 hx).resolve_left fun e=>ha e.symm)
   have e:put F x true a=F a:=by simp[Fl.put,ha]
   rw[e]
   omega
theorem v06{ns:List Nd}{F:Int->Option Bool}{x:Int}(h:Ok ns x)(hn:F x=none):left ns (put F x true)<left ns F:=w8m (v05 h) hn
theorem v4c{ns:List Nd}{F:Int->Option Bool}:left ns F<=ns.length+1001:=by
 have:=List.countP_le_length (p:=fun x=>(F x).isNone) (l:=univ ns)
 simpa [left,univ] using this
theorem w8n{ns:List Nd}{ids:Nd->Option Int}{full:Bool}{id:Int}{K:(Int->Option Bool)->List Nd->(Nd->Option Int)->Bool->Prop}(hN:Nod ns)(hl:ns.length<=4000)(hid:Ok ns id)(h: ∀F,Rc ns id F->K F ns ids full):
  H3 ns ids full id K:=by
 unfold H3
 refine Lp2.ind (fun todo F=>Tr F/\(∀x∈todo,Ok ns x/\Rch ns id x)/\(∀x,(F x).isSome=true->Ok ns x/\Rch ns id x)/\((F id).isSome=true∨id∈todo)/\
  (∀x,(F x).isSome=true->0<=x->((F (nd ns x).2.1).isSome=true∨(nd ns x).2.1∈todo)/\((F (nd ns x).2.2).isSome=true∨(nd ns x).2.2∈todo))/\todo.length+3*left ns F<=15004)
  (fun todo F=>todo.length+3*left ns F) (fun todo F hI _=> ?_) ⟨Tr.nil,by simpa using ⟨hid,.self _⟩,by simp,.inr (by simp),by simp,by have:=v4c (ns:=ns) (F:=fun _=>none);simp;omega⟩
 obtain⟨i1,i2,i3,i4,i5,i6⟩:=hI
 refine⟨fun hpos=>fun _=>⟨⟨by omega,by omega⟩,⟨by omega,by omega⟩,fun y hy _=>⟨⟨by omega,by omega⟩,⟨by omega,by omega⟩,?_⟩⟩,fun hpos=> ?_⟩
 ·have ht:((todo.length:Int) - 1).toNat=todo.length - 1:=by omega
  rw[ht] at hy⊢
  have hne:todo≠[]:=fun e=>by subst e;simp at hpos
  have hsp:todo=todo.take (todo.length - 1)++[y]:=by
   have h1:todo.getLast hne=y:=by
    rw[List.getLast_eq_getElem]
    rw[List.getElem?_eq_getElem (by omega)] at hy
    exact Option.some.inj hy
   rw[←h1,←List.dropLast_eq_take,List.dropLast_concat_getLast]
  generalize hA:todo.take (todo.length - 1)=A at hsp⊢
  have hlen:todo.length=A.length+1:=by rw[hsp];simp
  obtain⟨hy1,hy2⟩:=i2 y (by rw[hsp];simp)
  have sub: ∀x,x∈todo->x∈A∨x=y:=fun x hx=>by rw[hsp] at hx;simpa using hx
  refine⟨fun hs=>⟨⟨i1,fun x hx=>i2 x (by rw[hsp];simp[hx]),i3,?_,fun x hx h0=> ?_,by omega⟩,by omega⟩,fun hs=> ?_⟩
  ·have hs:=(i1.get).1 hs
   rcases i4 with h|h
   ·exact .inl h
   ·rcases sub _ h with h|rfl
    ·exact .inr h
    ·exact .inl hs
  ·have hs:=(i1.get).1 hs
   obtain⟨a,b⟩:=i5 x hx h0
   refine⟨a.elim .inl fun h=> ?_,b.elim .inl fun h=> ?_⟩
   ·rcases sub _ h with h|h
    ·exact .inr h
    ·exact .inl (by rw[h];exact hs)
   ·rcases sub _ h with h|h
    ·exact .inr h
    ·exact .inl (by rw[h];exact hs)
  ·have hn:F y=none:=by
    rcases i1 y with e|e
    ·exact e
    ·rw[e] at hs;simp at hs
   have hlt:=v06 hy1 hn
   refine⟨fun h0=>⟨⟨h0,hy1.2⟩,fun z hz=>⟨⟨h0,hy1.2⟩,fun z' hz'=> ?_⟩⟩,fun h0=>⟨⟨i1.put y,fun x hx=>i2 x (by rw[hsp];simp[hx]),fun x hx=> ?_,?_,fun x hx hx0=> ?_,by omega⟩,by omega⟩⟩
   ·rw[hz] at hz'
    cases hz'
    have ez:=w8l hz
    obtain⟨k1,k2,_⟩:=kids hN hy1 h0
    rw[ez] at k1 k2
    refine⟨by unfold Sml;simp;omega,⟨i1.put y,fun x hx=> ?_,fun x hx=> ?_,?_,fun x hx hx0=> ?_,by simp;omega⟩,by simp;omega⟩
    ·simp only[List.mem_append,List.mem_cons,List.not_mem_nil,or_false] at hx
     rcases hx with hx|rfl|rfl
     ·exact i2 x (by rw[hsp];simp[hx])
     ·exact⟨k1,hy2.step (.yes h0 (by rw[ez];exact .self _))⟩
     ·exact⟨k2,hy2.step (.no h0 (by rw[ez];exact .self _))⟩
    ·rcases Rf.1 hx with rfl|hx
     ·exact⟨hy1,hy2⟩
     ·exact i3 x hx
    ·rcases i4 with h|h
     ·exact .inl (Rf.2 (.inr h))
     ·rcases sub _ h with h|rfl
      ·exact .inr (by simp[h])
      ·exact .inl (Rf.2 (.inl rfl))
    ·have mv: ∀q,(F q).isSome=true∨q∈todo->(put F y true q).isSome=true∨q∈A++[z.2.1,z.2.2]:=fun q hq=>by
      rcases hq with h|h
      ·exact .inl (Rf.2 (.inr h))
      ·rcases sub _ h with h|rfl
       ·exact .inr (by simp[h])
       ·exact .inl (Rf.2 (.inl rfl))
     rcases Rf.1 hx with rfl|hx
     ·rw[ez];exact⟨.inr (by simp),.inr (by simp)⟩
     ·obtain⟨a,b⟩:=i5 x hx hx0
      exact⟨mv _ a,mv _ b⟩
   ·rcases Rf.1 hx with rfl|hx
    ·exact⟨hy1,hy2⟩
    ·exact i3 x hx
   ·rcases i4 with h|h
    ·exact .inl (Rf.2 (.inr h))
    ·rcases sub _ h with h|rfl
     ·exact .inr h
     ·exact .inl (Rf.2 (.inl rfl))
   ·have mv: ∀q,(F q).isSome=true∨q∈todo->(put F y true q).isSome=true∨q∈A:=fun q hq=>by
     rcases hq with h|h
     ·exact .inl (Rf.2 (.inr h))
     ·rcases sub _ h with h|rfl
      ·exact .inr h
      ·exact .inl (Rf.2 (.inl rfl))
    rcases Rf.1 hx with rfl|hx
    ·exact absurd hx0 h0
    ·obtain⟨a,b⟩:=i5 x hx hx0
     exact⟨mv _ a,mv _ b⟩
 ·have hnil:todo=[]:=List.eq_nil_of_length_eq_zero (by omega)
  subst hnil
  refine h F ⟨i1,fun x=>⟨fun hx=>(i3 x hx).2,fun hx=> ?_⟩⟩
  have i4:(F id).isSome=true:=i4.resolve_right (by simp)
  exact hx.sub i4 fun x hx h0=>⟨(i5 x hx h0).1.resolve_right (by simp),(i5 x hx h0).2.resolve_right (by simp)⟩
theorem w2z{α:Type}[DecidableEq α]{l l':List α}(h:l.Nodup)(hs: ∀x∈l,x∈l'):l.length<=l'.length:=by
 induction l generalizing l' with
 |nil=>simp
 |cons a l ih=>
  rw[List.nodup_cons] at h
  have:=ih (l':=l'.erase a) h.2 fun x hx=>by
   have hne:x≠a:=fun e=>h.1 (e▸hx)
   exact (List.mem_erase_of_ne hne).2 (hs x (by simp[hx]))
  rw[List.length_erase_of_mem (hs a (by simp))] at this
  have hp:=List.length_pos_of_mem (hs a (by simp))
  simp only[List.length_cons]
  omega
def Lvs(ns:List Nd)(id:Int)(l:List Int):Prop:=l.Pairwise (· < ·)/\ ∀n,n∈l↔Ok ns id/\0<=n/\Rch ns id (-1 - n)
theorem w4w{ns:List Nd}{ids:Nd->Option Int}{full:Bool}{id:Int}{K:List Int->List Nd->(Nd->Option Int)->Bool->Prop}(hN:Nod ns)(hl:ns.length<=4000)(h: ∀l,Lvs ns id l->K l ns ids full):G5 ns ids full id K:=by
 unfold G5
 by_cases hid:Ok ns id
 ·refine z3l (Cnd.yes (decide_eq_true hid) (w8n hN hl hid fun F hF=> ?_))
  refine Lp2.ind (fun l n=>0<=n/\n<=1001/\l.length<=n/\l.Pairwise (· < ·)/\ ∀x,x∈l↔0<=x/\x<n/\Rch ns id (-1 - x)) (fun _ n=>(1001 - n).toNat) (fun l n hI=> ?_) ⟨by omega,by omega,by simp,by simp,fun x=>by simp;omega⟩
  obtain⟨h0,h1,h2,h3,h4⟩:=hI
  refine⟨fun hn=>⟨⟨by omega,by omega⟩,fun hs=> ?_,fun hs=> ?_⟩,fun hn=> ?_⟩
  ·have hs:=(hF.2 _).1 ((hF.1.get).1 hs)
   refine⟨by unfold Sml;simp;omega,⟨by omega,by omega⟩,⟨by omega,by omega,by simp;omega,?_,fun x=> ?_⟩,by omega⟩
   ·rw[List.pairwise_append]
    exact⟨h3,by simp,fun a ha b hb=>by simp at hb;subst hb;exact ((h4 a).1 ha).2.1⟩
   ·simp only[List.mem_append,List.mem_singleton,h4]
    constructor
    ·rintro (⟨a,b,c⟩|rfl)
     ·exact⟨a,by omega,c⟩
     ·exact⟨h0,by omega,hs⟩
    ·rintro⟨a,b,c⟩
     by_cases hx:x=n
     ·exact .inr hx
     ·exact .inl ⟨a,by omega,c⟩
  ·have hs: ¬Rch ns id (-1 - n):=fun hr=>hs ((hF.1.get).2 ((hF.2 _).2 hr))
   refine⟨⟨by omega,by omega⟩,⟨by omega,by omega,by omega,h3,fun x=> ?_⟩,by omega⟩
   rw[h4]
   constructor
   ·rintro⟨a,b,c⟩;exact⟨a,by omega,c⟩
   ·rintro⟨a,b,c⟩
    refine⟨a,?_,c⟩
    by_cases hx:x=n
    ·subst hx;exact absurd c hs
    ·omega
  ·refine h l ⟨h3,fun x=> ?_⟩
   rw[h4]
   constructor
   ·rintro⟨a,_,c⟩;exact⟨hid,a,c⟩
   ·rintro⟨_,a,c⟩
    have:=(c.ok hN hid).1
    exact⟨a,by omega,c⟩
 ·exact z3l (Cnd.no (by simpa using hid) (h [] ⟨by simp,fun n=>by simp[hid]⟩))
theorem w22{ns:List Nd}(hN:Nod ns){id:Int}(hid:Ok ns id)(n:Int)(hn:0<=n):Rch ns id (-1 - n)↔ ∃v,ev ns v id=n:=by
 constructor
 ·intro h
  generalize hx: -1 - n=x at h
  induction h with
  |self a=>exact⟨fun _=>true,by rw[q6h (by omega)];omega⟩
  | @yes a x h0 _ ih=>
   obtain⟨v,hv⟩:=ih (kids hN hid h0).1 hx
   exact⟨setB v (nd ns a).1 true,by rw[v59 hN h0 hid.2];exact hv⟩
  | @no a x h0 _ ih=>
   obtain⟨v,hv⟩:=ih (kids hN hid h0).2.1 hx
   exact⟨setB v (nd ns a).1 false,by rw[v79 hN h0 hid.2];exact hv⟩
 ·rintro⟨v,hv⟩
  revert hv
  refine ind hN (p:=fun id=>ev ns v id=n->Rch ns id (-1 - n)) (fun id h1 h2 he=> ?_) (fun id h1 h2 i1 i2 he=> ?_) hid
  ·rw[q6h h2] at he
   rw[show -1 - n=id by omega];exact .self _
  ·rw[q43 hN h1 h2] at he
   split at he
   ·exact .yes h1 (i1 he)
   ·exact .no h1 (i2 he)
theorem w8o{ns:List Nd}(hN:Nod ns){id:Int}(hid:Ok ns id)(v:Int->Bool):0<=ev ns v id:=by
 refine ind hN (p:=fun id=>0<=ev ns v id) (fun id h1 h2=> ?_) (fun id h1 h2 i1 i2=> ?_) hid
 ·rw[q6h h2];omega
 ·rw[q43 hN h1 h2];split<;>assumption
theorem v07{ns:List Nd}(hN:Nod ns){id:Int}(hid:Ok ns id){l:List Int}(hl:Lvs ns id l):Cond ns id↔ ∀n∈l,n<=1:=by
 constructor
 ·intro h n hn
  obtain⟨_,h0,hr⟩:=(hl.2 n).1 hn
  obtain⟨v,hv⟩:=(w22 hN hid n h0).1 hr
  have:=h v
  omega
 ·intro h v
  have h0:=w8o hN hid v
  have:=h (ev ns v id) ((hl.2 _).2 ⟨hid,h0,(w22 hN hid _ h0).2 ⟨v,rfl⟩⟩)
  omega
def OpR(p:Prop)(ns:List Nd)(ids:Nd->Option Int)(full:Bool)(f g h r:Int)(ns':List Nd)(ids':Nd->Option Int)(full':Bool):Prop:=
 (p/\Cho ns ids full f g h r ns' ids' full')∨(¬p/\r= -1002/\ns'=ns/\ids'=ids/\full'=full)
def ChR(ns:List Nd)(ids:Nd->Option Int)(full:Bool)(f g h r:Int)(ns':List Nd)(ids':Nd->Option Int)(full':Bool):Prop:=
 (Ok ns f/\Cond ns f/\Ok ns g/\Ok ns h/\Cho ns ids full f g h r ns' ids' full')∨(¬(Ok ns f/\Cond ns f/\Ok ns g/\Ok ns h)/\r= -1002/\ns'=ns/\ids'=ids/\full'=full)
theorem j6d{ns:List Nd}{ids:Nd->Option Int}{full:Bool}{id:Int}{K:Bool->List Nd->(Nd->Option Int)->Bool->Prop}(hN:Nod ns)(hl:ns.length<=4000)(h: ∀b,(b=true↔Ok ns id/\Cond ns id)->K b ns ids full):J0 ns ids full id K:=by
 unfold J0
 by_cases hid:Ok ns id
 ·refine z3l (Cnd.yes (decide_eq_true hid) (w4w hN hl fun l hL=> ?_))
  have hc:=v07 hN hid hL
  refine Lp1.ind (fun i:Int=>0<=i/\i<=l.length/\ ∀j:Nat,j<i.toNat-> ∀n,l[j]? =some n->n<=1) (fun i:Int=>l.length - i.toNat) (fun i hi hlen=> ?_) ⟨by omega,by omega,fun j hj=>by omega⟩
  obtain⟨h0,h1,h2⟩:=hi
  refine⟨fun hlt=>⟨⟨h0,hlt⟩,fun y hy=>⟨fun h3=>h false ⟨fun e=>(by cases e),fun a=> ?_⟩,fun h3=>⟨⟨by omega,by omega⟩,⟨by omega,by omega,fun j hj n hn=> ?_⟩,by omega⟩⟩⟩,fun hlt=>h true ⟨fun _=>⟨hid,hc.2 fun n hn=> ?_⟩,fun _=>rfl⟩⟩
  ·have:=hc.1 a.2 y (List.mem_of_getElem? hy);omega
  ·by_cases hji:j=i.toNat
   ·subst hji;rw[hy] at hn;cases hn;omega
   ·exact h2 j (by omega) n hn
  ·obtain⟨j,hj⟩:=List.mem_iff_getElem?.1 hn
   exact h2 j (by have:=(List.getElem?_eq_some_iff.1 hj).1;omega) n hj
 ·exact z3l (Cnd.no (by simpa using hid) (h false ⟨fun e=>(by cases e),fun a=>absurd a.1 hid⟩))
theorem z8g{ns:List Nd}{ids:Nd->Option Int}{full:Bool}{f g h:Int}{K:Int->List Nd->(Nd->Option Int)->Bool->Prop}(hI:Inv ns ids)(hl:ns.length<=4000)
  (hK: ∀r ns' ids' full',ChR ns ids full f g h r ns' ids' full'->K r ns' ids' full'):Wz ns ids full f g h K:=by
 unfold Wz
 refine j6d hI.nod hl fun b hb=>⟨fun hbt=> ?_,fun hbt=> ?_⟩
 ·obtain⟨hf,hc⟩:=hb.1 hbt
  refine z3l ⟨fun hg=>z3l ⟨fun hh=> ?_,fun hh=> ?_⟩,fun hg=> ?_⟩
  ·exact w4v _ _ _ _ _ _ _ _ hI hl hf (of_decide_eq_true hg) (of_decide_eq_true hh) hc (Kn.nil ns) fun r ns' ids' full' m' C _=>hK _ _ _ _ (.inl ⟨hf,hc,of_decide_eq_true hg,of_decide_eq_true hh,C⟩)
  ·exact hK _ _ _ _ (.inr ⟨fun a=>hh (decide_eq_true a.2.2.2),rfl,rfl,rfl,rfl⟩)
  ·exact hK _ _ _ _ (.inr ⟨fun a=>hg (decide_eq_true a.2.2.1),rfl,rfl,rfl,rfl⟩)
 ·exact hK _ _ _ _ (.inr ⟨fun a=>hbt (hb.2 ⟨a.1,a.2.1⟩),rfl,rfl,rfl,rfl⟩)
theorem v4d{ns:List Nd}{ids:Nd->Option Int}{full:Bool}{f g:Int}{K:Int->List Nd->(Nd->Option Int)->Bool->Prop}(hI:Inv ns ids)(hl:ns.length<=4000)
  (hK: ∀r ns' ids' full',OpR (Ok ns f/\Cond ns f/\Ok ns g/\Cond ns g) ns ids full f g (-1) r ns' ids' full'->K r ns' ids' full'):U5 ns ids full f g K:=by
 unfold U5
 refine j6d hI.nod hl fun b hb=>⟨fun hbt=> ?_,fun hbt=> ?_⟩
 ·refine z8g hI hl fun r ns' ids' full' C=>hK _ _ _ _ ?_
  rcases C with ⟨a1,a2,a3,a4,a5⟩|⟨a1,a2⟩
  ·exact .inl ⟨⟨a1,a2,hb.1 hbt⟩,a5⟩
  ·exact .inr ⟨fun a=>a1 ⟨a.1,a.2.1,a.2.2.1,⟨by omega,by omega⟩⟩,a2⟩
 ·exact hK _ _ _ _ (.inr ⟨fun a=>hbt (hb.2 a.2.2),rfl,rfl,rfl,rfl⟩)
theorem v19{ns:List Nd}{ids:Nd->Option Int}{full:Bool}{f g:Int}{K:Int->List Nd->(Nd->Option Int)->Bool->Prop}(hI:Inv ns ids)(hl:ns.length<=4000)
  (hK: ∀r ns' ids' full',OpR (Ok ns f/\Cond ns f/\Ok ns g/\Cond ns g) ns ids full f (-2) g r ns' ids' full'->K r ns' ids' full'):Um ns ids full f g K:=by
 unfold Um
 refine j6d hI.nod hl fun b hb=>⟨fun hbt=> ?_,fun hbt=> ?_⟩
 ·refine z8g hI hl fun r ns' ids' full' C=>hK _ _ _ _ ?_
  rcases C with ⟨a1,a2,a3,a4,a5⟩|⟨a1,a2⟩
  ·exact .inl ⟨⟨a1,a2,hb.1 hbt⟩,a5⟩
  ·exact .inr ⟨fun a=>a1 ⟨a.1,a.2.1,⟨by omega,by omega⟩,a.2.2.1⟩,a2⟩
 ·exact hK _ _ _ _ (.inr ⟨fun a=>hbt (hb.2 a.2.2),rfl,rfl,rfl,rfl⟩)
theorem v4e{ns:List Nd}{ids:Nd->Option Int}{full:Bool}{f:Int}{K:Int->List Nd->(Nd->Option Int)->Bool->Prop}(hI:Inv ns ids)(hl:ns.length<=4000)
  (hK: ∀r ns' ids' full',OpR (Ok ns f/\Cond ns f) ns ids full f (-1) (-2) r ns' ids' full'->K r ns' ids' full'):U4 ns ids full f K:=by
 unfold U4
 refine z8g hI hl fun r ns' ids' full' C=>hK _ _ _ _ ?_
 rcases C with ⟨a1,a2,a3,a4,a5⟩|⟨a1,a2⟩
 ·exact .inl ⟨⟨a1,a2⟩,a5⟩
 ·exact .inr ⟨fun a=>a1 ⟨a.1,a.2,⟨by omega,by omega⟩,⟨by omega,by omega⟩⟩,a2⟩
end Go.En
end
noncomputable section
set_option maxRecDepth 100000
namespace Go.En
open Go Go.Fl Go.Fl.Lk Go.Fx Go.Dg
theorem z8v{v:Envt}{layer but:ByteArray}{now:Int}{K:List Spn->Prop}(h: ∀l,l.length<=10000->K l):q4b v layer but now K:=by
 unfold q4b z3w
 refine q1w fun r hr=>Cnd.mk (fun _=>h _ (by simp)) fun hn=> ?_
 refine Jn1.mk (fun l=>SpsS l) ?_ fun l hl=> ?_
 ·rcases hr with ⟨e,_⟩|⟨a,b,_⟩
  ·omega
  refine⟨⟨a,b⟩,fun y hy=>⟨⟨a,b⟩,fun z hz=> ?_⟩⟩
  refine⟨q2x fun u hu=>z07 (by omega) fun l _=>q5v fun l hl=>hl,q2x fun u hu=>⟨z07 (by omega) fun l _=>q5v fun l hl=>hl,z07 (by omega) fun l _=>q5v fun l hl=>hl⟩⟩
 ·refine Lp2.ind (fun (l:List Spn) (i:Int)=>0<=i/\i<=v.experiments.length/\SpsS l) (fun _ (i:Int)=>(v.experiments.length - i).toNat) ?_ ⟨by omega,by omega,hl⟩
  rintro l i ⟨i0,i1,hl⟩
  have hlen:=hl.len
  (repeat' (first|exact h _ (by omega)|refine q5v fun l hl=> ?_|assumption|(unfold InI;omega)|omega|refine Cnd.mk (fun _=> ?_) fun _=> ?_|refine⟨?_,?_⟩|intro _))
theorem j2l{v:Envt}{layer:ByteArray}{now:Int}{K:List Spn->Int->Prop}(h: ∀l e,SpsS l->K l e):q6v v layer now K:=by
 unfold q6v z67
 have nil:SpsS []:=⟨by simp,by simp⟩
 exact j2e fun _ _=>Cnd.mk (fun _=>q1w fun _ _=>Cnd.mk (fun _=>h _ _ nil) fun _=>z8v fun _ _=>z8s fun l hl=>h _ _ hl) fun _=>h _ _ nil
def lim:Nat->Nat
 |0=>1
 |n+1=>1+3*lim n
theorem j2m: ∀(n:Nat) {l:List Ex} {e:Ex} {K:List Ex->Prop},n<=5->ExS n e->(∀x∈l,ExS 5 x)->l.length+lim n<=1000000->(∀r,(∀x∈r,ExS 5 x)->r.length<=l.length+lim n->K r)->q1n l e K:=by
 intro n l e K hn he hl hB h X hX
 induction n using Nat.strongRecOn generalizing l e K with
 |_ n ih=>
 refine hX _ _ _ ?_
 unfold q58
 rw[Zd]
 have lp:1<=lim n:=by cases n<;>simp[lim]
 refine Jn1.mk (fun r=>(∀x∈r,ExS 5 x)/\r.length<=l.length+1) ?_ fun r hr=> ?_
 ·have same:(∀x∈l,ExS 5 x)/\l.length<=l.length+1:=⟨hl,by omega⟩
  have more:Sml ([]++l).length/\Sml ([]++l++[e]).length/\((∀x∈[]++l++[e],ExS 5 x)/\([]++l++[e]).length<=l.length+1):=by
   refine⟨by unfold Sml;simp;omega,by unfold Sml;simp;omega,?_,by simp⟩
   rw[List.nil_append]
   exact Zc hl (he.le hn)
  have ix:Vq l e fun x=>Cnd (x<0) ((Sml ([]++l).length/\Sml ([]++l++[e]).length/\((∀x∈[]++l++[e],ExS 5 x)/\([]++l++[e]).length<=l.length+1))/\Sml ([]++l).length/\Sml ([]++l++[e]).length/\((∀x∈[]++l++[e],ExS 5 x)/\([]++l++[e]).length<=l.length+1)) ((∀x∈l,ExS 5 x)/\l.length<=l.length+1):=
   z8r hl fun r _=>Cnd.mk (fun _=>⟨more,more⟩) fun _=>same
  exact Cnd.mk (fun _=>ix) fun _=>R6 fun r _=>Cnd.mk (fun _=>ix) fun _=>same
 ·obtain⟨hr,hlen⟩:=hr
  have hk:=he.kids
  cases n with
  |zero=>
   have hk0:e.kids=[]:=he.2.2.2
   refine Lp2.ind (fun (q:List Ex) (i:Int)=>q=r/\0<=i) (fun _ _=>0) ?_ ⟨rfl,by omega⟩
   rintro q i ⟨rfl,i0⟩ _
   refine Cnd.mk (fun hc=> ?_) fun _=>h _ hr (by simp[lim];omega)
   rw[hk0]
   exact⟨by rw[hk0] at hc;simp at hc;omega,fun y hy=>by simp at hy⟩
  |succ n=>
  refine Lp2.ind (fun (q:List Ex) (i:Int)=>0<=i/\i<=e.kids.length/\(∀x∈q,ExS 5 x)/\q.length<=r.length+i.toNat*lim n) (fun _ (i:Int)=>(e.kids.length - i).toNat) ?_ ⟨by omega,by omega,hr,by simp⟩
  rintro q i ⟨i0,i1,hq,hql⟩ _
  have hle:i.toNat*lim n<=3*lim n:=Nat.mul_le_mul_right _ (by omega)
  have hB:l.length+(1+3*lim n)<=1000000:=hB
  refine Cnd.mk (fun hc=>⟨by omega,fun y hy=> ?_⟩) fun _=>h _ hq (by show q.length<=l.length+(1+3*lim n);omega)
  obtain⟨m,hm,hk⟩:=he.kid (getm hy)
  obtain rfl:m=n:=by omega
  rw[Zd]
  have hle2:i.toNat*lim m<=2*lim m:=Nat.mul_le_mul_right _ (by omega)
  refine ih m (by omega) (by omega) hk hq (by omega) fun s hs hsl=>⟨by unfold InI;omega,⟨by omega,by omega,hs,?_⟩,by omega⟩
  ·rw[show (i+1).toNat=i.toNat+1 by omega,Nat.add_mul,Nat.one_mul];omega
theorem lim4:lim 4=121:=rfl
theorem z9l{l:List Rul}{K:List Ex->Prop}(hl:l.length<=100)(hr: ∀r∈l,ExS 4 r.cond)(h: ∀r,(∀x∈r,ExS 5 x)->r.length<=100000->K r):Bj l K:=by
 unfold Bj q39
 refine Lp2.ind (fun (q:List Ex) (i:Int)=>0<=i/\i<=l.length/\(∀x∈q,ExS 5 x)/\q.length<=i.toNat*121) (fun _ (i:Int)=>(l.length - i).toNat) ?_ ⟨by omega,by omega,by simp,by simp⟩
 rintro q i ⟨i0,i1,hq,hql⟩ _
 refine Cnd.mk (fun hc=>⟨by omega,fun y hy=> ?_⟩) fun _=>h _ hq (by omega)
 dsimp only;rw[Zd]
 refine j2m 4 (by omega) (hr y (getm hy)) hq (by rw[lim4];omega) fun s hs hsl=>⟨by unfold InI;omega,⟨by omega,by omega,hs,?_⟩,by omega⟩
 rw[lim4] at hsl;omega
def StS(ns:List Nd)(ids:Nd->Option Int):Prop:=Inv ns ids/\ns.length<=4000
theorem OpR.st{p:Prop}{ns:List Nd}{ids:Nd->Option Int}{full:Bool}{f g h r:Int}{ns':List Nd}{ids':Nd->Option Int}{full':Bool}(h:OpR p ns ids full f g h r ns' ids' full')(hS:StS ns ids):StS ns' ids':=by
 rcases h with ⟨_,C⟩|⟨_,_,e1,e2,_⟩
 ·exact⟨C.grew.inv,C.grew.len⟩
 ·rw[e1,e2];exact hS
theorem v4f{ns:List Nd}{ids:Nd->Option Int}{full:Bool}{t y n:Int}(hS:StS ns ids):StS (node ns ids full t y n).2.1 (node ns ids full t y n).2.2.1:=by
 by_cases hO:z8u ns t y n
 ·obtain⟨h1,_⟩:=w8j (full:=full) hS.1 hS.2 hO (he:=rfl)
  exact⟨h1.inv,h1.len⟩
 ·rw[w2x hO];exact hS
theorem v4g:Inv [] fun _=>none:=⟨⟨fun i h0 hl=>by simp at hl;omega,fun i j h0 hl=>by simp at hl;omega⟩,fun n id=>by simp;omega⟩
theorem z9m: ∀(n:Nat) {ns:List Nd} {ids:Nd->Option Int} {full:Bool} {atoms:List Ex} {e:Ex} {K:Int->List Nd->(Nd->Option Int)->Bool->Prop},ExS n e->(∀x∈atoms,ExS 5 x)->StS ns ids->(∀r ns ids full,StS ns ids->K r ns ids full)->Bk ns ids full atoms e K:=by
 intro n ns ids full atoms e K he ha hS h X hX
 induction n using Nat.strongRecOn generalizing ns ids full e K with
 |_ n ih=>
 refine hX _ _ _ _ _ _ ?_
 unfold q4a
 rw[Zd]
 have hop:=he.opK
 have zero:2<=e.op->e.op<=4->(0:Int)<(e.kids.length:Int):=fun a b=>by have:=List.length_pos_iff.2 (hop a b);omega
 have kid: ∀{y:Ex} {ns ids full} {K:Int->List Nd->(Nd->Option Int)->Bool->Prop},y∈e.kids->StS ns ids->(∀r ns ids full,StS ns ids->K r ns ids full)->X ns ids full atoms (Ex.mk y.1 y.2 y.3 y.4 y.5) K:=fun hy hS hK=>by
  obtain⟨m,hm,hk⟩:=he.kid hy
  rw[Zd]
  exact ih m (by omega) hk hS hK
 refine Cnd.mk (fun _=>h _ _ _ _ hS) fun _=>Cnd.mk (fun h4=>⟨⟨by omega,zero (by omega) (by omega)⟩,fun y hy=>kid (getm hy) hS fun r ns ids full hS=>v4e hS.1 hS.2 fun r ns ids full C=>h _ _ _ _ (C.st hS)⟩) fun _=> ?_
 refine Jn1.mk (fun b=>b=true->2<=e.op/\e.op<=4) (Cnd.mk (fun hc _=>by omega) fun _ hd=>by have:=of_decide_eq_true hd;omega) fun b hb=>Cnd.mk (fun hc=>⟨⟨by omega,zero (hb hc).1 (hb hc).2⟩,fun y hy=>kid (getm hy) hS fun r ns ids full hS=> ?_⟩) fun _=> ?_
 ·refine Lp5.ind (fun (_ i:Int) ns _ ids=>1<=i/\i<=e.kids.length+1/\StS ns ids) (fun _ (i:Int) _ _ _=>(e.kids.length+1 - i).toNat) ?_ ⟨by omega,by omega,hS⟩
  rintro f i ns full ids ⟨i0,i1,hS⟩ _
  refine Cnd.mk (fun hc=>⟨by omega,fun y hy=>kid (getm hy) hS fun r ns ids full hS=> ?_⟩) fun _=>h _ _ _ _ hS
  exact Cnd.mk (fun _=>v4d hS.1 hS.2 fun r ns ids full C=>⟨by unfold InI;omega,⟨by omega,by omega,C.st hS⟩,by omega⟩) fun _=>v19 hS.1 hS.2 fun r ns ids full C=>⟨by unfold InI;omega,⟨by omega,by omega,C.st hS⟩,by omega⟩
 ·exact z8r ha fun r hr=>Cnd.mk (fun _=>h _ _ _ _ hS) fun _=>w2y hS.2 (h _ _ _ _ (v4f hS))
theorem q0h{l:List Rul}{K:List Int->Int->Bool->Prop}(hl:l.length<=100)(hr: ∀r∈l,ExS 4 r.cond)(h: ∀o n b,o.length<=100->K o n b):J6 l K:=by
 unfold J6 q01
 refine z9l hl hr fun atoms ha _=> ?_
 refine LpH.ind (fun (x:Int×List Int×Int×List Nd×Bool×(Nd->Option Int)×Unit)=>0<=x.2.2.1/\x.2.2.1<=(l.length:Int)/\(x.2.1.length:Int)<=x.2.2.1/\StS x.2.2.2.1 x.2.2.2.2.2.1) (fun x=>((l.length:Int) - x.2.2.1).toNat) ?_ ⟨by simp,by simp,by simp,v4g,by simp⟩
 rintro⟨some_,out,i,ns,full,ids,u⟩ ⟨i0,i1,ho,hS⟩
 simp only at i0 i1 ho hS⊢
 refine fun _=>Cnd.mk (fun hc=>⟨by omega,fun y hy=> ?_⟩) fun _ _=>h _ _ _ (by omega)
 dsimp only;rw[Zd]
 refine z9m 4 (hr y (getm hy)) ha hS fun r ns ids full hS=>v19 hS.1 hS.2 fun r ns ids full C=>Cnd.mk (fun _ _=>h _ _ _ (by simp)) fun _=>Cnd.mk (fun _=> ?_) fun _=> ?_
 ·exact⟨by unfold InI;omega,by unfold Sml;simp;omega,by unfold InI;omega,⟨by omega,by omega,by simp;omega,C.st hS⟩,by omega⟩
 ·exact⟨by unfold InI;omega,⟨by omega,by omega,by omega,C.st hS⟩,by omega⟩
theorem w1a{l m:List ByteArray}(hl:Asc l)(hs: ∀x∈l,x∈m):l.length<=m.length:=w2z (j6y hl) hs
theorem w1b{edges:List Edg}{node:ByteArray}{K:List ByteArray->Prop}(hE:edges.length<=100000)(h: ∀r,Asc r->(∀x∈r,x∈edges.map Edg.dst)->K r):z14 edges node K:=by
 unfold z14 z7b
 have len: ∀{o:List ByteArray},Asc o->(∀x∈o,x∈edges.map Edg.dst)->o.length<=edges.length:=fun a b=>by have:=w1a a b;simpa using this
 refine Lp2.ind (fun (o t:List ByteArray)=>Asc o/\(∀x∈o,x∈edges.map Edg.dst)/\t.length<=o.length+1) (fun o t=>2*(edges.length - o.length)+t.length) ?_ ⟨w03,by simp,by simp⟩
 rintro o t ⟨ho,hs,ht⟩ _
 refine Cnd.mk (fun hc=>⟨by omega,fun n hn=>⟨by omega,?_⟩⟩) fun _=>h o ho hs
 have hlo:=len ho hs
 refine Lp3.ind (fun (o' t':List ByteArray) (i:Int)=>0<=i/\i<=edges.length/\Asc o'/\(∀x∈o',x∈edges.map Edg.dst)/\t'.length<=o'.length/\2*(edges.length - o'.length)+t'.length<2*(edges.length - o.length)+t.length) (fun _ _ (i:Int)=>(edges.length - i).toNat) ?_ ⟨by omega,by omega,ho,hs,by simp;omega,by simp;omega⟩
 rintro o' t' i ⟨i0,i1,ho',hs',ht',hm⟩ _
 have hlo':=len ho' hs'
 refine Cnd.mk (fun hc=>⟨by omega,fun e he=>Cnd.mk (fun _=>⟨by omega,fun e he=>j2c fun r hr=>Cnd.mk (fun _=>⟨by unfold InI;omega,⟨by omega,by omega,ho',hs',ht',hm⟩,by omega⟩) fun hn=>⟨by omega,fun e2 he2=> ?_⟩⟩) fun _=>⟨by unfold InI;omega,⟨by omega,by omega,ho',hs',ht',hm⟩,by omega⟩⟩) fun _=>⟨⟨ho',hs',by omega⟩,hm⟩
 rw[he] at he2;cases he2
 refine j2i ho' (by omega) fun q hq hmem=>⟨by omega,fun e3 he3=> ?_⟩
 rw[he] at he3;cases he3
 have hin:e.dst∈edges.map Edg.dst:=List.mem_map.2 ⟨e,getm he,rfl⟩
 have hq2: ∀x∈q,x∈edges.map Edg.dst:=fun x hx=>by
  rcases (hmem x).1 hx with hx|rfl
  ·exact hs' x hx
  ·exact hin
 have hlq:=len hq hq2
 have hne:e.dst∉o':=fun hx=>hn (hr.2 hx)
 have hlen:o'.length+1<=q.length:=by
  have h1:(e.dst::o').Nodup:=List.nodup_cons.2 ⟨hne,j6y ho'⟩
  exact w2z h1 fun x hx=>(hmem x).2 (by rcases List.mem_cons.1 hx with rfl|hx<;>simp[*])
 have goal:Sml ([]++t').length/\Sml ([]++t'++[e.dst]).length/\InI (i+1)/\((0<=i+1/\i+1<=edges.length/\Asc q/\(∀x∈q,x∈edges.map Edg.dst)/\([]++t'++[e.dst]).length<=q.length/\2*(edges.length - q.length)+([]++t'++[e.dst]).length<2*(edges.length - o.length)+t.length)/\(edges.length - (i+1)).toNat<(edges.length - i).toNat):=
  ⟨by unfold Sml;simp;omega,by unfold Sml;simp;omega,by unfold InI;omega,⟨by omega,by omega,hq,hq2,by simp;omega,by simp;omega⟩,by omega⟩
 exact⟨goal,goal⟩
end Go.En
end
noncomputable section
set_option maxRecDepth 100000
namespace Go.En
open Go Go.Fl Go.Fl.Lk Go.Fx Go.Dg
theorem j8x{nodes:List ByteArray}{edges:List Edg}{K:List ByteArray->Prop}(hN:nodes.length<=100000)(hE:edges.length<=100000)(h: ∀r,Asc r->(∀x∈r,x∈nodes)->K r):q78 nodes edges K:=by
 unfold q78 z30
 refine Lp2.ind (fun (o:List ByteArray) (i:Int)=>0<=i/\i<=nodes.length/\Asc o/\ ∀x∈o,x∈nodes) (fun _ (i:Int)=>(nodes.length - i).toNat) ?_ ⟨by omega,by omega,w03,by simp⟩
 rintro o i ⟨i0,i1,ho,hs⟩ _
 have hlo:=w1a ho hs
 refine Cnd.mk (fun hc=>⟨by omega,fun n hn=>⟨by omega,fun m hm=>w1b hE fun q _ _=>j2c fun r _=>Cnd.mk (fun _=>⟨by omega,fun p hp=>j2i ho (by omega) fun o' ho' hmem=>⟨by unfold InI;omega,⟨by omega,by omega,ho',fun x hx=> ?_⟩,by omega⟩⟩) fun _=>⟨by unfold InI;omega,⟨by omega,by omega,ho,hs⟩,by omega⟩⟩⟩) fun _=>h o ho hs
 rcases (hmem x).1 hx with hx|rfl
 ·exact hs x hx
 ·exact getm hp
theorem q5w{nodes:List ByteArray}{edges:List Edg}{K:ByteArray->Bool->Prop}(hN:nodes.length<=100000)(hE:edges.length<=100000)(hs: ∀x∈nodes,x.size<=100)(h: ∀s b,s.size<=100->K s b):q79 nodes edges K:=by
 unfold q79 z31
 exact j8x hN hE fun r _ hr _=>Cnd.mk (fun _=>h _ _ sz0) fun hc=>⟨by omega,fun y hy=>h _ _ (hs y (hr y (getm hy)))⟩
theorem j6e: ∀(n:Nat) {l:List ByteArray} {e:Ex} {K:List ByteArray->Prop},ExS n e->Asc l->l.length+lim n<=1000000->(∀r,Asc r->r.length<=l.length+lim n->K r)->q5k l e K:=by
 intro n l e K he hl hB h X hX
 induction n using Nat.strongRecOn generalizing l e K with
 |_ n ih=>
 refine hX _ _ _ ?_
 unfold z0f
 have lp:1<=lim n:=by cases n<;>simp[lim]
 refine Jn1.mk (fun r=>Asc r/\r.length<=l.length+1) (Cnd.mk (fun _=>j2i hl (by omega) fun r hr hmem=>⟨hr,?_⟩) fun _=>⟨hl,by omega⟩) fun r hr=> ?_
 ·have:=w1a hr (m:=e.3::l) fun x hx=>by rcases (hmem x).1 hx with hx|rfl<;>simp[*]
  simpa using this
 ·obtain⟨hr,hlen⟩:=hr
  have hk:=he.kids
  cases n with
  |zero=>
   have hk0:e.kids=[]:=he.2.2.2
   refine Lp2.ind (fun (q:List ByteArray) (i:Int)=>q=r/\0<=i) (fun _ _=>0) ?_ ⟨rfl,by omega⟩
   rintro q i ⟨rfl,i0⟩ _
   refine Cnd.mk (fun hc=> ?_) fun _=>h _ hr (by simp[lim];omega)
   rw[hk0]
   exact⟨by rw[hk0] at hc;simp at hc;omega,fun y hy=>by simp at hy⟩
  |succ n=>
  refine Lp2.ind (fun (q:List ByteArray) (i:Int)=>0<=i/\i<=e.kids.length/\Asc q/\q.length<=r.length+i.toNat*lim n) (fun _ (i:Int)=>(e.kids.length - i).toNat) ?_ ⟨by omega,by omega,hr,by simp⟩
  rintro q i ⟨i0,i1,hq,hql⟩ _
  have hle:i.toNat*lim n<=3*lim n:=Nat.mul_le_mul_right _ (by omega)
  have hB:l.length+(1+3*lim n)<=1000000:=hB
  refine Cnd.mk (fun hc=>⟨by omega,fun y hy=> ?_⟩) fun _=>h _ hq (by show q.length<=l.length+(1+3*lim n);omega)
  obtain⟨m,hm,hk⟩:=he.kid (getm hy)
  obtain rfl:m=n:=by omega
  rw[Zd]
  have hle2:i.toNat*lim m<=2*lim m:=Nat.mul_le_mul_right _ (by omega)
  refine ih m (by omega) hk hq (by omega) fun s hs hsl=>⟨by unfold InI;omega,⟨by omega,by omega,hs,?_⟩,by omega⟩
  rw[show (i+1).toNat=i.toNat+1 by omega,Nat.add_mul,Nat.one_mul];omega
theorem j6f{e:Ex}{K:List ByteArray->Prop}(he:ExS 4 e)(h: ∀r,Asc r->r.length<=121->K r):q5l e K:=by
 unfold q5l z0g
 rw[Zd]
 exact j6e 4 he w03 (by decide) fun r hr hl=>h r hr (by rw[lim4] at hl;simpa using hl)
theorem z8w{l:List Seg}{K:List Edg->Prop}(hl:l.length<=100)(hs: ∀g∈l,SegS g)(h: ∀r,r.length<=100000->K r):q77 l K:=by
 unfold q77 z3z
 refine Lp2.ind (fun (r:List Edg) (i:Int)=>0<=i/\i<=l.length/\r.length<=i.toNat*121) (fun _ (i:Int)=>(l.length - i).toNat) ?_ ⟨by omega,by omega,by simp⟩
 rintro r i ⟨i0,i1,hr⟩ _
 refine Cnd.mk (fun hc=>⟨by omega,fun g hg=> ?_⟩) fun _=>h _ (by omega)
 dsimp only;rw[Zd]
 refine j6f (hs g (getm hg)).cond fun q _ hq=> ?_
 refine Lp2.ind (fun (p:List Edg) (j:Int)=>0<=j/\j<=q.length/\p.length<=r.length+j.toNat) (fun _ (j:Int)=>(q.length - j).toNat) ?_ ⟨by omega,by omega,by simp⟩
 rintro p j ⟨j0,j1,hp⟩ _
 exact Cnd.mk (fun hc=>⟨by omega,fun _ _=>⟨by omega,fun _ _=>⟨by unfold Sml;simp;omega,by unfold InI;omega,⟨by omega,by omega,by simp;omega⟩,by omega⟩⟩⟩) fun _=>⟨by unfold InI;omega,⟨by omega,by omega,by omega⟩,by omega⟩
theorem j4n{l:List Decl}{kind name:ByteArray}{K:Int->Prop}(h: ∀r,K r):q19 l kind name K:=by
 unfold q19
 refine Lp1.ind (fun (i:Int)=>0<=i/\i<=l.length) (fun (i:Int)=>(l.length - i).toNat) ?_ ⟨by omega,by omega⟩
 rintro i ⟨i0,i1⟩
 (repeat' (first|exact h _|assumption|(unfold InI;omega)|omega|refine Cnd.mk (fun _=> ?_) fun _=> ?_|refine⟨?_,?_⟩|intro _))
theorem q7j: ∀(n:Nat) {l:List Decl} {segs:List ByteArray} {e:Ex} {K:Int->Prop},ExS n e->(∀r,K r)->q64 l segs e K:=by
 intro n l segs e K he h X hX
 induction n using Nat.strongRecOn generalizing e K with
 |_ n ih=>
 refine hX _ _ _ _ ?_
 unfold j08
 have lp:Lp1 (fun (Qb:Int) Gd=>e.5.length<=(9223372036854775807:Nat)->Cnd (Qb<(↑e.5.length:Int)) (((0:Int)<=Qb/\Qb<(↑e.5.length:Int))/\ ∀y2,e.5[Qb.toNat]? =some y2->X l segs (Ex.mk y2.1 y2.2 y2.3 y2.4 y2.5) fun Qk=>Cnd (Qk=(0:Int)) (InI (Qb+(1:Int))/\Gd (Qb+(1:Int))) (K Qk)) (K (0:Int))) (0:Int):=by
  refine Lp1.ind (fun (i:Int)=>0<=i/\i<=e.kids.length) (fun (i:Int)=>(e.kids.length - i).toNat) ?_ ⟨by omega,by omega⟩
  rintro i ⟨i0,i1⟩ _
  refine Cnd.mk (fun hc=>⟨by omega,fun y hy=> ?_⟩) fun _=>h _
  obtain⟨m,hm,hk⟩:=he.kid (getm hy)
  rw[Zd]
  exact ih m (by omega) hk fun r=>Cnd.mk (fun _=>⟨by unfold InI;omega,⟨by omega,by omega⟩,by omega⟩) fun _=>h _
 have jn:Jn0 (Lp1 (fun (Qb:Int) Gd=>e.5.length<=(9223372036854775807:Nat)->Cnd (Qb<(↑e.5.length:Int)) (((0:Int)<=Qb/\Qb<(↑e.5.length:Int))/\ ∀y2,e.5[Qb.toNat]? =some y2->X l segs (Ex.mk y2.1 y2.2 y2.3 y2.4 y2.5) fun Qk=>Cnd (Qk=(0:Int)) (InI (Qb+(1:Int))/\Gd (Qb+(1:Int))) (K Qk)) (K (0:Int))) (0:Int)) fun Qb=>Wl e.1 fun Qd=>Cnd (Qd=true) (q19 l e.2 e.3 fun Qj=>Cnd (Qj=(0:Int)) (K (11:Int)) (q4f Qj (Ex.mk e.1 e.2 e.3 e.4 e.5) fun Qf=>Cnd (Qf=true) Qb (K (8:Int)))) Qb:=
  ⟨True,fun _=>lp,R6 fun _ _=>Cnd.mk (fun _=>j4n fun _=>Cnd.mk (fun _=>h _) fun _=>w4p fun _=>Cnd.mk (fun _=>trivial) fun _=>h _) fun _=>trivial⟩
 exact Cnd.mk (fun _=>j2c fun _ _=>Cnd.mk (fun _=>jn) fun _=>h _) fun _=>jn
theorem j2n{l:List Decl}{s:Srv}{K:Int->Prop}(h: ∀r,K r):z15 l s K:=by
 unfold z15 z7c
 (repeat' (first|exact h _|refine j4n fun _=> ?_|assumption|(unfold InI;omega)|omega|refine Cnd.mk (fun _=> ?_) fun _=> ?_|refine⟨?_,?_⟩|intro _))
theorem q9r{v:Envt}{f:Flg}{K:Int->Prop}(hv:EnvS v)(hf:FlgS f)(h: ∀r,K r):Bt v f K:=by
 unfold Bt q4j
 have ev:Envt.mk (Sett.mk v.1.1 v.1.2 v.1.3) v.2 v.3 v.4 v.5 v.6=v:=rfl
 rw[ev]
 have hsl:=hv.slen
 have hrl:=hf.rlen
 refine q42 (by omega) ?_
 refine Lp2.ind (fun (i:Int) (_:List ByteArray)=>0<=i/\i<=f.needs.length) (fun (i:Int) _=>(f.needs.length - i).toNat) ?_ ⟨by omega,by omega⟩
 rintro i ks ⟨i0,i1⟩ _
 refine Cnd.mk (fun hc=>⟨by omega,fun q hq=>q8y fun r hr=>Cnd.mk (fun _=>h _) fun hn=>⟨by omega,fun q hq=>⟨?_,fun g hg _=>Cnd.mk (fun _=>h _) fun _=>⟨by unfold InI;omega,⟨by omega,by omega⟩,by omega⟩⟩⟩⟩) fun _=> ?_
 ·rcases hr with ⟨a,_⟩|⟨a,b,_⟩<;>omega
 refine Lp2.ind (fun (i:Int) (_:List ByteArray)=>0<=i/\i<=f.rules.length) (fun (i:Int) _=>(f.rules.length - i).toNat) ?_ ⟨by omega,by omega⟩
 rintro i ks ⟨i0,i1⟩ _
 refine Cnd.mk (fun hc=>⟨by omega,fun r hr=> ?_⟩) fun _=> ?_
 ·dsimp only;rw[Zd]
  exact q7j 4 (hf.rules r (getm hr)).cond fun _=>Cnd.mk (fun _=>⟨by omega,fun r hr=>j2n fun _=>Cnd.mk (fun _=>⟨by unfold InI;omega,⟨by omega,by omega⟩,by omega⟩) fun _=>h _⟩) fun _=>h _
 ·exact j2n fun _=>Cnd.mk (fun _=>q0h (by omega) (fun r hr=>(hf.rules r hr).cond) fun o n b ho=>Cnd.mk (fun _ _=>Cnd.mk (fun _=>h _) fun _=>h _) fun _=>h _) fun _=>h _
theorem q9u{v:Envt}{i:Int}{K:Int->Prop}(hv:EnvS v)(i0:0<=i)(i1:i<v.experiments.length)(h: ∀r,K r):Jt v i K:=by
 unfold Jt Vj
 have ev:Envt.mk (Sett.mk v.1.1 v.1.2 v.1.3) v.2 v.3 v.4 v.5 v.6=v:=rfl
 rw[ev]
 have hsl:=hv.slen
 have hxl:=hv.xlen
 refine⟨⟨i0,i1⟩,fun x hx=>q1w fun k hk=>q8y fun g hg=>Cnd.mk (fun _=>h _) fun hk0=>Cnd.mk (fun _=>h _) fun hg0=> ?_⟩
 have hX:=hv.exps x (getm hx)
 have kb:0<=k/\k<(v.layers.length:Int):=by rcases hk with ⟨a,_⟩|⟨a,b,_⟩<;>omega
 have gb:0<=g/\g<(v.flags.length:Int):=by rcases hg with ⟨a,_⟩|⟨a,b,_⟩<;>omega
 refine Lp1.ind (fun (j:Int)=>0<=j/\j<=x.arms.length) (fun (j:Int)=>(x.arms.length - j).toNat) ?_ ⟨by omega,by omega⟩
 rintro j ⟨j0,j1⟩ _
 refine Cnd.mk (fun hc=>⟨by omega,fun _ _=>⟨gb,fun _ _ _=>Cnd.mk (fun _=>h _) fun _=>⟨by unfold InI;omega,⟨by omega,by omega⟩,by omega⟩⟩⟩) fun _=> ?_
 refine q42 (by omega) ?_
 rw[Zd]
 refine q7j 4 hX.cond fun _=>Cnd.mk (fun _=>Cnd.mk (fun _=>h _) fun _=>⟨kb,fun l hl=> ?_⟩) fun _=>h _
 refine Lp3.ind (fun (t:List Spn) (j:Int) (_:List ByteArray)=>0<=j/\j<=v.experiments.length/\(t.length:Int)<=1+j*10000) (fun _ (j:Int) _=>(v.experiments.length - j).toNat) ?_ ⟨by omega,by omega,by simp⟩
 rintro t j ks ⟨j0,j1,ht⟩
 refine Cnd.mk (fun hc=>⟨by omega,fun y hy=> ?_⟩) fun _=>z59 fun c _ _=>Cnd.mk (fun _=>h _) fun _=> ?_
 ·have hcl:=(hv.exps y (getm hy)).claims.len
  exact Cnd.mk (fun _=>Cnd.mk (fun _=>⟨by unfold InI;omega,⟨by omega,by omega,by omega⟩,by omega⟩) fun _=>⟨by unfold Sml;simp;omega,by unfold InI;omega,⟨by omega,by omega,by simp;omega⟩,by omega⟩) fun _=>⟨by unfold InI;omega,⟨by omega,by omega,by omega⟩,by omega⟩
 ·refine Lp4.ind (fun (j:Int) (_ _:List Spn) (_:List ByteArray)=>0<=j/\j<=v.experiments.length) (fun (j:Int) _ _ _=>(v.experiments.length - j).toNat) ?_ ⟨by omega,by omega⟩
  rintro j a b c ⟨j0,j1⟩
  (repeat' (first|exact h _|assumption|(unfold InI;omega)|omega|refine Cnd.mk (fun _=> ?_) fun _=> ?_|refine⟨?_,?_⟩|intro _))
theorem z6b{v:Envt}{K:ByteArray->Int->Prop}(hv:EnvS v)(h: ∀s r,K s r):W0 v K:=by
 unfold W0 G9
 have hsl:=hv.slen
 have hfl:=hv.flen
 have hxl:=hv.xlen
 have ev:Envt.mk (Sett.mk v.1.1 v.1.2 v.1.3) v.2 v.3 v.4 v.5 v.6=v:=rfl
 rw[ev]
 have s8:(ByteArray.mk (Array.mk [115,101,103,109,101,110,116,32])).size=8:=rfl
 have s5:(ByteArray.mk (Array.mk [102,108,97,103,32])).size=5:=rfl
 have s11:(ByteArray.mk (Array.mk [101,120,112,101,114,105,109,101,110,116,32])).size=11:=rfl
 have sk: ∀x∈v.segments.map Seg.key,x.size<=100:=fun x hx=>by obtain⟨g,hg,rfl⟩:=List.mem_map.1 hx;exact (hv.segs g hg).key
 have fk: ∀x∈v.flags.map Flg.key,x.size<=100:=fun x hx=>by obtain⟨g,hg,rfl⟩:=List.mem_map.1 hx;exact (hv.flags g hg).key
 have nlen:(v.flags.flatMap q2y).length<=4*v.flags.length:=by
  have: ∀l:List Flg,(∀f∈l,FlgS f)->(l.flatMap q2y).length<=4*l.length:=by
   intro l
   induction l with
   |nil=>simp
   |cons f l ih=>intro hf;have h1:=(hf f (by simp)).nlen;have h2:=ih fun g hg=>hf g (by simp[hg]);simp only[List.flatMap_cons,List.length_append,q2y,List.length_map,List.length_cons] at*;omega
  exact this _ hv.flags
 refine q7i hv fun _=>Cnd.mk (fun _=>q42 (by omega) ?_) fun _=>h _ _
 refine Lp2.ind (fun (i:Int) (ks:List ByteArray)=>0<=i/\i<=v.segments.length/\ks=v.segments.map Seg.key) (fun (i:Int) _=>(v.segments.length - i).toNat) ?_ ⟨by omega,by omega,rfl⟩
 rintro i ks ⟨i0,i1,rfl⟩ _
 refine Cnd.mk (fun hc=>⟨by omega,fun g hg=>Cnd.mk (fun _=>⟨by unfold InI;omega,⟨by omega,by omega,rfl⟩,by omega⟩) fun _=>⟨by omega,fun g hg=> ?_⟩⟩) fun _=> ?_
 ·dsimp only;rw[Zd]
  refine q7j 4 (hv.segs g (getm hg)).cond fun _=>Cnd.mk (fun _=>⟨by unfold InI;omega,⟨by omega,by omega,rfl⟩,by omega⟩) fun _=>⟨by omega,fun g hg=>⟨?_,h _ _⟩⟩
  have:=(hv.segs g (getm hg)).key
  rw[s8];omega
 refine z8w (by omega) hv.segs fun es hes=>q5w (by simp;omega) hes sk fun s b hs=>Cnd.mk (fun _=>⟨by rw[s8];omega,h _ _⟩) fun _=> ?_
 refine Lp3.ind (fun (i:Int) (_:List ByteArray) (_:List Edg)=>0<=i/\i<=v.flags.length) (fun (i:Int) _ _=>(v.flags.length - i).toNat) ?_ ⟨by omega,by omega⟩
 rintro i ks es ⟨i0,i1⟩ _
 refine Cnd.mk (fun hc=>⟨by omega,fun f hf=>q9r hv (hv.flags f (getm hf)) fun _=>Cnd.mk (fun _=>⟨by unfold InI;omega,⟨by omega,by omega⟩,by omega⟩) fun _=>⟨by omega,fun g hg=>⟨?_,h _ _⟩⟩⟩) fun _=> ?_
 ·have:=(hv.flags g (getm hg)).key
  rw[s5];omega
 refine z09 (by omega) (q9q (by omega) (fun f hf=>by have:=(hv.flags f hf).nlen;omega) (q5w (by simp;omega) (by omega) fk fun s b hs=>Cnd.mk (fun _=>⟨by rw[s5];omega,h _ _⟩) fun _=> ?_))
 refine Lp5.ind (fun (i:Int) (_:List ByteArray) (_ _:List Edg) (_:List ByteArray)=>0<=i/\i<=v.experiments.length) (fun (i:Int) _ _ _ _=>(v.experiments.length - i).toNat) ?_ ⟨by omega,by omega⟩
 rintro i a b c d ⟨i0,i1⟩ _
 refine Cnd.mk (fun hc=>q9u hv i0 hc fun _=>Cnd.mk (fun _=>⟨by unfold InI;omega,⟨by omega,by omega⟩,by omega⟩) fun _=>⟨by omega,fun x hx=>⟨?_,h _ _⟩⟩) fun _=>h _ _
 have:=(hv.exps x (getm hx)).key
 rw[s11];omega
theorem z8x{v:Envt}{K:Bool->Prop}(hv:EnvS v)(h: ∀r,K r):Up v K:=by
 unfold Up q8a
 exact z6b hv fun _ _=>h _
end Go.En
end
noncomputable section
set_option maxRecDepth 100000
namespace Go.En
open Go Go.Fl Go.Fl.Lk Go.Fx Go.Sg
def sgK:List ByteArray:=[ByteArray.mk (Array.mk [97,108,112,104,97]),ByteArray.mk (Array.mk [98,101,116,97]),ByteArray.mk (Array.mk [103,97,109,109,97])]
structure GS(l:List Seg):Prop where
 keys:l.map Seg.key=sgK.take l.length
 cond: ∀(i:Nat) g,l[i]? =some g->DrE (sgK.take i) 20000 g.5
theorem DrE.le{segs:List ByteArray}{a b:Nat}{e:Ex}(h:DrE segs a e)(hab:a<=b):DrE segs b e:=⟨Nat.le_trans h.wt hab,h.nms,h.ev⟩
theorem DrE.eta{segs:List ByteArray}{w:Nat}{e:Ex}(h:DrE segs w e):DrE segs w (Ex.mk e.1 e.2 e.3 e.4 e.5):=by rw[Zd];exact h
theorem v2a:GS []:=⟨rfl,by simp⟩
theorem v08{segs:List ByteArray}:DrE segs 20000 (Ex.mk 0 (ByteArray.mk (Array.mk [])) (ByteArray.mk (Array.mk [])) [] []):=
 ⟨by simp[wt,wtV,wtL],fun x hx=>by rw[j4m] at hx;rcases hx with ⟨h,_⟩|⟨k,hk,_⟩<;>simp at*,EvB.mk' (by simp) (by simp)⟩
theorem j6g{list:List Int}{at_ hold:Int}{salt hkind:ByteArray}{attrs:List Decl}{flags:List Flg}{layers:List Lay_}{expers:List Exper}
  {K:Int->ByteArray->ByteArray->Int->List Decl->List Seg->List Flg->List Lay_->List Exper->Prop}(hD:DS list at_)
  (h: ∀a segs,DS list a->segs.length<=3->(∀g∈segs,SegS g)->GS segs->K a salt hkind hold attrs segs flags layers expers):q5f list at_ salt hkind hold attrs [] flags layers expers K:=by
 unfold q5f q97
 refine Qc hD (by decide) fun n a n0 n1 hD=>z58 n0 (by simp only[List.length_cons,List.length_nil];omega) ?_
 rw[show ([ByteArray.mk (Array.mk [97,108,112,104,97]),ByteArray.mk (Array.mk [98,101,116,97]),ByteArray.mk (Array.mk [103,97,109,109,97])]:List ByteArray)=sgK from rfl]
 have nms: ∀s∈List.take n.toNat sgK,s.size<=100:=fun s hs=>by
  have:=List.mem_of_mem_take hs
  have k: ∀s∈sgK,s.size<=100:=by decide
  exact k s this
 have hlen:(List.take n.toNat sgK).length<=3:=by
  rw[List.length_take];have:sgK.length=3:=rfl;omega
 have hfst: ∀i,i<=(List.take n.toNat sgK).length->(List.take n.toNat sgK).take i=sgK.take i:=fun i hi=>by
  rw[List.take_take,Nat.min_eq_left]
  rw[List.length_take] at hi;omega
 generalize List.take n.toNat _=l at nms hlen hfst
 refine Lp3.ind (fun (i a:Int) (gs:List Seg)=>DS list a/\0<=i/\i<=l.length/\(gs.length:Int)=i/\(∀g∈gs,SegS g)/\GS gs) (fun (i:Int) _ _=>(3 - i).toNat) ?_ ⟨hD,Int.le_refl 0,by omega,rfl,by simp,v2a⟩
 rintro i a gs ⟨hD,i0,i1,hl,hg,hgs⟩ _
 refine Cnd.mk (fun hc=>⟨by omega,fun y hy=>q7h hD fun inc a hi1 _ hD=>q7h hD fun exc a he1 _ hD=> ?_⟩) fun _=>h _ _ hD (by omega) hg hgs
 refine Jn2.mk (fun k a=>k.size<=100/\DS list a) (Qc hD (by decide) fun r a r0 r1 hD=>Cnd.mk (fun _=>⟨by decide,hD⟩) fun _=>⟨by decide,hD⟩) fun kind a hx=> ?_
 obtain⟨hkd,hD⟩:=hx
 refine Jn1.mk (fun x=>(ExS 4 (Ex.mk x.1 x.2.1 x.2.2.1 x.2.2.2.1 x.2.2.2.2.1)/\DrE (l.take i.toNat) 20000 (Ex.mk x.1 x.2.1 x.2.2.1 x.2.2.2.1 x.2.2.2.2.1))/\DS list x.2.2.2.2.2.1) (Qc hD (by decide) fun r a r0 r1 hD=>Cnd.mk (fun _=>⟨by omega,?_⟩) fun _=>⟨⟨ExS.le (n:=0) ⟨.nil,⟨sz0,sz0⟩,opl (by simp),rfl⟩ (by omega),v08⟩,hD⟩) fun x hx=> ?_
 ·exact z8d ((w05 fun s hs=>nms s (List.mem_of_mem_take (List.mem_of_mem_drop hs))).and w8i) 2 (by omega) (by decide) (by decide) hD fun e a he hD=>⟨⟨he.1.eta,(he.2.le (by decide)).eta⟩,hD⟩
 ·have hk:l[i.toNat]? =some y:=hy
  refine⟨by unfold Sml;simp;omega,by unfold InI;omega,⟨hx.2,by omega,by omega,by simp;omega,Zc hg ⟨nms _ (getm hy),hkd,hi1,he1,hx.1.1⟩,?_,fun j g hj=> ?_⟩,by omega⟩
  ·rw[List.map_append,hgs.keys,List.length_append,List.length_singleton,←hfst _ (by omega),←hfst _ (by omega),List.take_add_one,show l[gs.length]? =some y by rw[←hk];congr 1;omega]
   rfl
  ·rcases Nat.lt_or_ge j gs.length with hlt|hge
   ·rw[List.getElem?_append_left hlt] at hj;exact hgs.cond j g hj
   ·rw[List.getElem?_append_right hge] at hj
    have hj0:j=gs.length:=by
     rcases Nat.eq_zero_or_pos (j - gs.length) with h0|h0
     ·omega
     ·rw[List.getElem?_eq_none (by simp;omega)] at hj;cases hj
    subst hj0
    simp only[Nat.sub_self,List.getElem?_cons_zero,Option.some.injEq] at hj
    subst hj
    rw[←hfst _ (by omega),show gs.length=i.toNat by omega]
    exact hx.1.2
end Go.En
end
noncomputable section
set_option maxRecDepth 100000
namespace Go.En
open Go Go.Fl Go.Fl.Lk Go.Fx Go.Dg
theorem j6h{l:List ByteArray}{n:Nat}{p:ByteArray->Prop}(h: ∀x∈l,p x): ∀x∈l.take n,p x:=fun x hx=>h x (List.mem_of_mem_take hx)
theorem w4x{ds:List Decl}(hd: ∀d∈ds,d.kind.size<=100/\d.name.size<=100):EnvS (Envt.mk (Sett.mk (ByteArray.mk (Array.mk [])) (ByteArray.mk (Array.mk [])) 0) ds [] [] [] []):=
 ⟨sz0,hd,by simp,by simp,by simp,by simp,by simp,by simp,by simp,by simp⟩
theorem v8a:ExS 4 (Ex.mk 1 (ByteArray.mk (Array.mk [])) (ByteArray.mk (Array.mk [])) [] []):=ExS.le (n:=0) ⟨VsS.nil,⟨sz0,sz0⟩,opl (by simp),rfl⟩ (by decide)
end Go.En
end
noncomputable section
set_option maxRecDepth 100000
namespace Go.En
open Go Go.Fl Go.Fl.Lk Go.Fx Go.Dg
def Cov(l:List Rng):Prop:= ∀b:Int,0<=b->b<10000-> ∃r∈l,r.1<=b/\b<r.2
theorem z8y{list:List Int}{at_ n:Int}{K:List Rng->Int->Prop}(hD:DS list at_)(hn:1<=n)(hn':n<=100)(h: ∀l a,SplS n l->Cov l->DS list a->K l a):q35 list at_ n K:=by
 unfold q35 z47
 have cv1: ∀{l:List Rng} {x y z:Int},(∀b:Int,0<=b->b<x-> ∃r∈l,r.1<=b/\b<r.2)-> ∀b:Int,0<=b->b<y-> ∃r∈l++[Rng.mk x y z],r.1<=b/\b<r.2:=fun {l x y z} hc b h0 h1=>by
  by_cases hb:b<x
  ·obtain⟨r,hr,hh⟩:=hc b h0 hb
   exact⟨r,List.mem_append_left _ hr,hh⟩
  ·exact⟨_,List.mem_append_right _ List.mem_cons_self,by simp only;omega,h1⟩
 refine Jn4.mk (fun l at_ last a=>DS list a/\l.length<=3/\0<=at_/\(∀b:Int,0<=b->b<at_-> ∃r∈l,r.1<=b/\b<r.2)/\ ∀r∈l,0<=r.lo/\r.hi<=10000/\1<=r.variation/\r.variation<=n) ?_ ?_
 ·refine Lp5.ind (fun l at_ last i a=>DS list a/\0<=i/\i<=3/\(l.length:Int)=i/\0<=at_/\at_<=10000/\0<=last/\last<=n/\(∀b:Int,0<=b->b<at_-> ∃r∈l,r.1<=b/\b<r.2)/\ ∀r∈l,0<=r.lo/\r.hi<=10000/\1<=r.variation/\r.variation<=n) (fun _ _ _ i _=>(3 - i).toNat) ?_ ⟨hD,by omega,by omega,rfl,by omega,by omega,by omega,by omega,fun b h0 h1=>by omega,by simp⟩
  rintro l at_ last i a ⟨hD,i0,i1,hl,a0,a1,l0,l1,hcv,hr⟩
  refine Qc hD (by decide) fun q a q0 q1 hD=>Cnd.mk (fun _=>Cnd.mk (fun _=>⟨by unfold InI;omega,U2 hD (by decide) fun w a w0 w1 hD=>⟨by unfold InI;omega,Qc hD hn fun v a v0 v1 hD=>⟨by unfold InI;omega,?_⟩⟩⟩) fun _=> ?_) fun _=> ?_
  ·have m0:=Int.tmod_nonneg n (show 0<=1+v by omega);have m1:=Int.tmod_lt_of_pos (1+v) (b:=n) (by omega)
   refine Jn1.mk (fun v=>1<=v/\v<=n) (Cnd.mk (fun _=>⟨by omega,by unfold InI;omega,by omega,by omega⟩) fun _=>⟨by omega,by omega⟩) fun v hv=>Cnd.mk (fun _=>⟨hD,by omega,a0,hcv,hr⟩) fun _=> ?_
   exact⟨by unfold Sml;simp;omega,by unfold InI;omega,⟨hD,by omega,by omega,by simp;omega,by omega,by omega,by omega,by omega,cv1 hcv,Zc hr ⟨by simp only;omega,by simp only;omega,by simp only;omega,by simp only;omega⟩⟩,by omega⟩
  ·exact⟨hD,by omega,a0,hcv,hr⟩
  ·exact⟨hD,by omega,a0,hcv,hr⟩
 ·rintro l at_ last a ⟨hD,hl,a0,hcv,hr⟩
  refine Qc hD hn fun v a v0 v1 hD=>⟨by unfold InI;omega,?_⟩
  have m0:=Int.tmod_nonneg n (show 0<=1+v by omega);have m1:=Int.tmod_lt_of_pos (1+v) (b:=n) (by omega)
  refine Jn1.mk (fun v=>1<=v/\v<=n) (Cnd.mk (fun _=>⟨by omega,by unfold InI;omega,by omega,by omega⟩) fun _=>⟨by omega,by omega⟩) fun v hv=> ?_
  exact⟨by unfold Sml;simp;omega,h _ _ ⟨by simp;omega,Zc hr ⟨a0,by simp,hv.1,hv.2⟩⟩ (cv1 hcv) hD⟩
structure SrvD(n:Int)(s:Srv):Prop where
 ok:SrvS n s
 cov:s.variation=0->Cov s.split
theorem z8z{list:List Int}{at_ n:Int}{K:Srv->Int->Prop}(hD:DS list at_)(hn:1<=n)(hn':n<=100)(h: ∀s a,SrvD n s->DS list a->K s a):Bi list at_ n K:=by
 unfold Bi z48
 have tt: ∀s∈q95,s.size<=100:=by decide
 have key:(ByteArray.mk (Array.mk [107,101,121])).size<=100:=by decide
 refine Qc hD (by decide) fun r a r0 r1 hD=>Cnd.mk (fun _=>Qc hD hn fun v a v0 v1 hD=>⟨by unfold InI;omega,h _ _ ⟨⟨sz0,⟨by simp only;omega,by simp only;omega⟩,⟨by simp,by simp⟩,sz0,sz0⟩,fun h0=>by simp only at h0;omega⟩ hD⟩) fun _=> ?_
 refine q0f hD fun t a ht hD=>z8y hD hn hn' fun l a hl hcv hD=>q0g fun ds _ hds=>Qc hD (by decide) fun q a q0 q1 hD _=> ?_
 have usr:(ByteArray.mk (Array.mk [117,115,101,114])).size<=100:=by decide
 have ok: ∀{k b:ByteArray},k.size<=100->b.size<=100->SrvD n (Srv.mk 0 k b t l):=fun hk hb=>⟨⟨hk,⟨by simp,by simp only;omega⟩,hl,hb,tt _ ht⟩,fun _=>hcv⟩
 refine Cnd.mk (fun _=>⟨by omega,fun y hy=>Cnd.mk (fun _=>h _ _ (ok usr key) hD) fun _=>⟨by omega,fun z hz=>⟨by omega,fun u hu=>h _ _ (ok (hds z (getm hz)).1 (hds u (getm hu)).2.1) hD⟩⟩⟩) fun _=>h _ _ (ok usr key) hD
theorem j8y{list:List Int}{at_ kind:Int}{K:Val->Int->Prop}(hk0:1<=kind)(hk1:kind<=5)(hD:DS list at_)(h: ∀r a,ValS r->r.kind=kind->DS list a->K r a):Uy list at_ kind K:=by
 unfold Uy z44
 have tt: ∀s∈q95,s.size<=100:=by decide
 have tv: ∀s∈q96,s.size<=100:=by decide
 have tl: ∀l∈j01,l.length<=10/\ ∀s∈l,s.size<=100:=by decide
 refine Cnd.mk (fun _=> ?_) fun _=>Cnd.mk (fun _=>fun _=> ?_) fun _=>Cnd.mk (fun _=> ?_) fun _=>Cnd.mk (fun _=> ?_) fun _=> ?_
 ·exact Qc hD (by decide) fun r a r0 r1 hD=>h _ _ ⟨by unfold InI;simp only;omega,sz0,by simp,by simp⟩ rfl hD
 ·refine Qc hD (by decide) fun r a r0 r1 hD=>⟨⟨r0,r1⟩,fun y hy=>h _ _ ⟨?_,sz0,by simp,by simp⟩ rfl hD⟩
  have:=getm hy
  have k: ∀y∈[(0:Int),(1:Int),(17:Int),(18:Int),(19:Int),(-5:Int),(64:Int),(1099511627776:Int),(-1099511627776:Int)], -9223372036854775808<=y/\y<=9223372036854775807:=by decide
  exact k y this
 ·exact q0f hD fun r a hr hD=>h _ _ ⟨by unfold InI;simp,tt _ hr,by simp,by simp⟩ rfl hD
 ·exact Qc hD (by decide) fun r a r0 r1 hD=>⟨⟨r0,r1⟩,fun y hy=>h _ _ ⟨by unfold InI;simp,tv _ (getm hy),by simp,by simp⟩ rfl hD⟩
 ·refine Qc hD (by decide) fun r a r0 r1 hD=>⟨⟨r0,r1⟩,fun y hy=> ?_⟩
  obtain⟨a1,a2⟩:=tl _ (getm hy)
  exact⟨by unfold Sml;simp;omega,h _ _ ⟨by unfold InI;simp,sz0,by simpa using a1,by simpa using a2⟩ (by simp only;omega) hD⟩
def flK:List ByteArray:=[ByteArray.mk (Array.mk [102,97]),ByteArray.mk (Array.mk [102,98]),ByteArray.mk (Array.mk [102,99]),ByteArray.mk (Array.mk [102,100])]
def lyK:List ByteArray:=[ByteArray.mk (Array.mk [108,97]),ByteArray.mk (Array.mk [108,98])]
def exK:List ByteArray:=[ByteArray.mk (Array.mk [120,97]),ByteArray.mk (Array.mk [120,98]),ByteArray.mk (Array.mk [120,99])]
structure RulD(n:Int)(r:Rul):Prop where
 cond:DrE sgK 20000 r.cond
 serve:SrvD n r.serve
structure FlgD(prev:List Flg)(f:Flg):Prop where
 kind:1<=f.kind/\f.kind<=5
 kinds: ∀v∈f.variations,v.kind=f.kind
 off:1<=f.off/\f.off<=f.variations.length
 needs: ∀q∈f.needs,∃g∈prev,q.flag=g.key/\1<=q.variation/\q.variation<=g.variations.length
 nsub:(f.needs.map Prq.flag).Sublist (prev.map Flg.key)
 tgts: ∀t∈f.targets,(1<=t.variation/\t.variation<=f.variations.length)/\t.keys.length<=3
 rules: ∀r∈f.rules,RulD f.variations.length r
 dflt:SrvD f.variations.length f.dflt
theorem v09{l a:List ByteArray}{j:Nat}{k:ByteArray}(h:a.Sublist (l.take j))(hk:l[j]? =some k):(a++[k]).Sublist (l.take (j+1)):=by
 rw[List.take_add_one,hk];exact h.append (List.Sublist.refl _)
theorem v1a{l a:List ByteArray}{j:Nat}(h:a.Sublist (l.take j)):a.Sublist (l.take (j+1)):=by
 rw[List.take_add_one];exact h.trans (List.sublist_append_left _ _)
structure FlgsD(l:List Flg):Prop where
 keys:l.map Flg.key=flK.take l.length
 all: ∀(i:Nat) f,l[i]? =some f->FlgD (l.take i) f
structure ExpD(layers:List Lay_)(flags:List Flg)(x:Exper):Prop where
 cov:Cov x.arms
 cond:DrE sgK 20000 x.cond
 layer: ∃l∈layers,x.layer=l.key
 flag: ∃f∈flags,x.flag=f.key/\ ∀r∈x.arms,1<=r.variation/\r.variation<=f.variations.length
 salt:x.salt.size<=100
structure EnvD(v:Envt):Prop where
 salt:v.settings.salt.size<=100
 gs:GS v.segments
 flags:FlgsD v.flags
 layers:v.layers.map Lay_.key=lyK.take v.layers.length
 exps:(v.experiments.map Exper.key).Sublist exK
 exp: ∀x∈v.experiments,ExpD v.layers v.flags x
 al:v.attributes.length<=100
theorem j8z:FlgsD []:=⟨rfl,by simp⟩
theorem w4y{l:List Flg}{f:Flg}(h:FlgsD l)(hk:flK[l.length]? =some f.key)(hf:FlgD l f):FlgsD (l++[f]):=by
 refine⟨?_,fun i g hi=> ?_⟩
 ·rw[List.map_append,h.keys,List.length_append,List.length_singleton,List.take_add_one,hk];rfl
 ·rcases Nat.lt_or_ge i l.length with hlt|hge
  ·rw[List.getElem?_append_left hlt] at hi
   rw[List.take_append_of_le_length (by omega)]
   exact h.all i g hi
  ·have:=Qe hi
   rw[List.length_append,List.length_singleton] at this
   have e:i=l.length:=by omega
   subst e
   rw[List.getElem?_append_right (Nat.le_refl _),Nat.sub_self] at hi
   cases hi
   rw[List.take_left' rfl];exact hf
theorem w8p{a b:List ByteArray}{w:Nat}{e:Ex}(h:DrE a w e)(hs: ∀x∈a,x∈b):DrE b w e:=⟨h.wt,fun x hx=>hs x (h.nms x hx),h.ev⟩
theorem w4z{ds:List Decl}(hl:ds.length<=100):EnvD (Envt.mk (Sett.mk (ByteArray.mk (Array.mk [])) (ByteArray.mk (Array.mk [])) 0) ds [] [] [] []):=
 ⟨sz0,v2a,j8z,rfl,by simp,by simp,hl⟩
theorem w8q{l:List Seg}(h:GS l): ∀s∈l.map Seg.key,s∈sgK:=fun s hs=>by rw[h.keys] at hs;exact List.mem_of_mem_take hs
theorem v4h:DrE sgK 20000 (Ex.mk 1 (ByteArray.mk (Array.mk [])) (ByteArray.mk (Array.mk [])) [] []):=
 ⟨by simp[wt,wtV,wtL],fun x hx=>by rw[j4m] at hx;rcases hx with ⟨h,_⟩|⟨k,hk,_⟩<;>simp at*,EvB.mk' (by simp) (by simp)⟩
theorem v2b{l:List ByteArray}{n i:Nat}{y:ByteArray}(h:(l.take n)[i]? =some y):l[i]? =some y:=by
 rw[List.getElem?_take] at h
 split at h
 ·exact h
 ·cases h
theorem z8h{V:Envt->Prop}(hV: ∀(v:Envt) (K:Bool->Prop),EnvS v->(∀b,(b=true->V v)->K b)->Up v K)(hV0: ∀ds,V (Envt.mk (Sett.mk (ByteArray.mk (Array.mk [])) (ByteArray.mk (Array.mk [])) 0) ds [] [] [] []))
  {list:List Int}{at_ now:Int}{K:Envt->Int->Prop}(hD:DS list at_)(h: ∀v a,EnvS v->EnvD v->V v->DS list a->K v a):Bw list at_ now K:=by
 unfold Bw q4k
 have tt: ∀s∈q95,s.size<=100:=by decide
 refine q0g fun attrs hal had=> ?_
 have hat: ∀d∈attrs,d.kind.size<=100/\d.name.size<=100:=fun d hd=>⟨(had d hd).1,(had d hd).2.1⟩
 refine Jn1.mk (fun x=>(x.1.size<=100/\x.2.1.size<=100)/\DS list x.2.2.2.1/\x.2.2.2.2.1=attrs) (Qc hD (by decide) fun r a _ _ hD=>Cnd.mk (fun _=>q0f hD fun t a ht hD=>U2 hD (by decide) fun w a _ _ hD=>⟨⟨tt _ ht,(by decide:(ByteArray.mk (Array.mk [117,115,101,114])).size<=100)⟩,hD,rfl⟩) fun _=>⟨⟨sz0,sz0⟩,hD,rfl⟩) ?_
 rintro⟨salt,hkind,hold,a,ds,u⟩ ⟨⟨hslt,hhk⟩,hD,hds⟩
 simp only at hslt hhk hD hds⊢
 subst hds
 refine j6g hD fun a segs hD hsl hsegs hgs=>Qc hD (by decide) fun n a n0 n1 hD=>z58 n0 (by simp only[List.length_cons,List.length_nil];omega) ?_
 have fin: ∀{flags:List Flg} {layers:List Lay_} {exps:List Exper} {a:Int},DS list a->flags.length<=4->(∀f∈flags,FlgS f)->layers.length<=2->(∀l∈layers,LayS l)->exps.length<=3->(∀x∈exps,ExpS x)->FlgsD flags->layers.map Lay_.key=lyK.take layers.length->(exps.map Exper.key).Sublist exK->(∀x∈exps,ExpD layers flags x)->
   Up (Envt.mk (Sett.mk salt hkind hold) ds segs flags layers exps) fun b=>Cnd (b=true) (K (Envt.mk (Sett.mk salt hkind hold) ds segs flags layers exps) a) (Gh fun ds=>K (Envt.mk (Sett.mk (ByteArray.mk (Array.mk [])) (ByteArray.mk (Array.mk [])) 0) ds [] [] [] []) a):=fun hD h1 h2 h3 h4 h5 h6 e1 e2 e3 e4=>by
  have hv:EnvS (Envt.mk (Sett.mk salt hkind hold) ds segs _ _ _):=⟨hhk,hat,hsl,hsegs,h1,h2,h3,h4,h5,h6⟩
  exact hV _ _ hv fun b hb=>Cnd.mk (fun ht=>h _ _ hv ⟨hslt,hgs,e1,e2,e3,e4,by show ds.length<=100;omega⟩ (hb ht) hD) fun _=>q0g fun ds hal2 had=>h _ _ (w4x fun d hd=>⟨(had d hd).1,(had d hd).2.1⟩) (w4z (by omega)) (hV0 ds) hD
 have nms: ∀s∈List.take n.toNat [ByteArray.mk (Array.mk [102,97]),ByteArray.mk (Array.mk [102,98]),ByteArray.mk (Array.mk [102,99]),ByteArray.mk (Array.mk [102,100])],s.size<=100:=j6h (by decide)
 have hlen:(List.take n.toNat [ByteArray.mk (Array.mk [102,97]),ByteArray.mk (Array.mk [102,98]),ByteArray.mk (Array.mk [102,99]),ByteArray.mk (Array.mk [102,100])]).length<=4:=by
  rw[List.length_take];simp only[List.length_cons,List.length_nil];omega
 have hget: ∀(i:Nat) y,(List.take n.toNat [ByteArray.mk (Array.mk [102,97]),ByteArray.mk (Array.mk [102,98]),ByteArray.mk (Array.mk [102,99]),ByteArray.mk (Array.mk [102,100])])[i]? =some y->flK[i]? =some y:=fun i y hy=>v2b hy
 generalize List.take n.toNat _=l at nms hlen hget
 refine LpH.ind (fun (x:Int×Int×List Flg×List Seg×List Lay_×List Exper×Unit)=>0<=x.1/\x.1<=(l.length:Int)/\DS list x.2.1/\(x.2.2.1.length:Int)=x.1/\(∀f∈x.2.2.1,FlgS f)/\FlgsD x.2.2.1/\x.2.2.2=(segs,[],[],())) (fun x=>((l.length:Int) - x.1).toNat) ?_ ⟨Int.le_refl 0,by simp,hD,rfl,by simp,j8z,rfl⟩
 rintro⟨i,a,flags,rest⟩ ⟨i0,i1,hD,hfl,hfs,hfd,hr⟩
 simp only at i0 i1 hD hfl hfs hfd hr⊢
 subst hr
 simp only
 intro _
 refine Cnd.mk (fun hc=>⟨by omega,fun key hkey=> ?_⟩) fun _=> ?_
 ·
  refine Qc hD (by decide) fun kind a k0 k1 hD=>⟨by unfold InI;omega,Qc hD (by decide) fun on a _ _ hD=>Qc hD (by decide) fun m a m0 m1 hD=>⟨by unfold InI;omega,?_⟩⟩
  refine LpH.ind (fun (x:Int×Int×List Val×List Exper×List Lay_×List Flg×List Seg×Unit)=>0<=x.1/\x.1<=1+m/\DS list x.2.1/\(x.2.2.1.length:Int)=x.1/\(∀v∈x.2.2.1,ValS v/\v.kind=1+kind)/\x.2.2.2=([],[],flags,segs,())) (fun x=>(1+m - x.1).toNat) ?_ ⟨Int.le_refl 0,by simp only;omega,hD,rfl,by simp,rfl⟩
  rintro⟨j,a,vals,rest⟩ ⟨j0,j1,hD,hvl,hvs,hr⟩
  simp only at j0 j1 hD hvl hvs hr⊢
  subst hr
  simp only
  refine Cnd.mk (fun hc=>j8y (by omega) (by omega) hD fun v a hv hvk hD=>⟨by unfold Sml;simp;omega,by unfold InI;omega,⟨by omega,by omega,hD,by simp;omega,Zc hvs ⟨hv,hvk⟩,trivial⟩,by omega⟩) fun hc=> ?_
  refine Qc hD (by omega) fun off a o0 o1 hD=>⟨by unfold InI;omega,?_⟩
  have hlv:vals.length=(1+m).toNat:=by omega
  refine LpH.ind (fun (x:Int×List Prq×Int×List Seg×List Flg×List Lay_×List Exper×List Val×Unit)=>0<=x.1/\x.1<=(flags.length:Int)/\((x.2.1.length:Int)<=x.1/\(x.2.1.map Prq.flag).Sublist ((flags.map Flg.key).take x.1.toNat))/\(∀q∈x.2.1,q.flag.size<=100/\ ∃g∈flags,q.flag=g.key/\1<=q.variation/\q.variation<=g.variations.length)/\DS list x.2.2.1/\x.2.2.2=(segs,flags,[],[],vals,())) (fun x=>((flags.length:Int) - x.1).toNat) ?_ ⟨Int.le_refl 0,by simp,⟨by simp,List.nil_sublist _⟩,by simp,hD,rfl⟩
  rintro⟨j,needs,a,rest⟩ ⟨j0,j1,⟨hnl,hsb⟩,hns,hD,hr⟩
  simp only at j0 j1 hnl hsb hns hD hr⊢
  have hj1:(j+1).toNat=j.toNat+1:=by omega
  subst hr
  simp only
  intro _
  refine Cnd.mk (fun hc=>Qc hD (by decide) fun q a _ _ hD=>Cnd.mk (fun _=>⟨by omega,fun y hy=>⟨by omega,fun z hz _=>Qc hD (by have:=(hfs z (getm hz)).vlen;omega) fun w a w0 w1 hD=> ?_⟩⟩) fun _=>⟨by unfold InI;omega,⟨by omega,by omega,⟨by omega,by rw[hj1];exact v1a hsb⟩,hns,hD,trivial⟩,by omega⟩) fun _=> ?_
  ·have:=(hfs z (getm hz)).vlen
   exact⟨by unfold InI;omega,by unfold Sml;simp;omega,by unfold InI;omega,⟨by omega,by omega,⟨by simp;omega,by rw[hj1,List.map_append];exact v09 hsb (by rw[List.getElem?_map,hy];rfl)⟩,Zc hns ⟨(hfs y (getm hy)).key,z,getm hz,by rw[hy] at hz;rw[Option.some.inj hz],by simp only;omega,by simp only;omega⟩,hD,trivial⟩,by omega⟩
  have hnl4:needs.length<=4:=by omega
  have hsb:=hsb.trans (List.take_sublist _ _)
  refine LpH.ind (fun (x:Int×List Tgt×Int×List Val×List Exper×List Lay_×List Flg×List Seg×List Prq×Unit)=>0<=x.1/\x.1<=3/\(x.2.1.length:Int)<=x.1/\(∀t∈x.2.1,t.kind.size<=100/\(1<=t.variation/\t.variation<=1+m)/\t.keys.length<=3)/\DS list x.2.2.1/\x.2.2.2=(vals,[],[],flags,segs,needs,())) (fun x=>(3 - x.1).toNat) ?_ ⟨Int.le_refl 0,by simp,by simp,by simp,hD,rfl⟩
  rintro⟨j,tgts,a,rest⟩ ⟨j0,j1,htl,hts,hD,hr⟩
  simp only at j0 j1 htl hts hD hr⊢
  subst hr
  simp only
  refine Qc hD (by decide) fun q a q0 q1 hD=>Cnd.mk (fun hc=>Qc hD (by omega) fun w a w0 w1 hD=>⟨by unfold InI;omega,q7h hD fun ks a hks _ hD=> ?_⟩) fun _=> ?_
  ·refine Jn1.mk (fun x=>x.1.size<=100/\DS list x.2.1/\x.2.2=(ks,needs,segs,flags,[],[],vals,tgts,())) (Qc hD (by decide) fun r a _ _ hD=>Cnd.mk (fun _=>⟨(by decide:(ByteArray.mk (Array.mk [100,101,118,105,99,101])).size<=100),hD,rfl⟩) fun _=>⟨(by decide:(ByteArray.mk (Array.mk [117,115,101,114])).size<=100),hD,rfl⟩) ?_
   rintro⟨kd,a,rest⟩ ⟨hkd,hD,hr⟩
   simp only at hkd hD hr⊢
   subst hr
   simp only
   exact fun _=>Cnd.mk (fun _=>⟨by unfold Sml;simp;omega,by unfold InI;omega,⟨by omega,by omega,by simp;omega,Zc hts ⟨hkd,⟨by simp only;omega,by simp only;omega⟩,hks⟩,hD,trivial⟩,by omega⟩) fun _=>⟨by unfold InI;omega,⟨by omega,by omega,by omega,hts,hD,trivial⟩,by omega⟩
  refine Jn1.mk (fun (x:Int×List Rul×List ByteArray×List Prq×List Seg×List Flg×List Lay_×List Exper×List Val×List Tgt×Unit)=>DS list x.1/\x.2.1.length<=4/\(∀r∈x.2.1,RulS (1+m) r/\RulD (1+m) r)/\x.2.2.2=(needs,segs,flags,[],[],vals,tgts,())) ?_ ?_
  case refine_2=>
   rintro⟨a,rules,names,rest⟩ ⟨hD,hrl,hrs,hr⟩
   simp only at hD hrl hrs hr⊢
   subst hr
   simp only
   refine z8z hD (by omega) (by omega) fun s a hs hD=>⟨by unfold Sml;simp;omega,by unfold InI;omega,⟨by omega,by omega,hD,by simp;omega,Zc hfs ?_,w4y hfd ?_ ?_,trivial⟩,by omega⟩
   all_goals have hvm:(vals.length:Int)=1+m:=by omega
   ·exact⟨nms key (getm hkey),⟨by simp only;omega,by simp only;omega⟩,fun v hv=>(hvs v hv).1,hnl4,fun q hq=>(hns q hq).1,by simp only;omega,fun t ht=>(hts t ht).1,hrl,by rw[hvm];exact fun r hr=>(hrs r hr).1,by rw[hvm];exact hs.ok⟩
   ·rw[←hget _ _ hkey];congr 1;omega
   ·exact⟨⟨by simp only;omega,by simp only;omega⟩,fun v hv=>(hvs v hv).2,⟨by simp only;omega,by simp only;omega⟩,fun q hq=>(hns q hq).2,hsb,fun t ht=>by simp only;rw[hvm];exact (hts t ht).2,fun r hr=>by simp only;rw[hvm];exact (hrs r hr).2,by simp only;rw[hvm];exact hs⟩
  have nm4: ∀s∈([ByteArray.mk (Array.mk [102,105,114,115,116]),ByteArray.mk (Array.mk [115,101,99,111,110,100]),ByteArray.mk (Array.mk [116,104,105,114,100]),ByteArray.mk (Array.mk [102,111,117,114,116,104])]:List ByteArray),s.size<=100:=by decide
  have nl4:([ByteArray.mk (Array.mk [102,105,114,115,116]),ByteArray.mk (Array.mk [115,101,99,111,110,100]),ByteArray.mk (Array.mk [116,104,105,114,100]),ByteArray.mk (Array.mk [102,111,117,114,116,104])]:List ByteArray).length=4:=rfl
  generalize ([ByteArray.mk (Array.mk [102,105,114,115,116]),ByteArray.mk (Array.mk [115,101,99,111,110,100]),ByteArray.mk (Array.mk [116,104,105,114,100]),ByteArray.mk (Array.mk [102,111,117,114,116,104])]:List ByteArray)=ns4 at nm4 nl4⊢
  refine LpH.ind (fun (x:Int×Int×List Rul×List ByteArray×List Prq×List Seg×List Flg×List Lay_×List Exper×List Val×List Tgt×Unit)=>0<=x.1/\x.1<=4/\DS list x.2.1/\(x.2.2.1.length:Int)=x.1/\(∀r∈x.2.2.1,RulS (1+m) r/\RulD (1+m) r)/\x.2.2.2=(ns4,needs,segs,flags,[],[],vals,tgts,())) (fun x=>(4 - x.1).toNat) ?_ ⟨Int.le_refl 0,by simp,hD,rfl,by simp,rfl⟩
  rintro⟨j,a,rules,rest⟩ ⟨j0,j1,hD,hrl,hrs,hr⟩
  simp only at j0 j1 hD hrl hrs hr⊢
  subst hr
  simp only
  refine Qc hD (by decide) fun q a q0 q1 hD=>Cnd.mk (fun hc=>⟨by rw[nl4];omega,fun y hy=> ?_⟩) fun _=>⟨hD,by omega,hrs,trivial⟩
  refine q2v (by simp only;omega) (z8d ((w05 fun s hs=> ?_).and w8i) 2 (by omega) (by decide) (by decide) hD fun e a he hD=>z8z hD (by omega) (by omega) fun s a hs hD=>⟨by unfold Sml;simp;omega,?_⟩)
  ·obtain⟨g,hg,rfl⟩:=List.mem_map.1 hs;exact (hsegs g hg).key
  have hrs':=Zc hrs (x:=Rul.mk y (Ex.mk e.1 e.2 e.3 e.4 e.5) s) ⟨⟨nm4 y (getm hy),he.1.eta,hs.ok⟩,w8p (he.2.le (by decide)).eta (w8q hgs),hs⟩
  have hl':(rules++[Rul.mk y (Ex.mk e.1 e.2 e.3 e.4 e.5) s]).length=rules.length+1:=by simp
  have cut: ∀r∈List.take (((rules++[Rul.mk y (Ex.mk e.1 e.2 e.3 e.4 e.5) s]).length:Int) - 1).toNat (rules++[Rul.mk y (Ex.mk e.1 e.2 e.3 e.4 e.5) s]),RulS (1+m) r/\RulD (1+m) r:=fun r hr=>hrs' r (List.mem_of_mem_take hr)
  generalize rules++[Rul.mk y (Ex.mk e.1 e.2 e.3 e.4 e.5) s]=rs at hrs' hl' cut⊢
  refine q0h (by omega) (fun r hr=>(hrs' r hr).1.cond) fun o n b ho=>Cnd.mk (fun _ _=>Cnd.mk (fun _ _=>⟨by unfold InI;omega,by omega,hD,by simp only[List.length_take];omega,cut,trivial⟩) fun _=>⟨by unfold InI;omega,⟨by omega,by omega,hD,by omega,hrs',trivial⟩,by omega⟩) fun _ _=>⟨by unfold InI;omega,by omega,hD,by simp only[List.length_take];omega,cut,trivial⟩
 ·
  refine Qc hD (by decide) fun n a n0 n1 hD=>z58 n0 (by simp only[List.length_cons,List.length_nil];omega) ?_
  have nms: ∀s∈List.take n.toNat [ByteArray.mk (Array.mk [108,97]),ByteArray.mk (Array.mk [108,98])],s.size<=100:=j6h (by decide)
  have hlen:(List.take n.toNat [ByteArray.mk (Array.mk [108,97]),ByteArray.mk (Array.mk [108,98])]).length<=2:=by
   rw[List.length_take];simp only[List.length_cons,List.length_nil];omega
  have hgetl: ∀(i:Nat) y,(List.take n.toNat [ByteArray.mk (Array.mk [108,97]),ByteArray.mk (Array.mk [108,98])])[i]? =some y->lyK[i]? =some y:=fun i y hy=>v2b hy
  generalize List.take n.toNat _=ls at nms hlen hgetl
  have hf4:flags.length<=4:=by omega
  refine LpH.ind (fun (x:Int×Int×List Lay_×List Exper×List Seg×List Flg×Unit)=>0<=x.1/\x.1<=(ls.length:Int)/\DS list x.2.1/\(x.2.2.1.length:Int)=x.1/\(∀f∈x.2.2.1,LayS f)/\x.2.2.1.map Lay_.key=lyK.take x.2.2.1.length/\x.2.2.2=([],segs,flags,())) (fun x=>((ls.length:Int) - x.1).toNat) ?_ ⟨Int.le_refl 0,by simp,hD,rfl,by simp,rfl,rfl⟩
  rintro⟨j,a,layers,rest⟩ ⟨j0,j1,hD,hll,hls,hlk,hr⟩
  simp only at j0 j1 hD hll hls hlk hr⊢
  subst hr
  simp only
  intro _
  refine Cnd.mk (fun hc=>⟨by omega,fun y hy=>w4m hD (nms y (getm hy)) fun l a hl hky hD=>⟨by unfold Sml;simp;omega,by unfold InI;omega,⟨by omega,by omega,hD,by simp;omega,Zc hls hl,by rw[List.map_append,hlk,List.length_append,List.length_singleton,List.take_add_one,←show j.toNat=layers.length by omega,hgetl _ _ hy,←hky];rfl,trivial⟩,by omega⟩⟩) fun _=> ?_
  refine Qc hD (by decide) fun n a n0 n1 hD=>z58 n0 (by simp only[List.length_cons,List.length_nil];omega) ?_
  have nmx: ∀s∈List.take n.toNat [ByteArray.mk (Array.mk [120,97]),ByteArray.mk (Array.mk [120,98]),ByteArray.mk (Array.mk [120,99])],s.size<=100:=j6h (by decide)
  have hxen:(List.take n.toNat [ByteArray.mk (Array.mk [120,97]),ByteArray.mk (Array.mk [120,98]),ByteArray.mk (Array.mk [120,99])]).length<=3:=by
   rw[List.length_take];simp only[List.length_cons,List.length_nil];omega
  have hgetx:List.take n.toNat [ByteArray.mk (Array.mk [120,97]),ByteArray.mk (Array.mk [120,98]),ByteArray.mk (Array.mk [120,99])]|>.Sublist exK:=List.take_sublist _ _
  generalize List.take n.toNat _=xs at nmx hxen hgetx
  have hl2:layers.length<=2:=by omega
  refine LpH.ind (fun (x:Int×Int×List Exper×List Flg×List Seg×List Lay_×Unit)=>0<=x.1/\x.1<=(xs.length:Int)/\DS list x.2.1/\(x.2.2.1.length:Int)<=x.1/\(∀f∈x.2.2.1,ExpS f)/\(x.2.2.1.map Exper.key).Sublist (xs.take x.1.toNat)/\(∀f∈x.2.2.1,ExpD layers flags f)/\x.2.2.2=(flags,segs,layers,())) (fun x=>((xs.length:Int) - x.1).toNat) ?_ ⟨Int.le_refl 0,by simp,hD,by simp,by simp,by simp,by simp,rfl⟩
  rintro⟨k,a,exps,rest⟩ ⟨k0,k1,hD,hxl,hxs,hxk,hxd,hr⟩
  simp only at k0 k1 hD hxl hxs hxk hxd hr⊢
  subst hr
  simp only
  intro _
  have hfin:=fun {a:Int} (hD:DS list a)=>fin (flags:=flags) (layers:=layers) (exps:=exps) hD hf4 hfs hl2 hls (by omega) hxs hfd hlk ((hxk.trans (List.take_sublist _ _)).trans hgetx) hxd
  refine Cnd.mk (fun hc _=>Cnd.mk (fun hfl0 _=>Cnd.mk (fun hll0=>⟨by omega,fun y hy _=> ?_⟩) fun _=>hfin hD) fun _=>hfin hD) fun _=>hfin hD
  refine Qc hD (by omega) fun q a q0 q1 hD=>⟨by omega,fun f hf _ hfv=>Qc hD (by omega) fun q' a q0' q1' hD=>⟨by omega,fun l hl=>q0f hD fun t a ht hD=>Qc hD (by decide) fun u a u0 u1 hD=>⟨by unfold InI;omega,?_⟩⟩⟩
  have hF:=hfs f (getm hf)
  have hL:=hls l (getm hl)
  have hv1:=hF.vlen
  refine z8y hD (by omega) (by omega) fun arms a harms hcov hD=> ?_
  refine Jn1.mk (fun (x:Int×Int×List Rng×List Exper×List Lay_×List Flg×List Seg×Unit)=>DS list x.2.1/\x.2.2=(arms,exps,layers,flags,segs,())) (Cnd.mk (fun _=>Qc hD (by decide) fun r a _ _ hD=>Cnd.mk (fun _=>⟨hD,rfl⟩) fun _=>⟨hD,rfl⟩) fun _=>⟨hD,rfl⟩) ?_
  rintro⟨state,a,rest⟩ ⟨hD,hr⟩
  simp only at hD hr⊢
  subst hr
  simp only
  refine Jn1.mk (fun (x:Int×ByteArray×ByteArray×List Val×List Ex×Int×List Seg×List Flg×List Lay_×List Exper×List Rng×Unit)=>(ExS 4 (Ex.mk x.1 x.2.1 x.2.2.1 x.2.2.2.1 x.2.2.2.2.1)/\DrE sgK 20000 (Ex.mk x.1 x.2.1 x.2.2.1 x.2.2.2.1 x.2.2.2.2.1))/\DS list x.2.2.2.2.2.1/\x.2.2.2.2.2.2=(segs,flags,layers,exps,arms,())) (Qc hD (by decide) fun r a _ _ hD=>Cnd.mk (fun _=>q2v (by simp only;omega) (z8d ((w05 fun s hs=> ?_).and w8i) 2 (by omega) (by decide) (by decide) hD fun e a he hD=>⟨⟨he.1.eta,w8p (he.2.le (by decide)).eta (w8q hgs)⟩,hD,rfl⟩)) fun _=>⟨⟨v8a,v4h⟩,hD,rfl⟩) ?_
  ·obtain⟨g,hg,rfl⟩:=List.mem_map.1 hs;exact (hsegs g hg).key
  rintro⟨e1,e2,e3,e4,e5,a,rest⟩ ⟨he,hD,hr⟩
  simp only at he hD hr⊢
  subst hr
  simp only
  refine j2l fun sp _ _=>U2 hD (by decide) fun w a _ _ hD=>U2 hD (by decide) fun w' a _ _ hD=>z8s fun sq _=>U2 hD (by decide) fun w2 a w20 w21 hD=>z08 (by omega) fun cl hcl=> ?_
  have hxs':=Zc hxs (x:=Exper.mk y l.1 f.1 t state cl arms (Ex.mk e1 e2 e3 e4 e5)) ⟨nmx y (getm hy),hL.key,hF.key,hcl,⟨harms.1,fun r hr=>by obtain⟨p,q,s,t⟩:=harms.2 r hr;exact⟨p,q,s,by omega⟩⟩,he.1⟩
  have hxd':=Zc hxd (x:=Exper.mk y l.1 f.1 t state cl arms (Ex.mk e1 e2 e3 e4 e5)) ⟨hcov,he.2,⟨l,getm hl,rfl⟩,⟨f,getm hf,rfl,fun r hr=>by obtain⟨_,_,s,t⟩:=harms.2 r hr;exact⟨s,t⟩⟩,tt _ ht⟩
  have hyk:xs[k.toNat]? =some y:=hy
  have hxk':((exps++[Exper.mk y l.1 f.1 t state cl arms (Ex.mk e1 e2 e3 e4 e5)]).map Exper.key).Sublist (xs.take (k+1).toNat):=by
   rw[List.map_append,show (k+1).toNat=k.toNat+1 by omega,List.take_add_one,hyk]
   exact hxk.append (List.Sublist.refl _)
  have hl':(exps++[Exper.mk y l.1 f.1 t state cl arms (Ex.mk e1 e2 e3 e4 e5)]).length=exps.length+1:=by simp
  have cut: ∀r∈List.take (((exps++[Exper.mk y l.1 f.1 t state cl arms (Ex.mk e1 e2 e3 e4 e5)]).length:Int) - 1).toNat (exps++[Exper.mk y l.1 f.1 t state cl arms (Ex.mk e1 e2 e3 e4 e5)]),ExpS r:=fun r hr=>hxs' r (List.mem_of_mem_take hr)
  have cutd: ∀r∈List.take (((exps++[Exper.mk y l.1 f.1 t state cl arms (Ex.mk e1 e2 e3 e4 e5)]).length:Int) - 1).toNat (exps++[Exper.mk y l.1 f.1 t state cl arms (Ex.mk e1 e2 e3 e4 e5)]),ExpD layers flags r:=fun r hr=>hxd' r (List.mem_of_mem_take hr)
  have cutk:((List.take (((exps++[Exper.mk y l.1 f.1 t state cl arms (Ex.mk e1 e2 e3 e4 e5)]).length:Int) - 1).toNat (exps++[Exper.mk y l.1 f.1 t state cl arms (Ex.mk e1 e2 e3 e4 e5)])).map Exper.key).Sublist (xs.take (k+1).toNat):=((List.take_sublist _ _).map _).trans hxk'
  generalize exps++[Exper.mk y l.1 f.1 t state cl arms (Ex.mk e1 e2 e3 e4 e5)]=xs' at hxs' hl' cut hxd' hxk' cutd cutk⊢
  have hv:EnvS (Envt.mk (Sett.mk salt hkind hold) ds segs flags layers xs'):=⟨hhk,hat,hsl,hsegs,hf4,hfs,hl2,hls,by simp only;omega,hxs'⟩
  refine⟨by unfold Sml;omega,z8x hv fun b=>Cnd.mk (fun _=>⟨by unfold InI;omega,⟨by omega,by omega,hD,by omega,hxs',hxk',hxd',trivial⟩,by omega⟩) fun _ _=>⟨by unfold InI;omega,by omega,by unfold InI;omega,⟨by omega,by omega,hD,by simp only[List.length_take];omega,cut,cutk,cutd,trivial⟩,by omega⟩⟩
end Go.En
end
noncomputable section
set_option maxRecDepth 100000
namespace Go.En
open Go Go.Fl Go.Fl.Lk Go.Fx Go.Sg
theorem v1b{x n:Int}{K:Int->Prop}(hn:0<n)(hi:n<=1000)(h: ∀r,0<=r->r<n->K r):j5e x n K:=by
 unfold j5e
 have h1:=Int.lt_tmod_of_pos x hn
 have h2:=Int.tmod_lt_of_pos x hn
 exact⟨by omega,Cnd.mk (fun hc=>⟨by unfold InI;omega,h _ (by omega) (by omega)⟩) fun hc=>h _ (by omega) h2⟩
end Go.En
end
