/- TrafficActs This is part 5 of 10. Conditions: those in the statements. -/
import Derived.Test.YtflilmgifibgoaaGreatDoorAct4
import Derived.KernelRfl
import Derived.Conc.MuLone
import GoSem.Core.Utf8
import Derived.Lib.ValidU
noncomputable section
set_option maxRecDepth 100000
open Go Go.RowKit Go.Fl Go.Fl.Lk Go.Fx
namespace Go.En
def z59(X:q6a):Con Sg:=conS [.sl C.i64,.int .i64] [.vec 75 C.span] fun a K=>X a.1 a.2.1 (fun q0=>K (q0,()))
theorem w2u{Zb:Wl}(h:AL [(84,q23 Zb)]):MT 129 (z59 (z0c Zb)):=mS h [(7,⟨bl 947,[],[],[sI 6,(.obj 0,.own 4 C.bool)]⟩)]
theorem w2v:MT 129 (z59 Bw):=w2u ⟨q60,trivial⟩
def q61(X:Vj):Con Sg:=conS [.sl C.span] [.vec 4 C.bool] fun a K=>X a.1 (fun q0=>K (q0,()))
theorem q9u:MT 83 (q61 Ha):=mS (l:=[]) trivial [(7,⟨bl 77,[],[],[sI 4,(.obj 0,.own 4 C.bool)]⟩),(13,⟨bl 518109,[],[],[sI 5,(.obj 0,.own 4 C.bool)]⟩)]
def z0x(X:Bx):Con Sg:=conS [.sl C.span,.sl C.span] [.vec 75 C.span] fun a K=>X a.1 a.2.1 (fun q0=>K (q0,()))
theorem w2w{Zc:Vj}{Zb:Wl}(h:AL [(83,q61 Zc),(84,q23 Zb)]):MT 88 (z0x (q6b Zc Zb)):=mS h [(7,⟨bl 3955,[1],[],[sI 7,(.obj 0,.own 4 C.bool)]⟩)]
theorem j3z:MT 88 (z0x V0):=w2w ⟨q9u,q60,trivial⟩
def z0y(X:By):Con Sg:=conS [.el C.env,.str,.str,.int .i64] [.vec 75 C.span] fun a K=>X a.1 a.2.1 a.2.2.1 a.2.2.2.1 (fun q0=>K (q0,()))
theorem w2x{Qu:Ja}{Wp:Bx}{Z9:Uc}{q3a:q6a}(h:AL [(20,Re Qu),(88,z0x Wp),(96,q6z Z9),(129,z59 q3a)]):MT 95 (z0y (z0d Qu Wp Z9 q3a)):=mS h [(10,⟨bl 254751,[0],[],[(.slot 10,.own 75 C.span)]⟩),(13,⟨bl 254751,[0],[],[(.slot 10,.own 75 C.span),sI 11]⟩)]
theorem j30:MT 95 (z0y Bz):=w2x ⟨q1n,j3z,z21,w2v,trivial⟩
def z0z(X:B0):Con Sg:=conS [.sl C.span,.sl C.span] [.vec 75 C.span] fun a K=>X a.1 a.2.1 (fun q0=>K (q0,()))
theorem w2y{Zc:Vj}{Zb:Wl}(h:AL [(83,q61 Zc),(84,q23 Zb)]):MT 24 (z0z (z0e Zc Zb)):=mS h [(7,⟨bl 3955,[1],[],[sI 7,(.obj 0,.own 4 C.bool)]⟩)]
theorem j31:MT 24 (z0z B1):=w2y ⟨q9u,q60,trivial⟩
def z4n(X:q2n):Con Sg:=conS [.el C.env,.str,.int .i64] [.vec 75 C.span,.int .i64] fun a K=>X a.1 a.2.1 a.2.2.1 (fun q0 q1=>K (q0,q1,()))
theorem w52{Rl:q5p}{Qu:Ja}{U7:By}{U8:B0}(h:AL [(66,z9p Rl),(20,Re Qu),(95,z0y U7),(24,z0z U8)]):MT 86 (z4n (z37 Rl Qu U7 U8)):=mS h []
theorem j6w:MT 86 (z4n q2o):=w52 ⟨j6v,q1n,j30,j31,trivial⟩
def q62(X:Uy):Con Sg:=conS [.sl C.span,.int .i64] [.vec 75 C.span] fun a K=>X a.1 a.2.1 (fun q0=>K (q0,()))
theorem w2z{Zc:Vj}{Zb:Wl}(h:AL [(83,q61 Zc),(84,q23 Zb)]):MT 48 (q62 (z0f Zc Zb)):=mS h [(7,⟨bl 433,[],[],[sI 1,sI 6,(.obj 0,.own 4 C.bool)]⟩)]
theorem z6a:MT 48 (q62 Hb):=w2z ⟨q9u,q60,trivial⟩
def q70(X:q0w):Con Sg:=conV [.v] [.str] [.bool] [.same] fun a K=>X a.1 (fun q0=>K (q0,()) ((),()))
theorem z7z:MT 164 (q70 q0x):=⟨entB (by kernel_rfl),z7s⟩
def Rf(X:Jk):Con Sg:=conS [.str] [.bool] fun a K=>X a.1 (fun q0=>K (q0,()))
theorem w53{Gz:q0w}(h:AL [(164,q70 Gz)]):MT 111 (Rf (z9a Gz)):=mS h [(9,⟨bl 4081,[],[],[sI 3]⟩)]
theorem q24:MT 111 (Rf Gm):=w53 ⟨z7z,trivial⟩
def w0f(X:z7g):Con Sg:=conS [.str] [.bool] fun a K=>X a.1 (fun q0=>K (q0,()))
theorem w92:MT 165 (w0f z7h):=mS (l:=[]) trivial [(5,⟨[0],[],[],[sI 3]⟩)]
def z70(X:q44):Con Sg:=conS [] [.vec 9 C.str] fun _ K=>X (fun q0=>K (q0,()))
theorem j78:MT 166 (z70 q45):=mS (l:=[]) trivial []
def Rg(X:Jb):Con Sg:=conS [.str] [.bool] fun a K=>X a.1 (fun q0=>K (q0,()))
theorem v29{z8j:z7g}{q5i:q44}(h:AL [(165,w0f z8j),(166,z70 q5i)]):MT 112 (Rg (j7y z8j q5i)):=mS h [(11,⟨bl 16361,[0],[],[sI 4]⟩)]
theorem q1o:MT 112 (Rg Gu):=v29 ⟨w92,j78,trivial⟩
end Go.En
end
noncomputable section
set_option maxRecDepth 100000
open Go Go.RowKit Go.Fl Go.Fl.Lk Go.Fx
namespace Go.En
def z00(X:q0y):Con Sg:=conS [.el C.settings] [.int .i64] fun a K=>X a.1 (fun q0=>K (q0,()))
theorem j79{Qv:Jk}{Qk:Jb}(h:AL [(111,Rf Qv),(112,Rg Qk)]):MT 55 (z00 (z0g Qv Qk)):=mS h []
theorem j8a:MT 55 (z00 q46):=j79 ⟨q24,q1o,trivial⟩
def z01(X:q0z):Con Sg:=conS [.sl C.decl] [.int .i64] fun a K=>X a.1 (fun q0=>K (q0,()))
theorem j8b{Qk:Jb}(h:AL [(112,Rg Qk)]):MT 56 (z01 (z0h Qk)):=mS h [(9,⟨bl 113,[],[],[sI 3]⟩)]
theorem j8c:MT 56 (z01 q47):=j8b ⟨q1o,trivial⟩
def q71(X:Hc):Con Sg:=conS [.sl C.str] [.int .i64] fun a K=>X a.1 (fun q0=>K (q0,()))
theorem w0g{Qv:Jk}(h:AL [(111,Rf Qv)]):MT 167 (q71 (z2k Qv)):=mS h [(9,⟨bl 113,[],[],[sI 3]⟩)]
theorem j0t:MT 167 (q71 q32):=w0g ⟨q24,trivial⟩
def w0h(X:z7i):Con Sg:=conS [.el C.ex] [.bool] fun a K=>X a.1 (fun q0=>K (q0,()))
theorem w93:MT 168 (w0h z7j):=mS (l:=[]) trivial []
def z6b(X:q6c):Con Sg:=conS [.el C.ex] [.bool] fun a K=>X a.1 (fun q0=>K (q0,()))
theorem w22{Zv:G7}(h:AL [(204,q6x Zv)]):MT 234 (z6b (z51 Zv)):=mS h [(20,⟨bl 16327,[0],[],[sB 3,sB 4]⟩)]
theorem w23:MT 234 (z6b z0i):=w22 ⟨z0v,trivial⟩
def j6x(X:z38):Con Sg:=conS [.el C.val] [.bool] fun a K=>X a.1 (fun q0=>K (q0,()))
theorem w54:MT 229 (j6x z39):=mS (l:=[]) trivial []
def z1q(X:Bc):Con Sg:=conS [.str] [.int .i64,.int .i64] fun a K=>X a.1 (fun q0 q1=>K (q0,q1,()))
theorem j1j:MT 235 (z1q Bd):=mS (l:=[]) trivial [(8,⟨bl 269,[],[],[(.slot 4,.str)]⟩),(11,⟨[0,4,8],[],[],[sI 5]⟩),(31,⟨bl 562915601547569,[],[],[sI 6,sI 7]⟩)]
def z9q(X:q9f):Con Sg:=conS [.str] [.el C.a3,.bool] fun a K=>X a.1 (fun q0 q1=>K (q0,q1,()))
theorem w55{Gh:Bc}(h:AL [(235,z1q Gh)]):MT 230 (z9q (z9b Gh)):=mS h [(9,⟨[0,2,4],[],[(1,(280,3)),(0,(280,3))],[sI 5,sI 6,(.cell 1 0,.int .i64),(.cell 1 1,.int .i64),(.cell 1 2,.int .i64),(.cell 0 0,.int .i64),(.cell 0 1,.int .i64),(.cell 0 2,.int .i64)]⟩),(15,⟨bl 19669,[1,0],[],[sI 5]⟩)]
theorem w56:MT 230 (z9q z4a):=w55 ⟨j1j,trivial⟩
def j32(X:z2l):Con Sg:=conS [.sl C.str] [.int .i64] fun a K=>X a.1 (fun q0=>K (q0,()))
theorem w94{Qv:Jk}(h:AL [(111,Rf Qv)]):MT 231 (j32 (j3h Qv)):=mS h [(9,⟨bl 225,[],[],[sI 3]⟩),(19,⟨bl 4073,[],[],[sI 4]⟩)]
theorem w95:MT 231 (j32 z7k):=w94 ⟨q24,trivial⟩
def z4o(X:q2p):Con Sg:=conS [.el C.val] [.int .i64] fun a K=>X a.1 (fun q0=>K (q0,()))
theorem w57{z4w:z38}{Qv:Jk}{z4x:q9f}{z8k:z2l}(h:AL [(229,j6x z4w),(111,Rf Qv),(230,z9q z4x),(231,j32 z8k)]):MT 219 (z4o (z9c z4w Qv z4x z8k)):=mS h []
theorem j6y:MT 219 (z4o q9g):=w57 ⟨w54,q24,w56,w95,trivial⟩
def j33(X:z7l):Con Sg:=conS [.el C.ex] [.int .i64] fun a K=>X a.1 (fun q0=>K (q0,()))
theorem w96{z1e:q6c}{Zv:G7}{Qk:Jb}{Wf:q2p}(h:AL [(234,z6b z1e),(204,q6x Zv),(112,Rg Qk),(219,z4o Wf)]):MT 228 (j33 (z7m z1e Zv Qk Wf)):=mS h [(17,⟨bl 134217667,[0],[],[sI 3]⟩),(31,⟨bl 9412450882139616968651,[0],[],[sI 4]⟩)]
theorem w97:MT 228 (j33 q33):=w96 ⟨w23,z0v,q1o,j6y,trivial⟩
def w0i(X:q6d):Con Sg:=conV [.el C.ex,.v,.ptr 3 [.v]] [.el C.ex,.int .i64,.ptr 3 [.int .i64]] [.int .i64] [.same,.same,.ptr 3 [.int .i64]] fun a K=>X a.1 a.2.1 a.2.2.1.1 (fun q0 q1=>K (q0,()) ((),(),(q1,()),()))
theorem w98:MT 218 (w0i z2m):=by
 show MT _ (conV ([.el C.ex,.v,.ptr 3 [.v]]:LP) ([.el C.ex,.int .i64,.ptr 3 [.int .i64]]:LV) ([.int .i64]:LV) ([.same,.same,.ptr 3 [.int .i64]]:LV) fun a K=>z2m a.1 a.2.1 a.2.2.1.1 (fun q0 q1=>K (q0,()) ((),(),(q1,()),())))
 exact mQ (l:=[(228,j33 q33)]) (u:=4) (rk:=[.v]) ⟨w97,trivial⟩ (by kernel_rfl) [(21,⟨bl 33553551,[1],[(0,(3,1))],[sI 8,(.cell 0 0,.int .i64)]⟩)] (fun X a K=>z7n q33 (fun e depth n K=>X (e,depth,(n,()),()) fun r o=>K r.1 o.2.2.1.1) a.1 a.2.1 a.2.2.1.1 (fun q0 q1=>K (q0,()) ((),(),(q1,()),()))) (fun _ _ _=>by kernel_rfl) fun _ K h X hX=>h (fun e depth n K=>X (e,depth,(n,()),()) fun r o=>K r.1 o.2.2.1.1) fun e depth n K hs=>hX (e,depth,(n,()),()) (fun r o=>K r.1 o.2.2.1.1) hs
end Go.En
end
noncomputable section
set_option maxRecDepth 100000
open Go Go.RowKit Go.Fl Go.Fl.Lk Go.Fx
namespace Go.En
def z22(X:q00):Con Sg:=conS [.el C.ex] [.int .i64] fun a K=>X a.1 (fun q0=>K (q0,()))
theorem w99{z8l:q6d}(h:AL [(218,w0i z8l)]):MT 169 (z22 (z7o z8l)):=mS h []
theorem j34:MT 169 (z22 q34):=w99 ⟨w98,trivial⟩
def z23(X:q35):Con Sg:=conS [.el C.seg] [.int .i64] fun a K=>X a.1 (fun q0=>K (q0,()))
theorem w0j{Qk:Jb}{Wv:Hc}{z8m:z7i}{Vp:q00}(h:AL [(112,Rg Qk),(167,q71 Wv),(168,w0h z8m),(169,z22 Vp)]):MT 113 (z23 (q7q Qk Wv z8m Vp)):=mS h []
theorem w0k:MT 113 (z23 q0c):=w0j ⟨q1o,j0t,w93,j34,trivial⟩
def z02(X:q01):Con Sg:=conS [.sl C.seg] [.int .i64] fun a K=>X a.1 (fun q0=>K (q0,()))
theorem j8d{q78:q35}(h:AL [(113,z23 q78)]):MT 57 (z02 (q48 q78)):=mS h [(9,⟨bl 225,[],[],[sI 3]⟩)]
theorem j8e:MT 57 (z02 H4):=j8d ⟨w0k,trivial⟩
def q63(X:Hd):Con Sg:=conS [.el C.flag] [.int .i64] fun a K=>X a.1 (fun q0=>K (q0,()))
theorem j35{Wf:q2p}(h:AL [(219,z4o Wf)]):MT 170 (q63 (q02 Wf)):=mS h [(15,⟨bl 8139,[0],[],[sI 4]⟩)]
theorem j36:MT 170 (q63 Ud):=j35 ⟨j6y,trivial⟩
def q1p(X:Vk):Con Sg:=conS [.sl C.prereq] [.int .i64] fun a K=>X a.1 (fun q0=>K (q0,()))
theorem z71{Qk:Jb}(h:AL [(112,Rg Qk)]):MT 171 (q1p (Gv Qk)):=mS h [(9,⟨bl 113,[],[],[sI 3]⟩)]
theorem z72:MT 171 (q1p Wd):=z71 ⟨q1o,trivial⟩
def z24(X:q36):Con Sg:=conS [.sl C.target,.int .i64] [.int .i64] fun a K=>X a.1 a.2.1 (fun q0=>K (q0,()))
theorem w0l{Qk:Jb}{Wv:Hc}(h:AL [(112,Rg Qk),(167,q71 Wv)]):MT 172 (z24 (q7r Qk Wv)):=mS h [(9,⟨bl 899,[],[],[sI 5]⟩)]
theorem w0m:MT 172 (z24 q0d):=w0l ⟨q1o,j0t,trivial⟩
def z9r(X:q5q):Con Sg:=conS [.sl C.range,.int .i64] [.int .i64] fun a K=>X a.1 a.2.1 (fun q0=>K (q0,()))
theorem j6z:MT 176 (z9r q9h):=mS (l:=[]) trivial [(11,⟨bl 899,[],[],[sI 5,sI 6]⟩)]
def z4p(X:q2q):Con Sg:=conS [.el C.serve,.int .i64] [.int .i64] fun a K=>X a.1 a.2.1 (fun q0=>K (q0,()))
theorem w58{Qk:Jb}{Qv:Jk}{Rm:q5q}(h:AL [(112,Rg Qk),(111,Rf Qv),(176,z9r Rm)]):MT 174 (z4p (z4b Qk Qv Rm)):=mS h []
theorem j60:MT 174 (z4p q2r):=w58 ⟨q1o,q24,j6z,trivial⟩
def z9s(X:q9i):Con Sg:=conS [.sl C.rule,.int .i64] [.int .i64] fun a K=>X a.1 a.2.1 (fun q0=>K (q0,()))
theorem w59{Qk:Jb}{Vp:q00}{Rn:q2q}(h:AL [(112,Rg Qk),(169,z22 Vp),(174,z4p Rn)]):MT 173 (z9s (z4c Qk Vp Rn)):=mS h [(9,⟨bl 3587,[],[],[sI 5]⟩),(19,⟨bl 33357347,[],[],[sI 6]⟩)]
theorem w6a:MT 173 (z9s q5r):=w59 ⟨q1o,j34,j60,trivial⟩
def j37(X:z2n):Con Sg:=conS [.el C.flag] [.int .i64] fun a K=>X a.1 (fun q0=>K (q0,()))
theorem v0a{Qk:Jb}{q14:Hd}{G0:Vk}{q79:q36}{z4y:q9i}{Rn:q2q}(h:AL [(112,Rg Qk),(170,q63 q14),(171,q1p G0),(172,z24 q79),(173,z9s z4y),(174,z4p Rn)]):MT 114 (j37 (z7p Qk q14 G0 q79 z4y Rn)):=mS h []
theorem v0b:MT 114 (j37 q9j):=v0a ⟨q1o,j36,z72,w0m,w6a,j60,trivial⟩
def z9t(X:q9k):Con Sg:=conS [.sl C.flag] [.int .i64] fun a K=>X a.1 (fun q0=>K (q0,()))
theorem w6b{z8n:z2n}(h:AL [(114,j37 z8n)]):MT 58 (z9t (z4d z8n)):=mS h [(9,⟨bl 225,[],[],[sI 3]⟩)]
theorem w6c:MT 58 (z9t q5s):=w6b ⟨v0b,trivial⟩
def z9u(X:q9l):Con Sg:=conS [.el C.layer] [.int .i64] fun a K=>X a.1 (fun q0=>K (q0,()))
theorem w6d{Qk:Jb}{Qv:Jk}(h:AL [(112,Rg Qk),(111,Rf Qv)]):MT 115 (z9u (z4e Qk Qv)):=mS h [(21,⟨bl 2199023255523,[0],[],[sI 3]⟩)]
theorem w6e:MT 115 (z9u q5t):=w6d ⟨q1o,q24,trivial⟩
end Go.En
end
noncomputable section
set_option maxRecDepth 100000
open Go Go.RowKit Go.Fl Go.Fl.Lk Go.Fx
namespace Go.En
def z6c(X:q6e):Con Sg:=conS [.sl C.layer] [.int .i64] fun a K=>X a.1 (fun q0=>K (q0,()))
theorem w24{z4z:q9l}(h:AL [(115,z9u z4z)]):MT 59 (z6c (z0j z4z)):=mS h [(9,⟨bl 225,[],[],[sI 3]⟩)]
theorem w25:MT 59 (z6c q2s):=w24 ⟨w6e,trivial⟩
def j61(X:z4f):Con Sg:=conS [.sl C.span] [.int .i64] fun a K=>X a.1 (fun q0=>K (q0,()))
theorem w6f:MT 175 (j61 z4g):=mS (l:=[]) trivial [(9,⟨bl 113,[],[],[sI 3]⟩)]
def q64(X:He):Con Sg:=conS [.el C.exper] [.int .i64] fun a K=>X a.1 (fun q0=>K (q0,()))
theorem j38{Qk:Jb}{Qv:Jk}{z40:z4f}{Rm:q5q}{Vp:q00}(h:AL [(112,Rg Qk),(111,Rf Qv),(175,j61 z40),(176,z9r Rm),(169,z22 Vp)]):MT 116 (q64 (q03 Qk Qv z40 Rm Vp)):=mS h []
theorem j39:MT 116 (q64 Ue):=j38 ⟨q1o,q24,w6f,j6z,j34,trivial⟩
def q4m(X:Gd):Con Sg:=conS [.sl C.exper] [.int .i64] fun a K=>X a.1 (fun q0=>K (q0,()))
theorem j1k{q15:He}(h:AL [(116,q64 q15)]):MT 60 (q4m (Be q15)):=mS h [(9,⟨bl 225,[],[],[sI 3]⟩)]
theorem j1l:MT 60 (q4m Vd):=j1k ⟨j39,trivial⟩
def Bl(X:Wn):Con Sg:=conS [.el C.env] [.int .i64] fun a K=>X a.1 (fun q0=>K (q0,()))
theorem j1m{q5j:q0y}{q5k:q0z}{q5l:q01}{z41:q9k}{z1f:q6e}{Bo:Gd}(h:AL [(55,z00 q5j),(56,z01 q5k),(57,z02 q5l),(58,z9t z41),(59,z6c z1f),(60,q4m Bo)]):MT 14 (Bl (Bf q5j q5k q5l z41 z1f Bo)):=mS h []
theorem z1r:MT 14 (Bl Wo):=j1m ⟨j8a,j8c,j8e,w6c,w25,j1l,trivial⟩
def z4q(X:q0e):Con Sg:=conS [.sl C.seg] [.vec 9 C.str] fun a K=>X a.1 (fun q0=>K (q0,()))
theorem z9v:MT 151 (z4q q9m):=mS (l:=[]) trivial [(7,⟨[0,2],[],[],[(.slot 3,.own 9 C.str),sI 4]⟩)]
def j2f(X:z0k):Con Sg:=conS [.sl C.str,.str] [.bool] fun a K=>X a.1 a.2.1 (fun q0=>K (q0,()))
theorem j8f:MT 203 (j2f q7s):=mS (l:=[]) trivial [(5,⟨[0,1],[],[],[sI 5]⟩)]
def j4a(X:z2o):Con Sg:=conS [.sl C.decl,.str,.str] [.int .i64] fun a K=>X a.1 a.2.1 a.2.2.1 (fun q0=>K (q0,()))
theorem w0n:MT 205 (j4a q37):=mS (l:=[]) trivial [(5,⟨[0,1,2],[],[],[sI 7]⟩)]
def w0o(X:j3i):Con Sg:=conS [.int .i64,.el C.ex] [.bool] fun a K=>X a.1 a.2.1 (fun q0=>K (q0,()))
theorem v0c:MT 206 (w0o q6f):=mS (l:=[]) trivial [(11,⟨bl 8075,[0],[],[sI 5]⟩),(36,⟨bl 8795019288539,[0],[],[sB 46]⟩)]
def z73(X:Hf):Con Sg:=conV [.sl C.decl,.sl C.str,.el C.ex] [.sl C.decl,.sl C.str,.el C.ex] [.int .i64] [.same,.same,.same] fun a K=>X a.1 a.2.1 a.2.2.1 (fun q0=>K (q0,()) ((),(),(),()))
theorem j4b:MT 152 (z73 q9n):=by
 show MT _ (conV ([.sl C.decl,.sl C.str,.el C.ex]:LP) ([.sl C.decl,.sl C.str,.el C.ex]:LV) ([.int .i64]:LV) ([.same,.same,.same]:LV) fun a K=>q9n a.1 a.2.1 a.2.2.1 (fun q0=>K (q0,()) ((),(),(),())))
 exact mQ (l:=[(203,j2f q7s),(204,q6x Wj),(205,j4a q37),(206,w0o q6f)]) (u:=4) (rk:=[.v]) ⟨j8f,z0v,w0n,v0c,trivial⟩ (by kernel_rfl) [(18,⟨bl 1047591,[0],[],[]⟩),(21,⟨bl 1047591,[0],[],[sI 8]⟩)] (fun X a K=>j3j q7s Wj q37 q6f (fun l segments e K=>X (l,segments,e,()) fun r _=>K r.1) a.1 a.2.1 a.2.2.1 (fun q0=>K (q0,()) ((),(),(),()))) (fun _ _ _=>by kernel_rfl) fun a K h X hX=>h (fun l segments e K=>X (l,segments,e,()) fun r _=>K r.1) fun l segments e K hs=>hX (l,segments,e,()) (fun r _=>K r.1) hs
def j2g(X:z0l):Con Sg:=conS [.sl C.str,.str] [.sl C.str] fun a K=>X a.1 a.2.1 (fun q0=>K (q0,()))
theorem j8g:MT 222 (j2g q7t):=mS (l:=[]) trivial [(5,⟨[0,1,4],[],[],[sI 5]⟩)]
def j0u(X:Hg):Con Sg:=conV [.sl C.str,.el C.ex] [.sl C.str,.el C.ex] [.sl C.str] [.same,.same] fun a K=>X a.1 a.2.1 (fun q0=>K (q0,()) ((),(),()))
theorem w0p:MT 223 (j0u q7u):=by
 show MT _ (conV ([.sl C.str,.el C.ex]:LP) ([.sl C.str,.el C.ex]:LV) ([.sl C.str]:LV) ([.same,.same]:LV) fun a K=>q7u a.1 a.2.1 (fun q0=>K (q0,()) ((),(),())))
 exact mQ (l:=[(222,j2g q7t)]) (u:=4) (rk:=[.sl C.str]) ⟨j8g,trivial⟩ (by kernel_rfl) [(6,⟨[1,3,4],[0],[],[(.slot 0,.sl C.str)]⟩),(9,⟨[1,3,4],[0],[],[(.slot 0,.sl C.str),sI 5]⟩)] (fun X a K=>z2p q7t (fun l e K=>X (l,e,()) fun r _=>K r.1) a.1 a.2.1 (fun q0=>K (q0,()) ((),(),()))) (fun _ _ _=>by kernel_rfl) fun _ K h X hX=>h (fun l e K=>X (l,e,()) fun r _=>K r.1) fun l e K hs=>hX (l,e,()) (fun r _=>K r.1) hs
end Go.En
end
noncomputable section
set_option maxRecDepth 100000
open Go Go.RowKit Go.Fl Go.Fl.Lk Go.Fx
namespace Go.En
def z25(X:q38):Con Sg:=conS [.el C.ex] [.sl C.str] fun a K=>X a.1 (fun q0=>K (q0,()))
theorem w0q{q8a:Hg}(h:AL [(223,j0u q8a)]):MT 208 (z25 (z2q q8a)):=mS h []
theorem w0r:MT 208 (z25 q7v):=w0q ⟨w0p,trivial⟩
def z6d(X:q6g):Con Sg:=conS [.sl C.seg] [.vec 254 C.edge] fun a K=>X a.1 (fun q0=>K (q0,()))
theorem w26{q8b:q38}(h:AL [(208,z25 q8b)]):MT 154 (z6d (z52 q8b)):=mS h [(7,⟨[0,2],[],[],[(.slot 3,.own 254 C.edge),sI 4]⟩),(15,⟨bl 518069,[],[],[(.slot 3,.own 254 C.edge),sI 6]⟩)]
theorem w27:MT 154 (z6d z0m):=w26 ⟨w0r,trivial⟩
def z9w(X:q9o):Con Sg:=conS [.sl C.edge,.str] [.sl C.str] fun a K=>X a.1 a.2.1 (fun q0=>K (q0,()))
theorem w6g{q16:z0k}{q17:z0l}(h:AL [(203,j2f q16),(222,j2g q17)]):MT 221 (z9w (z9d q16 q17)):=mS h [(7,⟨bl 1555,[],[],[(.slot 5,.sl C.str),(.slot 6,.sl C.str)]⟩),(15,⟨bl 522899,[],[],[(.slot 5,.sl C.str),(.slot 6,.sl C.str),sI 8]⟩)]
theorem w6h:MT 221 (z9w z4h):=w6g ⟨j8f,j8g,trivial⟩
def z6e(X:q6h):Con Sg:=conS [.sl C.str,.sl C.edge] [.sl C.str] fun a K=>X a.1 a.2.1 (fun q0=>K (q0,()))
theorem w28{z42:q9o}{q16:z0k}{q17:z0l}(h:AL [(221,z9w z42),(203,j2f q16),(222,j2g q17)]):MT 207 (z6e (z54 z42 q16 q17)):=mS h [(7,⟨[0,1,4],[],[],[(.slot 5,.sl C.str),sI 6]⟩)]
theorem w29:MT 207 (z6e z0n):=w28 ⟨w6h,j8f,j8g,trivial⟩
def z6f(X:q6i):Con Sg:=conS [.sl C.str,.sl C.edge] [.str,.bool] fun a K=>X a.1 a.2.1 (fun q0 q1=>K (q0,q1,()))
theorem w3a{z1g:q6h}(h:AL [(207,z6e z1g)]):MT 153 (z6f (z55 z1g)):=mS h []
theorem w3b:MT 153 (z6f z0o):=w3a ⟨w29,trivial⟩
def z26(X:q0f):Con Sg:=conS [.el C.env,.str] [.int .i64] fun a K=>X a.1 a.2.1 (fun q0=>K (q0,()))
theorem j0v:MT 126 (z26 q7w):=mS (l:=[]) trivial [(5,⟨[0,1,2],[0],[],[sI 5]⟩)]
def z9x(X:q9p):Con Sg:=conS [.sl C.decl,.el C.serve] [.int .i64] fun a K=>X a.1 a.2.1 (fun q0=>K (q0,()))
theorem w6i{q7i:z2o}(h:AL [(205,j4a q7i)]):MT 209 (z9x (z9e q7i)):=mS h []
theorem w6j:MT 209 (z9x z4i):=w6i ⟨w0n,trivial⟩
def q65(X:Hh):Con Sg:=conS [.el C.env,.el C.flag] [.int .i64] fun a K=>X a.1 a.2.1 (fun q0=>K (q0,()))
theorem j4c{Wg:q0e}{Vq:q0f}{Vr:Hf}{q9x:q9p}{Q1:Z0}(h:AL [(151,z4q Wg),(126,z26 Vq),(152,z73 Vr),(209,z9x q9x),(103,Ul Q1)]):MT 155 (q65 (q6j Wg Vq Vr q9x Q1)):=mS h [(7,⟨bl 229423,[1,0],[],[sI 6,(.obj 2,.own 9 C.str)]⟩),(23,⟨bl 8355951,[1,0],[],[sI 8,(.obj 2,.own 9 C.str)]⟩)]
theorem j4d:MT 155 (q65 q04):=j4c ⟨z9v,j0v,j4b,w6j,q22,trivial⟩
def z5j(X:q3h):Con Sg:=conS [.el C.env] [.vec 9 C.str] fun a K=>X a.1 (fun q0=>K (q0,()))
theorem j5j:MT 156 (z5j q8g):=mS (l:=[]) trivial [(7,⟨[0,1,2],[0],[],[(.slot 3,.own 9 C.str),sI 4]⟩)]
def z27(X:q05):Con Sg:=conS [.el C.env] [.vec 254 C.edge] fun a K=>X a.1 (fun q0=>K (q0,()))
theorem j4e:MT 157 (z27 q06):=mS (l:=[]) trivial [(7,⟨[0,1,2],[0],[],[(.slot 3,.own 254 C.edge),sI 4]⟩),(13,⟨bl 2007,[],[],[(.slot 3,.own 254 C.edge),sI 5]⟩)]
def q72(X:Hi):Con Sg:=conS [.sl C.span,.sl C.span] [.vec 75 C.span] fun a K=>X a.1 a.2.1 (fun q0=>K (q0,()))
theorem w0s{Zc:Vj}{Zb:Wl}(h:AL [(83,q61 Zc),(84,q23 Zb)]):MT 25 (q72 (q7x Zc Zb)):=mS h [(7,⟨bl 3955,[1],[],[sI 7,(.obj 0,.own 4 C.bool)]⟩)]
theorem j0w:MT 25 (q72 Hj):=w0s ⟨q9u,q60,trivial⟩
def Ht(X:J4):Con Sg:=conS [.el C.env,.int .i64] [.int .i64] fun a K=>X a.1 a.2.1 (fun q0=>K (q0,()))
theorem z28{Qu:Ja}{Vq:q0f}{Wg:q0e}{Vr:Hf}{Vs:Hi}(h:AL [(20,Re Qu),(126,z26 Vq),(151,z4q Wg),(152,z73 Vr),(25,q72 Vs)]):MT 158 (Ht (Hk Qu Vq Wg Vr Vs)):=mS h [(13,⟨bl 17179836647,[1,0],[],[sI 8]⟩),(35,⟨bl 151078797935433964553191,[1,0],[],[(.slot 10,.own 75 C.span),sI 11,(.obj 4,.own 9 C.str)]⟩),(51,⟨bl 159723976762087930960904772882407,[1,0],[],[sI 13,(.obj 9,.own 75 C.span),(.obj 6,.own 75 C.span),(.obj 4,.own 9 C.str)]⟩)]
theorem z29:MT 158 (Ht Vl):=z28 ⟨q1n,j0v,z9v,j4b,j0w,trivial⟩
end Go.En
end
noncomputable section
set_option maxRecDepth 100000
open Go Go.RowKit Go.Fl Go.Fl.Lk Go.Fx
namespace Go.En
def q25(X:Uf):Con Sg:=conS [.el C.env] [.str,.int .i64] fun a K=>X a.1 (fun q0 q1=>K (q0,q1,()))
theorem z9y{Jh:Wn}{Wg:q0e}{Vr:Hf}{z1h:q6g}{q7j:q6i}{q18:Hh}{q3s:q3h}{q19:q05}{Vt:J4}(h:AL [(14,Bl Jh),(151,z4q Wg),(152,z73 Vr),(154,z6d z1h),(153,z6f q7j),(155,q65 q18),(156,z5j q3s),(157,z27 q19),(158,Ht Vt)]):MT 99 (q25 (q2t Jh Wg Vr z1h q7j q18 q3s q19 Vt)):=mS h [(13,⟨bl 15663155,[0],[],[sI 6,(.obj 1,.own 9 C.str)]⟩),(33,⟨bl 294571444427585160051,[0],[],[sI 10,(.obj 1,.own 9 C.str),(.obj 4,.own 254 C.edge)]⟩),(51,⟨bl 10121397798090180814242575234931,[0],[],[sI 14,(.obj 8,.own 9 C.str),(.obj 9,.own 254 C.edge),(.obj 4,.own 254 C.edge),(.obj 1,.own 9 C.str)]⟩)]
theorem z9z:MT 99 (q25 H5):=z9y ⟨z1r,z9v,j4b,w27,w3b,j4d,j5j,j4e,z29,trivial⟩
def z6g(X:q6k):Con Sg:=conS [.el C.env] [.bool] fun a K=>X a.1 (fun q0=>K (q0,()))
theorem w3c{Rp:Uf}(h:AL [(99,q25 Rp)]):MT 35 (z6g (z56 Rp)):=mS h []
theorem w3d:MT 35 (z6g q2u):=w3c ⟨z9z,trivial⟩
def q66(X:Hl):Con Sg:=conV [.ptr 78 [.c,.v],.v] [.ptr 78 [.sl C.u8,.int .i64],.int .i64] [.el C.env] [.ptr 78 [.same,.int .i64],.same] fun a K=>X a.1.1 a.1.2.1 a.2.1 (fun q0 q1=>K (q0,()) (((),q1,()),(),()))
theorem j4f{Zk:Ur}{q8c:q30}{Qb:Zu}{q1z:z33}{Z3:q0r}{Vo:q43}{Vu:q55}{Zw:V7}{V5:q0s}{Q1:Z0}{z8o:z2j}{Je:H0}{q11:q53}{Rq:q2n}{Jg:q0q}{U8:B0}{Jp:Uy}{B9:q6k}(h:AL [(38,q7z Zk),(40,z2w q8c),(33,U5 Qb),(41,j73 q1z),(101,z2v Z3),(46,z7u Vo),(47,z7w Vu),(102,q6w Zw),(100,j2e V5),(103,Ul Q1),(43,j3y z8o),(39,z0u Je),(104,z7v q11),(86,z4n Rq),(34,z4m Jg),(24,z0z U8),(48,q62 Jp),(35,z6g B9)]):MT 10 (q66 (q6l Zk q8c Qb q1z Z3 Vo Vu Zw V5 Q1 z8o Je q11 Rq Jg U8 Jp B9)):=mP (rk:=[.el C.env]) h [(8,⟨bl 3123,[1],[(3,(35,8)),(0,(78,2))],[(.cell 3 0,.str),(.cell 3 1,.str),(.cell 3 2,.int .i64),(.cell 0 1,.int .i64),(.obj 2,.own 102 C.decl)]⟩),(15,⟨bl 98569331,[2,1],[(0,(78,2)),(3,(35,8))],[sI 7,(.cell 0 1,.int .i64),(.cell 3 5,.own 91 C.flag),(.obj 10,.own 97 C.seg),(.obj 12,.own 61 C.layer),(.obj 13,.own 58 C.exper)]⟩),(43000009,⟨bl 1073218007,[22,21],[(0,(78,2)),(23,(91,13))],[sI 9,(.cell 0 1,.int .i64),(.cell 23 2,.own 149 C.val),(.obj 13,.own 58 C.exper),(.obj 12,.own 61 C.layer),(.obj 17,.own 91 C.flag),(.obj 10,.own 97 C.seg)]⟩),(43000019,⟨bl 545366356788183,[22,21],[(23,(91,13)),(0,(78,2))],[sI 10,(.cell 23 5,.own 152 C.prereq),(.cell 0 1,.int .i64),(.obj 10,.own 97 C.seg),(.obj 17,.own 91 C.flag),(.obj 12,.own 61 C.layer),(.obj 13,.own 58 C.exper),(.obj 27,.own 149 C.val)]⟩),(43000029,⟨bl 17996814912849879,[22,21],[(23,(91,13)),(0,(78,2))],[sI 11,(.cell 23 6,.own 154 C.target),(.cell 0 1,.int .i64),(.obj 27,.own 149 C.val),(.obj 13,.own 58 C.exper),(.obj 12,.own 61 C.layer),(.obj 17,.own 91 C.flag),(.obj 10,.own 97 C.seg),(.obj 34,.own 152 C.prereq)]⟩),(43000038,⟨bl 19688565898261847554177638359,[23],[(51,(154,3)),(0,(78,2))],[(.cell 51 0,.str),(.cell 0 1,.int .i64),(.obj 50,.own 9 C.str),(.obj 34,.own 152 C.prereq),(.obj 10,.own 97 C.seg),(.obj 17,.own 91 C.flag),(.obj 12,.own 61 C.layer),(.obj 13,.own 58 C.exper),(.obj 27,.own 149 C.val),(.obj 42,.own 154 C.target)]⟩),(43000060,⟨bl 324518589926201333218846174621655,[22,21],[(0,(78,2)),(23,(91,13))],[(.cell 0 1,.int .i64),(.cell 23 7,.own 157 C.rule),(.obj 50,.own 9 C.str),(.obj 34,.own 152 C.prereq),(.obj 10,.own 97 C.seg),(.obj 17,.own 91 C.flag),(.obj 12,.own 61 C.layer),(.obj 13,.own 58 C.exper),(.obj 27,.own 149 C.val),(.obj 42,.own 154 C.target)]⟩),(43000047,⟨bl 324518589926201333218846174621655,[],[(0,(78,2)),(23,(91,13))],[sI 14,(.cell 0 1,.int .i64),(.cell 23 7,.own 157 C.rule),(.obj 50,.own 9 C.str),(.obj 34,.own 152 C.prereq),(.obj 10,.own 97 C.seg),(.obj 17,.own 91 C.flag),(.obj 12,.own 61 C.layer),(.obj 13,.own 58 C.exper),(.obj 27,.own 149 C.val),(.obj 42,.own 154 C.target)]⟩),(25,⟨bl 387030204812531,[2,1],[(0,(78,2)),(3,(35,8))],[sI 8,(.cell 0 1,.int .i64),(.cell 3 6,.own 61 C.layer),(.obj 13,.own 58 C.exper),(.obj 10,.own 97 C.seg),(.obj 17,.own 91 C.flag)]⟩),(35,⟨bl 811665570522726403571,[2,1],[(0,(78,2)),(3,(35,8))],[sI 9,(.cell 0 1,.int .i64),(.cell 3 7,.own 58 C.exper),(.obj 17,.own 91 C.flag),(.obj 10,.own 97 C.seg),(.obj 24,.own 61 C.layer)]⟩),(45000010,⟨bl 140737488348975,[37,36,35],[(40,(58,12)),(0,(78,2))],[(.cell 40 4,.int .i64),(.cell 0 1,.int .i64),(.obj 39,.own 173 C.range),(.obj 31,.own 58 C.exper),(.obj 24,.own 61 C.layer),(.obj 17,.own 91 C.flag),(.obj 10,.own 97 C.seg)]⟩),(45000014,⟨bl 140737488348975,[37,36,35],[(40,(58,12)),(0,(78,2))],[(.cell 40 7,.int .i64),(.cell 40 8,.str),(.cell 40 9,.str),(.cell 40 10,.sl C.val),(.cell 40 11,.sl C.ex),(.cell 0 1,.int .i64),(.obj 10,.own 97 C.seg),(.obj 17,.own 91 C.flag),(.obj 24,.own 61 C.layer),(.obj 31,.own 58 C.exper),(.obj 39,.own 173 C.range)]⟩)]
theorem j4g:MT 10 (q66 Hm):=j4f ⟨z2u,w0b,Rd,w45,j3q,j74,w0d,z2x,j76,q22,w91,z7t,w0c,j6w,j2d,j31,z6a,w3d,trivial⟩
def Hu(X:J5):Con Sg:=conS [.el C.env,.int .i64] [.str] fun a K=>X a.1 a.2.1 (fun q0=>K (q0,()))
theorem z3a{q4u:z88}(h:AL [(9,w2r q4u)]):MT 17 (Hu (Hn q4u)):=mS h []
theorem z3b:MT 17 (Hu Vm):=z3a ⟨w9u,trivial⟩
def q4n(X:Ve):Con Sg:=conS [.int .i64] [.bool] fun a K=>X a.1 (fun q0=>K (q0,()))
theorem z1s:MT 61 (q4n Ge):=mS (l:=[]) trivial []
def q1q(X:J6):Con Sg:=conS [.el C.env,.str] [.int .i64] fun a K=>X a.1 a.2.1 (fun q0=>K (q0,()))
theorem q67:MT 75 (q1q Ug):=mS (l:=[]) trivial [(143000005,⟨bl 195,[1],[],[sI 8]⟩)]
def Gq(X:J0):Con Sg:=conS [.el C.env,.str,.int .i64] [.int .i64,.int .i64,.int .i64] fun a K=>X a.1 a.2.1 a.2.2.1 (fun q0 q1 q2=>K (q0,q1,q2,()))
theorem j5k{Ji:Ve}{Zd:J6}(h:AL [(61,q4n Ji),(75,q1q Zd)]):MT 71 (Gq (q8h Ji Zd)):=mS h [(131000005,⟨bl 195,[1],[],[sI 8]⟩)]
theorem q8t:MT 71 (Gq Gn):=j5k ⟨z1s,q67,trivial⟩
def z03(X:q07):Con Sg:=conS [.el C.val] [.el C.val] fun a K=>X a.1 (fun q0=>K (q0,()))
theorem z74:MT 186 (z03 Uz):=mS (l:=[]) trivial []
def q73(X:J7):Con Sg:=conV [.el C.ex] [.el C.ex] [.el C.ex] [.same] fun a K=>X a.1 (fun q0=>K (q0,()) ((),()))
theorem z3c:MT 184 (q73 q0g):=by
 show MT _ (conV ([.el C.ex]:LP) ([.el C.ex]:LV) ([.el C.ex]:LV) ([.same]:LV) fun a K=>q0g a.1 (fun q0=>K (q0,()) ((),())))
 exact mQ (l:=[(186,z03 Uz)]) (u:=4) (rk:=[.el C.ex]) ⟨z74,trivial⟩ (by kernel_rfl) [(186000007,⟨bl 7955,[],[],[(.slot 5,.own 149 C.val),sI 13]⟩),(221000007,⟨bl 7955,[],[],[(.slot 5,.own 56 C.ex),sI 13]⟩)] (fun X a K=>q7y Uz (fun e K=>X (e,()) fun r _=>K r.1) a.1 (fun q0=>K (q0,()) ((),()))) (fun _ _ _=>by kernel_rfl) fun a K h X hX=>h (fun e K=>X (e,()) fun r _=>K r.1) fun e K hs=>hX (e,()) (fun r _=>K r.1) hs
def Um(X:Jl):Con Sg:=conS [.el C.seg] [.el C.seg] fun a K=>X a.1 (fun q0=>K (q0,()))
theorem j4h{Zf:J7}(h:AL [(184,q73 Zf)]):MT 134 (Um (q6m Zf)):=mS h []
theorem q68:MT 134 (Um J8):=j4h ⟨z3c,trivial⟩
def z5k(X:q3i):Con Sg:=conS [.el C.target] [.el C.target] fun a K=>X a.1 (fun q0=>K (q0,()))
theorem j5l:MT 189 (z5k R0):=mS (l:=[]) trivial []
def z04(X:H6):Con Sg:=conS [.el C.serve] [.el C.serve] fun a K=>X a.1 (fun q0=>K (q0,()))
theorem z75:MT 192 (z04 q49):=mS (l:=[]) trivial []
end Go.En
end
noncomputable section
set_option maxRecDepth 100000
open Go Go.RowKit Go.Fl Go.Fl.Lk Go.Fx
namespace Go.En
def z3d(X:q39):Con Sg:=conS [.el C.rule] [.el C.rule] fun a K=>X a.1 (fun q0=>K (q0,()))
theorem w0t{Zf:J7}{J2:H6}(h:AL [(184,q73 Zf),(192,z04 J2)]):MT 191 (z3d (z2r Zf J2)):=mS h []
theorem w0u:MT 191 (z3d q0h):=w0t ⟨z3c,z75,trivial⟩
def q0j(X:Vn):Con Sg:=conS [.el C.flag] [.el C.flag] fun a K=>X a.1 (fun q0=>K (q0,()))
theorem w0v{Rr:q07}{R8:q3i}{q4d:q39}{J2:H6}(h:AL [(186,z03 Rr),(189,z5k R8),(191,z3d q4d),(192,z04 J2)]):MT 136 (q0j (z2s Rr R8 q4d J2)):=mS h [(186000007,⟨bl 7955,[],[],[(.slot 5,.own 149 C.val),sI 13]⟩),(189000007,⟨bl 7955,[],[],[(.slot 5,.own 154 C.target),sI 13]⟩),(191000007,⟨bl 7955,[],[],[(.slot 5,.own 157 C.rule),sI 13]⟩)]
theorem z3e:MT 136 (q0j Us):=w0v ⟨z74,j5l,w0u,z75,trivial⟩
def Jm(X:Q4):Con Sg:=conS [.sl C.cool] [.vec 125 C.cool] fun a K=>X a.1 (fun q0=>K (q0,()))
theorem Jn:MT 193 (Jm Q5):=mS (l:=[]) trivial []
def q5g(X:U0):Con Sg:=conS [.el C.layer] [.el C.layer] fun a K=>X a.1 (fun q0=>K (q0,()))
theorem j8h{Qm:Q4}(h:AL [(193,Jm Qm)]):MT 138 (q5g (z0p Qm)):=mS h []
theorem z76:MT 138 (q5g U1):=j8h ⟨Jn,trivial⟩
def We(X:Zq):Con Sg:=conS [.el C.exper] [.el C.exper] fun a K=>X a.1 (fun q0=>K (q0,()))
theorem z77{Zf:J7}(h:AL [(184,q73 Zf)]):MT 140 (We (q08 Zf)):=mS h []
theorem q1r:MT 140 (We Z6):=z77 ⟨z3c,trivial⟩
def q69(X:q09):Con Sg:=conS [.int .i64,.int .i64] [.int .i64] fun a K=>X a.1 a.2.1 (fun q0=>K (q0,()))
theorem j4i:MT 73 (q69 q1a):=mS (l:=[]) trivial []
def B6(X:W3):Con Sg:=conS [.sl C.cool] [.vec 125 C.cool] fun a K=>X a.1 (fun q0=>K (q0,()))
theorem z6h{Qm:Q4}(h:AL [(193,Jm Qm)]):MT 141 (B6 (B2 Qm)):=mS h [(7,⟨bl 973,[],[],[sI 10,(.obj 0,.own 125 C.cool)]⟩),(13,⟨bl 16349,[],[],[sI 5,(.obj 0,.own 125 C.cool)]⟩)]
theorem z6i:MT 141 (B6 U2):=z6h ⟨Jn,trivial⟩
def Rh(X:Uh):Con Sg:=conS [.sl C.cool,.int .i64] [.vec 125 C.cool] fun a K=>X a.1 a.2.1 (fun q0=>K (q0,()))
theorem z90{U9:W3}(h:AL [(141,B6 U9)]):MT 74 (Rh (q2v U9)):=mS h [(9,⟨bl 6163,[],[],[(.slot 5,.own 125 C.cool),sI 13,(.obj 0,.own 125 C.cool)]⟩),(28,⟨bl 129139,[],[],[sI 7,(.obj 0,.own 125 C.cool),(.obj 1,.own 125 C.cool)]⟩),(17,⟨bl 522355,[],[],[sI 7,sI 19,(.obj 0,.own 125 C.cool),(.obj 1,.own 125 C.cool)]⟩)]
theorem z91:MT 74 (Rh H7):=z90 ⟨z6i,trivial⟩
end Go.En
end
noncomputable section
set_option maxRecDepth 100000
open Go Go.RowKit Go.Fl Go.Fl.Lk Go.Fx Go.Proofs
namespace Go.En
def v0d:Prop:= ∀(σ:Hv) (w:World) (v:Value) (l:List Col),View σ w->Glb D σ->RepF D σ v (.sl C.cool l)->Sml l.length->Calls Tryz.prog 193 #[v] w fun e w1=> ∃(u:Value) (σ1:Hv) (ys:List Value),e= .returned u/\St ⟨w,σ,[]⟩ w1 σ1 [vec u 125 3 l.length ys]/\Els D σ1 C.cool ys l
theorem w0w(hC:v0d){σ:Hv}{w:World}{cs:List Value}{x:Lay_}(hV:View σ w)(hG:Glb D σ)(hr:RowF D σ cs (D.shape C.layer x))(hs:Sml x.6.length):
  Calls Tryz.prog 138 #[.agg cs.toArray] w fun e w1=> ∃(u:Value) (σ1:Hv) (ys:List Value),e= .returned (.agg (cs.set 5 u).toArray)/\u.oneCell'=true/\St ⟨w,σ,[]⟩ w1 σ1 [vec u 125 3 x.6.length ys]/\Els D σ1 C.cool ys x.6:=by
 refine enter Tryz.func138 rfl rfl rfl ?_
 have hS:=St.start hV
 obtain⟨c0,c1,c2,c3,c4,c5,rfl⟩: ∃c0 c1 c2 c3 c4 c5,cs=[c0,c1,c2,c3,c4,c5]:=by
  match cs,hr.1 with
  |[c0,c1,c2,c3,c4,c5],_=>exact⟨c0,c1,c2,c3,c4,c5,rfl⟩
 have h5:RepF D σ c5 (.sl C.cool x.6):=hr.2 5 c5 _ rfl rfl
 have ones: ∀u∈[c0,c1,c2,c3,c4,c5],u.oneCell'=true:=fun u hu=>by
  obtain⟨j,hj⟩:=List.mem_iff_getElem?.1 hu
  obtain⟨s,hs⟩:=getq (l:=D.shape C.layer x) (k:=j) (by rw[←hr.1];exact Qe hj)
  exact (hr.2 j u s hj hs).one
 refine Qp ?_
 refine v73 (cs:=[c0,c1,c2,c3,c4,c5]) hS rfl rfl ?_
 intro b1 w1 hS1
 refine q4e hS1 Tryz.zeroValue61 rfl ?_
 intro b2 w2 hS2
 refine wpList_nil ?_
 refine Qj ?_
 refine Qp ?_
 refine z8t (a':=⟨b1,5,none⟩) rfl Tryz.underlying61 rfl Tryz.sizeOf59 rfl ?_
 refine q4v (v:=c5) rfl Tryz.isAgg59 (hS2.cell (i:=1) rfl rfl) ?_
 refine q84 (args:=[c5]) rfl (fun _ _=>rfl) (Calls.mono (hC σ w2 c5 x.6 hS2.view hG h5 hs) ?_)
 rintro e w3 ⟨u,σ3,ys,rfl,hS3,hE⟩
 obtain⟨a,cap,rfl⟩:=z16 (hS3.get (i:=0) rfl)
 have hS4:=St.callM (ins:=[]) hS2 hS3 rfl
 refine⟨_,rfl,?_⟩
 refine z8t (a':=⟨b1,5,none⟩) rfl Tryz.underlying61 rfl Tryz.sizeOf59 rfl ?_
 refine Bt (vs:=[.slice a x.6.length cap]) hS4 rfl rfl rfl Tryz.sizeOf59 rfl (by simp[Value.oneCell']) (i:=2) rfl (by simp) rfl rfl ?_
 intro w4 hS5
 refine wpList_nil ?_
 refine Qj ?_
 refine Qp ?_
 refine j2k (cs:=[c0,c1,c2,c3,c4,.slice a x.6.length cap]) rfl Tryz.isAgg61 Tryz.sizeOf61 rfl (q2j (hS5.get (i:=2) rfl)) ?_
 refine Bt (vs:=[c0,c1,c2,c3,c4,.slice a x.6.length cap]) hS5 rfl rfl rfl Tryz.sizeOf61 rfl (fun u hu=> ?_) (i:=1) rfl (by decide) rfl rfl ?_
 ·simp only[List.mem_cons,List.not_mem_nil,or_false] at hu
  rcases hu with rfl|rfl|rfl|rfl|rfl|rfl
  all_goals first|rfl|exact ones _ (by simp)
 intro w5 hS6
 refine wpList_nil ?_
 refine Qj ?_
 refine wp_ret ?_
 refine v33 rfl rfl (hS6.get (i:=1) rfl) Tryz.underlying61 rfl rfl ?_
 exact⟨.slice a x.6.length cap,σ3,ys,rfl,rfl,(hS6.drop 2 rfl).drop 1 rfl,hE⟩
section
variable {P:Program}{ops:Array Oper}{Q:Exit->Act->World->Prop}{rest:List Oper}{n:Nat}{f:Fr}{w:World}{d:Nat}{t:TypeId}{p:String}{af:Array Edge}{c:Cx}{σ:Hv}{ms:List HObj}
theorem v0e{ty e:TypeId}{l cc:Operand}{k size:Nat}{i:TypeInfo}{z:Value}(hS:St c w σ ms)(hl:ev n f l= .int .i64 (0:Int))(hc:ev n f cc= .int .i64 ((k:Nat):Int))
  (hu:P.underlying ty=some (.slice e))(hi:P.info? e=some i)(hz:i.zero=some z)(hsz:i.size=size)(hzl:z.cells.toList.length=size)(hb:i.bytes*k<=281474976710656)(hm:k<=maxLen)
  (h: ∀b w',St c w' σ (vec (.slice (some ⟨b,0,none⟩) 0 k) e size 0 []::ms)->wpList P ops Q rest (mk n (upd f d (.slice (some ⟨b,0,none⟩) 0 k))) w'):
  wpList P ops Q (⟨some d,.makeSlice ty l cc,t,p,af,none⟩::rest) (mk n f) w:=by
 obtain⟨w',hr,ho,hg⟩:=j0q (P:=P) w ty e i z size hu hi hz hsz hzl 0 k (Nat.zero_le _) hb hm
 refine q4x rfl rfl (by simp only[execOp,hl,hc,Sem.run_bind];rw[show ((0:Int))=((0:Nat):Int) from rfl,hr];simp only[Result.andThen_ok];rfl) (h _ _ (hS.add ⟨hg.os,hg.tape,hg.output,hg.size,fun k hk _=>hg.block k hk (by simp)⟩ ?_ (by rintro k ⟨⟩;exact Nat.le_refl _)))
 have ho:(vec (.slice (some ⟨w.heap.size,0,none⟩) 0 k) e size 0 (List.replicate 0 z.cells.toList).flatten).ok w':=ho
 exact ho
end
def CopS(σ:Hv)(xs:List Value)(l:List Lay_)(j k:Nat)(u:Value):Prop:=
 xs.length=j*6/\ ∀(i:Nat) y,i<j->l[i]? =some y-> ∀(q:Nat) v s,((xs.drop (i*6)).take 6)[q]? =some v->(D.shape C.layer y)[q]? =some s->(i=k/\q=5/\v=u)∨(¬(i=k/\q=5)/\RepF D σ v s)
theorem CopS.snoc{σ τ:Hv}{xs cs:List Value}{l:List Lay_}{j k:Nat}{u u':Value}{y:Lay_}(h:CopS σ xs l j k u)(hs:Sub σ τ)(hy:l[j]? =some y)(hcl:cs.length=6)(hu:k<j->u'=u)
  (hr: ∀(q:Nat) v s,cs[q]? =some v->(D.shape C.layer y)[q]? =some s->(j=k/\q=5/\v=u')∨(¬(j=k/\q=5)/\RepF D τ v s)):CopS τ (xs++cs) l (j+1) k u':=by
 have h1:=h.1
 refine⟨by rw[List.length_append];omega,fun i z hi hz q v s hv hs'=> ?_⟩
 by_cases e:i=j
 ·subst e
  rw[hy] at hz;cases hz
  refine hr q v s ?_ hs'
  rw[List.drop_append_of_le_length (by omega),List.drop_eq_nil_of_le (by omega),List.nil_append,List.take_of_length_le (by omega)] at hv
  exact hv
 ·have hi':i<j:=by omega
  have hb:(i+1)*6<=j*6:=Nat.mul_le_mul_right _ hi'
  rw[List.drop_append_of_le_length (by omega),List.take_append_of_le_length (by rw[List.length_drop];omega)] at hv
  rcases h.2 i z hi' hz q v s hv hs' with ⟨e1,e2,e3⟩|⟨no,hr'⟩
  ·exact .inl ⟨e1,e2,e3.trans (hu (by omega)).symm⟩
  ·exact .inr ⟨no,hr'.mono hs⟩
theorem w3e(hC:v0d){σ:Hv}{w:World}{v:Value}{l:List Lay_}{k:Nat}{x:Lay_}(hV:View σ w)(hG:Glb D σ)(hf:RepF D σ v (.sl C.layer l))(hsm:Sml l.length)(hcs: ∀x∈l,Sml x.6.length)(hk:l[k]? =some x):
  Calls Tryz.prog 137 #[v,.func (.func 138) #[] #[]] w fun e w1=> ∃(r u:Value) (σ1:Hv) (xs ys:List Value),e= .returned r/\r.oneCell'=true/\u.oneCell'=true/\St ⟨w,σ,[]⟩ w1 σ1 [vec r 61 6 l.length xs,vec u 125 3 x.6.length ys]/\CopS σ1 xs l l.length k u/\Els D σ1 C.cool ys x.6:=by
 refine enter Tryz.func137 rfl rfl rfl ?_
 have hS:=St.start hV
 obtain⟨ad,cap,rfl,_,h47,hrow⟩:=hf.toRSl okP.ok
 have hsm':l.length<=4294967296:=hsm
 have hkl:=Qe hk
 refine Qp ?_
 refine Q0 (v:= .slice none 0 0) rfl ?_
 refine wpList_nil ?_
 refine Qj ?_
 refine Qp ?_
 refine Qy (v:= .slice ad l.length cap) rfl ?_
 refine q5w rfl Tryz.underlying32 ?_
 refine v0e (k:=l.length) (size:=6) hS rfl rfl Tryz.underlying32 rfl rfl rfl rfl (by show 88*l.length<=_;omega) (by unfold maxLen;omega) ?_
 intro b0 w1 hS1
 refine Q0 (v:= .slice (some ⟨b0,0,none⟩) 0 l.length) rfl ?_
 refine wpList_nil ?_
 refine Qj ?_
 refine wp_seq ?_
 refine Qp ?_
 refine Qy (v:= .slice ad l.length cap) rfl ?_
 refine q5w rfl Tryz.underlying32 ?_
 refine Qy (v:= .int .i64 ((0:Nat):Int)) rfl ?_
 refine wpList_nil ?_
 refine Qj ?_
 refine wp_block ?_
 refine loop (fun m f z=> ∃(j:Nat) (r u:Value) (σj:Hv) (xs ys:List Value),m=l.length - j/\j<=l.length/\f 1= .func (.func 138) #[] #[]/\f 5=r/\f 11= .slice ad l.length cap/\f 12= .int .i64 ((l.length:Nat):Int)/\f 13= .int .i64 ((j:Nat):Int)/\r.oneCell'=true/\Sub σ σj/\
  St ⟨w,σ,[]⟩ z σj (vec r 61 6 j xs::(if k<j then [vec u 125 3 x.6.length ys] else []))/\CopS σj xs l j k u/\(k<j->u.oneCell'=true/\Els D σj C.cool ys x.6)) (m0:=l.length)
  ⟨0,.slice (some ⟨b0,0,none⟩) 0 l.length,.slice none 0 0,σ,[],[],rfl,Nat.zero_le _,rfl,rfl,rfl,rfl,rfl,rfl,Sub.refl _,by rw[if_neg (by omega)];exact hS1,⟨rfl,fun i y hi=>by omega⟩,fun h=>by omega⟩ ?_
 rintro _ f z ⟨j,r,u,σj,xs,ys,rfl,hj,f1,f5,f11,f12,f13,hr1,hsub,hSj,hcop,hku⟩
 refine Qp ?_
 refine w1o (r:=decide (((j:Nat):Int)<((l.length:Nat):Int))) f13 f12 rfl ?_
 refine wpList_nil ?_
 refine Qj ?_
 refine wp_seq ?_
 refine if_d (((j:Nat):Int)<((l.length:Nat):Int)) rfl (fun ht=> ?_) (fun ht=> ?_)
 ·refine wp_skip ?_
  refine Qj ?_
  refine wp_seq ?_
  refine wp_block ?_
  have hjl:j<l.length:=by omega
  obtain⟨y,hy⟩:=getq (l:=l) (k:=j) hjl
  obtain⟨ad1,cs,had,hcl,hvr,hrF⟩:=hrow j y hy
  obtain⟨c0,c1,c2,c3,c4,c5,rfl⟩: ∃c0 c1 c2 c3 c4 c5,cs=[c0,c1,c2,c3,c4,c5]:=by
   match cs,hcl with
   |[c0,c1,c2,c3,c4,c5],_=>exact⟨c0,c1,c2,c3,c4,c5,rfl⟩
  have ones: ∀u∈[c0,c1,c2,c3,c4,c5],u.oneCell'=true:=fun u hu=>by
   obtain⟨q,hq⟩:=List.mem_iff_getElem?.1 hu
   obtain⟨s,hs⟩:=getq (l:=D.shape C.layer y) (k:=q) (by rw[←hrF.1];exact Qe hq)
   exact (hrF.2 q u s hq hs).one
  refine Qp ?_
  refine q0n (k:=j) (a':=ad1.add (j*6)) (f11.trans (by rw[had])) f13 rfl hjl Tryz.underlying32 Tryz.sizeOf61 rfl ?_
  refine j2k (cs:=[c0,c1,c2,c3,c4,c5]) rfl Tryz.isAgg61 Tryz.sizeOf61 rfl (hvr.row (View.of hsub hSj.view)) ?_
  refine q4e hSj Tryz.zeroValue61 rfl ?_
  intro b7 w2 hS2
  refine Bt (vs:=[c0,c1,c2,c3,c4,c5]) hS2 rfl rfl rfl Tryz.sizeOf61 rfl ones (i:=0) rfl (by decide) rfl rfl ?_
  intro w3 hS3
  refine wpList_nil ?_
  refine Qj ?_
  refine Gs ?_
  refine Qy (v:=r) f5 ?_
  refine Qy (v:= .func (.func 138) #[] #[]) f1 ?_
  refine j2k (cs:=[c0,c1,c2,c3,c4,c5]) rfl Tryz.isAgg61 Tryz.sizeOf61 rfl (q2j (hS3.get (i:=0) rfl)) ?_
  refine w7p (first:=[]) (captured:=[]) (args:=[.agg #[c0,c1,c2,c3,c4,c5]]) rfl rfl (fun _ _=>rfl) (Calls.mono (w0w hC hS3.view (hG.mono hsub) (hrF.mono hsub) (hcs y (List.mem_of_getElem? hy))) ?_)
  rintro _ w4 ⟨u',σ4,ys',rfl,hu1,hS4,hE4⟩
  refine⟨_,rfl,?_⟩
  have hS5:=St.callM (ins:=[]) hS3 hS4 rfl
  refine q3c (cs:=[c0,c1,c2,c3,c4,u']) (e:=61) hS5 (fun _=>by kernel_rfl) ?_
  intro b8 w5 hS6
  refine j7a (Ms:=fun v2=>blk b8 61 [c0,c1,c2,c3,c4,u']::vec u' 125 3 y.6.length ys'::blk b7 61 [c0,c1,c2,c3,c4,c5]::vec v2 61 6 (j+1) (xs++[c0,c1,c2,c3,c4,u'])::(if k<j then [vec u 125 3 x.6.length ys] else [])) (xs':=xs++[c0,c1,c2,c3,c4,u']) Tryz.underlying32 Tryz.type61 rfl rfl (bytes:=88) rfl rfl (Nat.succ_pos _) hS6 (v:=r) rfl (q:=3) rfl rfl rfl (q2j (hS6.get (i:=0) rfl)) (fun z hz=> ?_) (by omega) (by unfold maxLen;omega) rfl (fun _=>rfl) ?_
  ·simp only[List.mem_cons,List.not_mem_nil,or_false] at hz
   rcases hz with rfl|rfl|rfl|rfl|rfl|rfl
   all_goals first|exact hu1|exact ones _ (by simp)
  intro v2 w6 hv2 hS7
  refine Q0 (v:=v2) rfl ?_
  refine wpList_nil ?_
  refine j49 ?_
  refine Qj ?_
  refine Gs ?_
  refine z14 (r:=((j+1:Nat):Int)) f13 rfl (nw (by omega) (by omega) (by omega)) ?_
  refine Qy (v:= .int .i64 ((j+1:Nat):Int)) rfl ?_
  refine wpList_nil ?_
  refine Qj ?_
  have hS8:=(hS7.drop 2 rfl).drop 0 rfl
  have cells: ∀(q:Nat) v s,[c0,c1,c2,c3,c4,u'][q]? =some v->(D.shape C.layer y)[q]? =some s->(q=5/\v=u')∨(q≠5/\RepF D σ v s):=fun q v s hv hs=>by
   match q,hv with
   |0,hv=>exact .inr ⟨by decide,hrF.2 0 v s hv hs⟩
   |1,hv=>exact .inr ⟨by decide,hrF.2 1 v s hv hs⟩
   |2,hv=>exact .inr ⟨by decide,hrF.2 2 v s hv hs⟩
   |3,hv=>exact .inr ⟨by decide,hrF.2 3 v s hv hs⟩
   |4,hv=>exact .inr ⟨by decide,hrF.2 4 v s hv hs⟩
   |5,hv=>cases hv;exact .inl ⟨rfl,rfl⟩
  have hs4:=hS4.sub
  by_cases hjk:j=k
  ·subst hjk
   rw[hk] at hy;cases hy
   rw[if_neg (by omega)] at hS8
   refine⟨_,_,rfl,⟨j+1,v2,u',σ4,xs++[c0,c1,c2,c3,c4,u'],ys',rfl,by omega,f1,rfl,f11,f12,rfl,hv2,hsub.trans hs4,?_,hcop.snoc hs4 hk rfl (fun h=>by omega) (fun q v s hv hs=> ?_),fun _=>⟨hu1,hE4⟩⟩,by omega⟩
   ·rw[if_pos (by omega)]
    exact hS8.perm (List.Perm.swap _ _ _)
   ·rcases cells q v s hv hs with ⟨e1,e2⟩|⟨e1,e2⟩
    ·exact .inl ⟨rfl,e1,e2⟩
    ·exact .inr ⟨fun e=>e1 e.2,e2.mono (hsub.trans hs4)⟩
  ·obtain⟨σ5,hS9,hs5,hrep⟩:=z8x (T:=C.cool) okP.ok hS8 hE4 (by have h1:y.6.length<=4294967296:=hcs y (List.mem_of_getElem? hy);omega)
   have hS10:=hS9.drop 0 rfl
   have hs:=hs4.trans hs5
   refine⟨_,_,rfl,⟨j+1,v2,u,σ5,xs++[c0,c1,c2,c3,c4,u'],ys,rfl,by omega,f1,rfl,f11,f12,rfl,hv2,hsub.trans hs,?_,hcop.snoc hs hy rfl (fun _=>rfl) (fun q v s hv hs'=> ?_),fun h=>⟨(hku (by omega)).1,(hku (by omega)).2.mono hs⟩⟩,by omega⟩
   ·rw[show (if k<j+1 then [vec u 125 3 x.6.length ys] else [])=(if k<j then [vec u 125 3 x.6.length ys] else []) from by
     by_cases h:k<j
     ·rw[if_pos h,if_pos (by omega)]
     ·rw[if_neg h,if_neg (by omega)]]
    exact hS10
   ·rcases cells q v s hv hs' with ⟨e1,e2⟩|⟨e1,e2⟩
    ·subst e1 e2
     cases hs'
     exact .inr ⟨fun e=>hjk e.1,hrep⟩
    ·exact .inr ⟨fun e=>e1 e.2,e2.mono (hsub.trans hs)⟩
 ·refine wp_exit ?_
  refine q85 ?_
  refine q85 ?_
  refine z5s ?_
  refine Qj ?_
  refine Qp ?_
  refine Qy (v:=r) f5 ?_
  refine Q0 (v:=r) rfl ?_
  refine wpList_nil ?_
  refine Qj ?_
  refine wp_ret ?_
  refine ret1 rfl (show ev _ _ _=r from rfl) ?_
  obtain rfl:j=l.length:=by omega
  rw[if_pos hkl] at hSj
  exact⟨r,u,σj,xs,ys,rfl,hr1,(hku hkl).1,hSj,hcop,(hku hkl).2⟩
theorem v0f{σ:Hv}{t0:Tr Sg}{v0:Value}{ms m:List HObj}(h:LayT D σ [t0] [.same] [v0] ms m):m=[]:=by
 cases h with
 |skip h=>cases h;rfl
 |keep h h'=>
  cases h'
  cases h with
  |same=>rfl
  |v=>rfl
theorem v8z:v0d:=by
 intro σ w v l hV hG hf hs
 have h:=Jn.m (putL ([.sl C.cool]:LV) (l,())) (fun rets outs=>rets=[.vec 125 C.cool l]/\outs=[.same]) (by
  show Q5 l fun (q:List Col)=>([Tr.vec (S:=Sg) 125 C.cool q]:List (Tr Sg))=[Tr.vec (S:=Sg) 125 C.cool l]/\([.same]:List (Tr Sg))=[.same]
  unfold Q5
  intro n0 hn
  exact⟨fun h=>by rw[hn h];exact⟨rfl,rfl⟩,fun _=>⟨by simpa using hs,rfl,rfl⟩⟩) w σ [v] [] hG (.cons (ms:=[]) (.f hf) .nil) (St.start hV)
 refine Calls.mono h ?_
 rintro e w1 ⟨rets,outs,rv,σ1,msr,mso,rfl,hq,hLr,hLT,hS⟩
 obtain⟨hq1,hq2⟩:=hq
 subst hq1 hq2
 cases hLr with
 | @cons _ _ u _ m1 _ h1 hn=>
 cases hn
 cases h1 with
 | @vec _ _ _ _ ys hE hl h1=>
 have hmo:mso=[]:=v0f hLT
 subst hmo
 exact⟨_,σ1,ys,rfl,hS,hE⟩
theorem z92:q8e Proofs.Tryz.prog D 137 (conV ([.sl C.layer,.fnc 138]:LP) ([.sl C.layer,.fnc 138]:LV) ([.vech 61 C.layer 5 125 C.cool]:LV) ([.same,.same]:LV) (fun a K=>q2x a.1 (fun q0=>K (q0,()) ((),(),())))):=by
 intro args K hm w σ vals ins hG hL hS
 obtain⟨a,ha,hm⟩:=Qg hm
 have hargs:=Wz ha
 subst hargs
 obtain⟨l,_,_⟩:=a
 cases hL with
 | @cons _ _ v1 _ _ _ hp hr=>
 cases hr with
 | @cons _ _ v2 _ _ _ hq hr=>
 cases hr
 cases hp with
 |f hf1=>
 cases hq
 obtain⟨hsm,hcs,k,x,hk,hK⟩:=hm
 refine Calls.mono (w3e v8z hS.view hG hf1 hsm hcs hk) ?_
 rintro e w1 ⟨r,u,σ1,xs,ys,rfl,hr1,hu1,hS1,hcop,hE⟩
 have b1:l.length<=4294967296:=hsm
 have b2:x.6.length<=4294967296:=hcs x (List.mem_of_getElem? hk)
 exact⟨_,[.same,.same],[r],σ1,_,[],rfl,hK,.cons (.vech ⟨hcop.1,hu1,fun i y hy=>⟨rfl,fun q v s hv hs=>hcop.2 i y (Qe hy) hy q v s hv hs⟩⟩ (Nat.le_trans b1 (by decide)) hr1 hE (Nat.le_trans b2 (by decide))) .nil,.skip (a0:=[]) (.skip (a0:=[]) .nil),hS1⟩
end Go.En
end
noncomputable section
set_option maxRecDepth 100000
open Go Go.RowKit Go.Fl Go.Fl.Lk Go.Fx
namespace Go.En
def q26(X:q2w):Con Sg:=conV [.sl C.layer,.fnc 138] [.sl C.layer,.fnc 138] [.vech 61 C.layer 5 125 C.cool] [.same,.same] fun a K=>X a.1 (fun q0=>K (q0,()) ((),(),()))
theorem z93:MT 137 (q26 q2x):=⟨entB (by kernel_rfl),z92⟩
def q8u(X:R1):Con Sg:=conS [.el C.env,.str,.int .i64] [.el C.env,.int .i64] fun a K=>X a.1 a.2.1 a.2.2.1 (fun q0 q1=>K (q0,q1,()))
theorem j5m{Zg:J0}{Q3:Jl}{Zm:Vn}{Uo:q2w}{Qq:Zq}{Up:Uh}{Hx:q09}(h:AL [(71,Gq Zg),(134,Um Q3),(136,q0j Zm),(140,We Qq),(74,Rh Up),(73,q69 Hx)])(ha:AL [(137,q26 Uo)]):MT 18 (q8u (q8i Zg Q3 Zm Uo Qq Up Hx)):=mtS (E:=E0.wa [(137,q26 Uo)]) (l:=[(71,Gq Zg),(134,Um Q3),(136,q0j Zm),(140,We Qq),(74,Rh Up),(73,q69 Hx)]) (u:=4) (p:=Ze [(73990017,⟨[],[],[],[]⟩),(73000004,⟨[0,1,2],[3],[(2,(35,8))],[(.cell 2 3,.sl C.decl)]⟩),(134000007,⟨bl 7955,[],[],[(.slot 5,.own 97 C.seg),sI 13]⟩),(136000007,⟨bl 7955,[],[],[(.slot 5,.own 91 C.flag),sI 13]⟩),(140000007,⟨bl 7955,[],[],[(.slot 5,.own 58 C.exper),sI 13]⟩),(32,⟨bl 2251765252562895,[17,21,3,2,10,6,1,0],[],[(.slot 13,.own 125 C.cool),(.obj 13,.vech 61 C.layer 5)]⟩),(25,⟨bl 9223371452537839567,[],[],[(.slot 13,.own 125 C.cool),sI 63,(.obj 13,.vech 61 C.layer 5)]⟩)]) (rk:=List.map VT.pk ([.el C.env,.int .i64]:LV)) (wa3 h_E0 ha) h (by kernel_rfl) (fun _ _=>by kernel_rfl)
theorem j5n:MT 18 (q8u q3j):=j5m ⟨q8t,q68,z3e,q1r,z91,j4i,trivial⟩ ⟨z93,trivial⟩
def q74(X:Gw):Con Sg:=conS [.el C.env,.str] [.int .i64] fun a K=>X a.1 a.2.1 (fun q0=>K (q0,()))
theorem z78:MT 19 (q74 Gx):=mS (l:=[]) trivial [(5,⟨[0,1,2],[0],[],[sI 5]⟩)]
def q7a(X:U3):Con Sg:=conS [.el C.layer,.int .i64] [.vec 75 C.span] fun a K=>X a.1 a.2.1 (fun q0=>K (q0,()))
theorem z6j:MT 122 (q7a W4):=mS (l:=[]) trivial [(7,⟨bl 1815,[0],[],[(.slot 5,.own 75 C.span),sI 11]⟩)]
def q1s(X:W5):Con Sg:=conS [.el C.env,.str,.str,.int .i64] [.sl C.span] fun a K=>X a.1 a.2.1 a.2.2.1 a.2.2.2.1 (fun q0=>K (q0,()))
theorem j4j{Zd:J6}{Jd:Gb}{W8:U3}(h:AL [(75,q1q Zd),(36,q4k Jd),(122,q7a W8)]):MT 77 (q1s (q6n Zd Jd W8)):=mS h [(10,⟨bl 254751,[0],[],[(.slot 10,.own 75 C.span)]⟩),(13,⟨bl 120259339039,[0],[],[(.slot 10,.own 75 C.span),sI 37]⟩)]
theorem z3f:MT 77 (q1s Ho):=j4j ⟨q67,z1o,z6j,trivial⟩
def z3g(X:q6o):Con Sg:=conV [.sl C.span,.sl C.span] [.sl C.span,.sl C.span] [.sl C.span] [.same,.same] fun a K=>X a.1 a.2.1 (fun q0=>K (q0,()) ((),(),()))
theorem j4k:MT 76 (z3g q1b):=⟨entB (by kernel_rfl),j3o⟩
def q8v(X:R2):Con Sg:=conS [.el C.env,.str,.int .i64] [.sl C.span,.int .i64] fun a K=>X a.1 a.2.1 a.2.2.1 (fun q0 q1=>K (q0,q1,()))
theorem j5o{Ji:Ve}{Zd:J6}{Jq:W5}{q2a:q6o}(h:AL [(61,q4n Ji),(75,q1q Zd),(77,q1s Jq),(76,z3g q2a)]):MT 21 (q8v (q8j Ji Zd Jq q2a)):=mS h []
theorem j5p:MT 21 (q8v q3k):=j5o ⟨z1s,q67,z3f,j4k,trivial⟩
def z1t(X:q4h):Con Sg:=conV [.sl C.span,.sl C.span] [.sl C.span,.sl C.span] [.sl C.span] [.same,.same] fun a K=>X a.1 a.2.1 (fun q0=>K (q0,()) ((),(),()))
theorem j1n:MT 22 (z1t Bg):=⟨entB (by kernel_rfl),j1e⟩
def z3h(X:q6p):Con Sg:=conV [.sl C.span,.v] [.sl C.span,.int .i64] [.sl C.span] [.same,.same] fun a K=>X a.1 a.2.1 (fun q0=>K (q0,()) ((),(),()))
theorem j4l:MT 82 (z3h q1c):=⟨entB (by kernel_rfl),j3p⟩
def z3i(X:q6q):Con Sg:=conV [.sl C.span,.sl C.span] [.sl C.span,.sl C.span] [.sl C.span] [.same,.same] fun a K=>X a.1 a.2.1 (fun q0=>K (q0,()) ((),(),()))
theorem j4m:MT 81 (z3i q1d):=⟨entB (by kernel_rfl),j3n⟩
def q7b(X:Hp):Con Sg:=conS [.el C.env,.str,.int .i64,.int .i64] [.el C.env,.int .i64] fun a K=>X a.1 a.2.1 a.2.2.1 a.2.2.2.1 (fun q0 q1=>K (q0,q1,()))
theorem j4n{Zg:J0}{q3t:R2}{J1:Rz}{q2b:q6p}{q2c:q6q}{Q3:Jl}{Zm:Vn}{Jr:U0}{Qq:Zq}(h:AL [(71,Gq Zg),(21,q8v q3t),(37,q8p J1),(82,z3h q2b),(81,z3i q2c),(134,Um Q3),(136,q0j Zm),(138,q5g Jr),(140,We Qq)]):MT 23 (q7b (q6r Zg q3t J1 q2b q2c Q3 Zm Jr Qq)):=mS h [(134000007,⟨bl 7955,[],[],[(.slot 5,.own 97 C.seg),sI 13]⟩),(136000007,⟨bl 7955,[],[],[(.slot 5,.own 91 C.flag),sI 13]⟩),(138000007,⟨bl 7955,[],[],[(.slot 5,.own 61 C.layer),sI 13]⟩),(140000007,⟨bl 7955,[],[],[(.slot 5,.own 58 C.exper),sI 13]⟩)]
theorem j4o:MT 23 (q7b q1e):=j4n ⟨q8t,j5p,z5h,j4l,j4m,q68,z3e,z76,q1r,trivial⟩
end Go.En
end
noncomputable section
set_option maxRecDepth 100000
open Go Go.RowKit Go.Fl Go.Fl.Lk Go.Fx
namespace Go.En
def z94(X:q9q):Con Sg:=conV [.ptr 78 [.c,.v],.el C.env,.v] [.ptr 78 [.sl C.u8,.int .i64],.el C.env,.int .i64] [.el C.env] [.ptr 78 [.same,.int .i64],.same,.same] fun a K=>X a.1.1 a.1.2.1 a.2.1 a.2.2.1 (fun q0 q1=>K (q0,()) (((),q1,()),(),(),()))
theorem w6k{Qb:Zu}{Je:H0}{Jg:q0q}{Vo:q43}{Vu:q55}{Z3:q0r}{Zw:V7}{V5:q0s}{Q1:Z0}{Jp:Uy}(h:AL [(33,U5 Qb),(39,z0u Je),(34,z4m Jg),(46,z7u Vo),(47,z7w Vu),(101,z2v Z3),(102,q6w Zw),(100,j2e V5),(103,Ul Q1),(48,q62 Jp)]):MT 12 (z94 (z9f Qb Je Jg Vo Vu Z3 Zw V5 Q1 Jp)):=mP (rk:=[.el C.env]) h [(900107,⟨[],[],[],[]⟩),(900112,⟨[],[],[],[]⟩),(900226,⟨[],[],[],[]⟩),(900231,⟨[],[],[],[]⟩),(7,⟨bl 393431,[4,3,2,1],[(16,(35,8)),(0,(78,2))],[sI 8,(.cell 16 0,.str),(.cell 16 1,.str),(.cell 16 2,.int .i64),(.cell 16 3,.own 102 C.decl),(.cell 16 5,.own 91 C.flag),(.cell 16 7,.own 58 C.exper),(.cell 0 1,.int .i64),(.obj 11,.own 61 C.layer),(.obj 7,.own 97 C.seg)]⟩),(43000009,⟨bl 1073218007,[29,28],[(0,(78,2)),(30,(91,13))],[sI 9,(.cell 0 1,.int .i64),(.cell 30 2,.own 149 C.val),(.obj 7,.own 97 C.seg)]⟩),(43000019,⟨bl 545366356788183,[30,29,28],[(0,(78,2))],[sI 10,(.cell 0 1,.int .i64),(.obj 7,.own 97 C.seg),(.obj 34,.own 149 C.val)]⟩),(43000029,⟨bl 17996814912849879,[29,28],[(0,(78,2)),(30,(91,13))],[sI 11,(.cell 0 1,.int .i64),(.cell 30 6,.own 154 C.target),(.obj 34,.own 149 C.val),(.obj 7,.own 97 C.seg)]⟩),(43000038,⟨bl 19688565898261847554177638359,[30],[(47,(154,3)),(0,(78,2))],[(.cell 47 0,.str),(.cell 0 1,.int .i64),(.obj 46,.own 9 C.str),(.obj 7,.own 97 C.seg),(.obj 34,.own 149 C.val),(.obj 43,.own 154 C.target)]⟩),(43000060,⟨bl 324518589926201333218846174621655,[29,28],[(0,(78,2)),(30,(91,13))],[(.cell 0 1,.int .i64),(.cell 30 7,.own 157 C.rule),(.obj 46,.own 9 C.str),(.obj 7,.own 97 C.seg),(.obj 34,.own 149 C.val),(.obj 43,.own 154 C.target)]⟩),(43000047,⟨bl 324518589926201333218846174621655,[],[(0,(78,2)),(30,(91,13))],[sI 14,(.cell 0 1,.int .i64),(.cell 30 7,.own 157 C.rule),(.obj 46,.own 9 C.str),(.obj 7,.own 97 C.seg),(.obj 34,.own 149 C.val),(.obj 43,.own 154 C.target)]⟩)]
theorem w6l:MT 12 (z94 z4j):=w6k ⟨Rd,z7t,j2d,j74,w0d,j3q,z2x,j76,q22,z6a,trivial⟩
def q9v(X:H8):Con Sg:=conS [.el C.env,.str,.int .i64] [.int .i64,.int .i64] fun a K=>X a.1 a.2.1 a.2.2.1 (fun q0 q1=>K (q0,q1,()))
theorem w6m{G1:Gw}{Rl:q5p}{Qu:Ja}(h:AL [(19,q74 G1),(66,z9p Rl),(20,Re Qu)]):MT 85 (q9v (z9g G1 Rl Qu)):=mS h []
theorem z95:MT 85 (q9v q5u):=w6m ⟨z78,j6v,q1n,trivial⟩
def z96(X:q9r):Con Sg:=conS [.sl C.span] [.int .i64] fun a K=>X a.1 (fun q0=>K (q0,()))
theorem w6n{Zc:Vj}(h:AL [(83,q61 Zc)]):MT 87 (z96 (z9h Zc)):=mS h [(9,⟨bl 213,[0],[],[sI 3,sI 5]⟩)]
theorem w6o:MT 87 (z96 z4k):=w6n ⟨q9u,trivial⟩
def z4r(X:q0i):Con Sg:=conS [.el C.env,.int .i64,.el C.exper] [.el C.env] fun a K=>X a.1 a.2.1 a.2.2.1 (fun q0=>K (q0,()))
theorem z97:MT 89 (z4r q2y):=mS (l:=[]) trivial []
def z6k(X:q6s):Con Sg:=conS [.el C.env,.str,.int .i64,.int .i64] [.el C.env,.int .i64] fun a K=>X a.1 a.2.1 a.2.2.1 a.2.2.2.1 (fun q0 q1=>K (q0,q1,()))
theorem w3f{Wh:H8}{Rq:q2n}{z43:q9r}{Jp:Uy}{Wp:Bx}{Jx:q0i}(h:AL [(85,q9v Wh),(86,z4n Rq),(87,z96 z43),(48,q62 Jp),(88,z0x Wp),(89,z4r Jx)]):MT 26 (z6k (z57 Wh Rq z43 Jp Wp Jx)):=mS h []
theorem w3g:MT 26 (z6k z0q):=w3f ⟨z95,j6w,w6o,z6a,j3z,z97,trivial⟩
def q9w(X:H9):Con Sg:=conS [.sl C.decl,.sl C.decl] [.bool] fun a K=>X a.1 a.2.1 (fun q0=>K (q0,()))
theorem z98:MT 90 (q9w Ra):=mS (l:=[]) trivial [(9,⟨bl 1987,[],[],[sI 5]⟩)]
def q4o(X:Gf):Con Sg:=conS [.el C.seg,.el C.seg] [.bool] fun a K=>X a.1 a.2.1 (fun q0=>K (q0,()))
theorem j1o{W7:q31}{Za:Zy}(h:AL [(196,z7x W7),(125,q1k Za)]):MT 147 (q4o (q4i W7 Za)):=mS h []
theorem j1p:MT 147 (q4o Bh):=j1o ⟨j3r,q5d,trivial⟩
def q27(X:Ui):Con Sg:=conS [.sl C.seg,.sl C.seg] [.bool] fun a K=>X a.1 a.2.1 (fun q0=>K (q0,()))
theorem z99{Bp:Gf}(h:AL [(147,q4o Bp)]):MT 91 (q27 (q2z Bp)):=mS h [(9,⟨bl 1987,[],[],[sI 5]⟩)]
theorem j0a:MT 91 (q27 Rb):=z99 ⟨j1p,trivial⟩
def q2i(X:W9):Con Sg:=conS [.sl C.prereq,.sl C.prereq] [.bool] fun a K=>X a.1 a.2.1 (fun q0=>K (q0,()))
theorem z10:MT 197 (q2i Va):=mS (l:=[]) trivial [(9,⟨bl 1987,[],[],[sI 5]⟩)]
def q4p(X:Gg):Con Sg:=conS [.sl C.target,.sl C.target] [.bool] fun a K=>X a.1 a.2.1 (fun q0=>K (q0,()))
theorem j1q{W7:q31}(h:AL [(196,z7x W7)]):MT 198 (q4p (q4j W7)):=mS h [(9,⟨bl 1987,[],[],[sI 5]⟩)]
theorem j1r:MT 198 (q4p Bi):=j1q ⟨j3r,trivial⟩
def q7c(X:Uj):Con Sg:=conS [.sl C.range,.sl C.range] [.bool] fun a K=>X a.1 a.2.1 (fun q0=>K (q0,()))
theorem z3j:MT 124 (q7c Hq):=mS (l:=[]) trivial [(9,⟨bl 1987,[],[],[sI 5]⟩)]
def q3q(X:V1):Con Sg:=conS [.el C.serve,.el C.serve] [.bool] fun a K=>X a.1 a.2.1 (fun q0=>K (q0,()))
theorem j5q{Js:Uj}(h:AL [(124,q7c Js)]):MT 200 (q3q (q8k Js)):=mS h []
theorem z5l:MT 200 (q3q R3):=j5q ⟨z3j,trivial⟩
end Go.En
end
noncomputable section
set_option maxRecDepth 100000
open Go Go.RowKit Go.Fl Go.Fl.Lk Go.Fx
namespace Go.En
def q8w(X:R4):Con Sg:=conS [.sl C.rule,.sl C.rule] [.bool] fun a K=>X a.1 a.2.1 (fun q0=>K (q0,()))
theorem j5r{Za:Zy}{J3:V1}(h:AL [(125,q1k Za),(200,q3q J3)]):MT 199 (q8w (q8l Za J3)):=mS h [(9,⟨bl 1987,[],[],[sI 5]⟩)]
theorem j5s:MT 199 (q8w q3l):=j5r ⟨q5d,z5l,trivial⟩
def z05(X:q1f):Con Sg:=conS [.el C.flag,.el C.flag] [.bool] fun a K=>X a.1 a.2.1 (fun q0=>K (q0,()))
theorem j8i{Un:V9}{Vb:W9}{Bq:Gg}{q3u:R4}{J3:V1}(h:AL [(127,q1j Un),(197,q2i Vb),(198,q4p Bq),(199,q8w q3u),(200,q3q J3)]):MT 148 (z05 (z0r Un Vb Bq q3u J3)):=mS h []
theorem j8j:MT 148 (z05 q5a):=j8i ⟨z2y,z10,j1r,j5s,z5l,trivial⟩
def q8x(X:R5):Con Sg:=conS [.sl C.flag,.sl C.flag] [.bool] fun a K=>X a.1 a.2.1 (fun q0=>K (q0,()))
theorem j5t{q5m:q1f}(h:AL [(148,z05 q5m)]):MT 92 (q8x (q8m q5m)):=mS h [(9,⟨bl 1987,[],[],[sI 5]⟩)]
theorem j5u:MT 92 (q8x q3m):=j5t ⟨j8j,trivial⟩
def z1u(X:Bj):Con Sg:=conS [.sl C.cool,.sl C.cool] [.bool] fun a K=>X a.1 a.2.1 (fun q0=>K (q0,()))
theorem j1s:MT 201 (z1u Bk):=mS (l:=[]) trivial [(9,⟨bl 1987,[],[],[sI 5]⟩)]
def q8y(X:R6):Con Sg:=conS [.el C.layer,.el C.layer] [.bool] fun a K=>X a.1 a.2.1 (fun q0=>K (q0,()))
theorem j5v{Br:Bj}(h:AL [(201,z1u Br)]):MT 149 (q8y (q8n Br)):=mS h []
theorem j5w:MT 149 (q8y q8o):=j5v ⟨j1s,trivial⟩
def q7d(X:Hr):Con Sg:=conS [.sl C.layer,.sl C.layer] [.bool] fun a K=>X a.1 a.2.1 (fun q0=>K (q0,()))
theorem j4p{q3v:R6}(h:AL [(149,q8y q3v)]):MT 93 (q7d (q6t q3v)):=mS h [(9,⟨bl 1987,[],[],[sI 5]⟩)]
theorem j4q:MT 93 (q7d q1g):=j4p ⟨j5w,trivial⟩
def z5m(X:q3n):Con Sg:=conS [.sl C.span,.sl C.span] [.bool] fun a K=>X a.1 a.2.1 (fun q0=>K (q0,()))
theorem j5x:MT 202 (z5m q3o):=mS (l:=[]) trivial [(9,⟨bl 1987,[],[],[sI 5]⟩)]
def B7(X:W6):Con Sg:=conS [.el C.exper,.el C.exper] [.bool] fun a K=>X a.1 a.2.1 (fun q0=>K (q0,()))
theorem z6l{q3w:q3n}{Js:Uj}{Za:Zy}(h:AL [(202,z5m q3w),(124,q7c Js),(125,q1k Za)]):MT 150 (B7 (B3 q3w Js Za)):=mS h []
theorem z6m:MT 150 (B7 U4):=z6l ⟨j5x,z3j,q5d,trivial⟩
def Rx(X:Wr):Con Sg:=conS [.sl C.exper,.sl C.exper] [.bool] fun a K=>X a.1 a.2.1 (fun q0=>K (q0,()))
theorem z49{Ga:W6}(h:AL [(150,B7 Ga)]):MT 94 (Rx (Rv Ga)):=mS h [(9,⟨bl 1987,[],[],[sI 5]⟩)]
theorem z5a:MT 94 (Rx V4):=z49 ⟨z6m,trivial⟩
def j4r(X:z2t):Con Sg:=conS [.el C.env,.el C.env] [.bool] fun a K=>X a.1 a.2.1 (fun q0=>K (q0,()))
theorem v0g{Rs:H9}{Rt:Ui}{q3x:R5}{q2d:Hr}{V6:Wr}(h:AL [(90,q9w Rs),(91,q27 Rt),(92,q8x q3x),(93,q7d q2d),(94,Rx V6)]):MT 27 (j4r (j3k Rs Rt q3x q2d V6)):=mS h []
theorem v0h:MT 27 (j4r z7q):=v0g ⟨z98,j0a,j5u,j4q,z5a,trivial⟩
def q7e(X:Hs):Con Sg:=conS [.el C.env,.str,.int .i64] [.el C.env,.int .i64] fun a K=>X a.1 a.2.1 a.2.2.1 (fun q0 q1=>K (q0,q1,()))
theorem j4s{Zg:J0}{Jq:W5}{Bs:q4h}{Q3:Jl}{Zm:Vn}{Jr:U0}{Qq:Zq}(h:AL [(71,Gq Zg),(77,q1s Jq),(22,z1t Bs),(134,Um Q3),(136,q0j Zm),(138,q5g Jr),(140,We Qq)]):MT 28 (q7e (q6u Zg Jq Bs Q3 Zm Jr Qq)):=mS h [(134000007,⟨bl 7955,[],[],[(.slot 5,.own 97 C.seg),sI 13]⟩),(136000007,⟨bl 7955,[],[],[(.slot 5,.own 91 C.flag),sI 13]⟩),(138000007,⟨bl 7955,[],[],[(.slot 5,.own 61 C.layer),sI 13]⟩),(140000007,⟨bl 7955,[],[],[(.slot 5,.own 58 C.exper),sI 13]⟩)]
theorem j4t:MT 28 (q7e q1h):=j4s ⟨q8t,z3f,j1n,q68,z3e,z76,q1r,trivial⟩
def z6n(X:q6v):Con Sg:=conS [.el C.env,.str,.int .i64] [.el C.env,.int .i64] fun a K=>X a.1 a.2.1 a.2.2.1 (fun q0 q1=>K (q0,q1,()))
theorem w3h{Wh:H8}{U7:By}{Vs:Hi}{Jx:q0i}(h:AL [(85,q9v Wh),(95,z0y U7),(25,q72 Vs),(89,z4r Jx)]):MT 29 (z6n (z58 Wh U7 Vs Jx)):=mS h []
theorem w3i:MT 29 (z6n z0s):=w3h ⟨z95,j30,j0w,z97,trivial⟩
end Go.En
end
noncomputable section
set_option maxRecDepth 100000
open Go Go.RowKit Go.Fl Go.Fl.Lk Go.Fx
namespace Go.En
def w0x(X:z7r):Con Sg:=conS [.int .i64,.int .i64] [.int .i64] fun a K=>X a.1 a.2.1 (fun q0=>K (q0,()))
theorem v0i:MT 97 (w0x j3l):=mS (l:=[]) trivial []
def z79(X:q5b):Con Sg:=conS [.sl C.i64,.int .i64] [.vec 125 C.cool] fun a K=>X a.1 a.2.1 (fun q0=>K (q0,()))
theorem j8k:MT 98 (z79 q1i):=mS (l:=[]) trivial [(7,⟨[0,1,4],[],[],[(.slot 5,.own 125 C.cool),sI 6]⟩)]
def j0b(X:q9s):Con Sg:=conS [.el C.env,.str,.int .i64] [.el C.env,.int .i64] fun a K=>X a.1 a.2.1 a.2.2.1 (fun q0 q1=>K (q0,q1,()))
theorem w6p{Wh:H8}{Qu:Ja}{Z9:Uc}{Zc:Vj}{z8r:z7r}{q2e:q5b}{Jx:q0i}(h:AL [(85,q9v Wh),(20,Re Qu),(96,q6z Z9),(83,q61 Zc),(97,w0x z8r),(98,z79 q2e),(89,z4r Jx)]):MT 30 (j0b (z9i Wh Qu Z9 Zc z8r q2e Jx)):=mS h [(25,⟨bl 4503565166936015,[7,4,2,1,0],[],[sI 15,(.obj 6,.own 3 C.i64)]⟩)]
theorem w6q:MT 30 (j0b z4l):=w6p ⟨z95,q1n,z21,q9u,v0i,j8k,z97,trivial⟩
def U6(X:B4):Con Sg:=conS [.sl C.u8,.int .i64,.int .i64,.int .i64] [.bool] fun a K=>X a.1 a.2.1 a.2.2.1 a.2.2.2.1 (fun q0=>K (q0,()))
theorem z6o{q5n:q0p}{j86:j7p}{q2f:Hl}{z44:q9q}{Jh:Wn}{Vv:J5}{q4u:z88}{q2g:Hp}{z1j:q6s}{q9y:z2t}{q2h:Hs}{z1k:q6v}{q3y:R1}{z45:q9s}(h:AL [(7,z0t q5n),(8,w9v j86),(10,q66 q2f),(12,z94 z44),(14,Bl Jh),(17,Hu Vv),(9,w2r q4u),(23,q7b q2g),(26,z6k z1j),(27,j4r q9y),(28,q7e q2h),(29,z6n z1k),(18,q8u q3y),(30,j0b z45)]):MT 5 (U6 (B5 q5n j86 q2f z44 Jh Vv q4u q2g z1j q9y q2h z1k q3y z45)):=mS h [(21,⟨bl 144115187807428111,[4,3,1,0],[],[sI 57]⟩),(27,⟨bl 6881218755376991759,[],[],[sI 63]⟩)]
theorem z6p:MT 5 (U6 Jj):=z6o ⟨j72,v6l,j4g,w6l,z1r,z3b,w9u,j4o,w3g,v0h,j4t,w3i,j5n,w6q,trivial⟩
end Go.En
end
noncomputable section
set_option maxRecDepth 100000
namespace Go.En
open Go Go.Fl Go.Fl.Lk Go.Fx
theorem Cnd.mk{c A B:Prop}(h:c->A)(k: ¬c->B):Cnd c A B:=⟨h,k⟩
structure DS(list:List Int)(at_:Int):Prop where
 len:list.length<=1000
 lo:0<=at_
 hi:at_<=list.length
 byte: ∀x∈list,0<=x/\x<256
theorem getm{α:Type}{l:List α}{k:Nat}{x:α}(h:l[k]? =some x):x∈l:=List.mem_of_getElem? h
theorem z6q(n:Int):(Go.Utf8.encode n).size<=4:=by
 unfold Go.Utf8.encode
 generalize (if Go.Utf8.valid n then n.toNat else Go.Utf8.runeError)=c
 show (if c<0x80 then _ else if c<0x800 then _ else if c<0x10000 then _ else _:ByteArray).size<=4
 have h1: ∀a:UInt8,(ByteArray.mk #[a]).size<=4:=fun _=>(by decide:1<=4)
 have h2: ∀a b:UInt8,(ByteArray.mk #[a,b]).size<=4:=fun _ _=>(by decide:2<=4)
 have h3: ∀a b c:UInt8,(ByteArray.mk #[a,b,c]).size<=4:=fun _ _ _=>(by decide:3<=4)
 have h4: ∀a b c d:UInt8,(ByteArray.mk #[a,b,c,d]).size<=4:=fun _ _ _ _=>(by decide:4<=4)
 split
 ·exact h1 _
 ·split
  ·exact h2 _ _
  ·split
   ·exact h3 _ _ _
   ·exact h4 _ _ _ _
theorem Qf{list:List Int}{at_ n:Int}{K:Int->Int->Prop}(hD:DS list at_)(hn:1<=n)(h: ∀r a,0<=r->r<n->DS list a->K r a):Zp list at_ n K:=by
 obtain⟨h1,h2,h3,h4⟩:=hD
 unfold Zp j7s j7r
 refine fun _=>Cnd.mk (fun hl=> ?_) (fun _=>h _ _ (by omega) (by omega) ⟨h1,h2,h3,h4⟩)
 have hl:=of_decide_eq_true hl
 refine⟨by unfold InI;omega,by unfold InI;omega,by omega,fun y hy=>⟨by unfold InI;have:=h4 _ (getm hy);omega,by omega,?_⟩⟩
 obtain⟨a,b⟩:=h4 _ (getm hy)
 exact h _ _ (Int.tmod_nonneg _ a) (by have:=Int.tmod_lt_of_pos y (b:=n) (by omega);omega) ⟨h1,by omega,by omega,h4⟩
theorem Hw{list:List Int}{at_ n:Int}{K:Int->Int->Prop}(hD:DS list at_)(hn:1<=n)(h: ∀r a,0<=r->r<n->DS list a->K r a):q99 list at_ n K:=by
 unfold q99 j7u
 refine Qf hD (by decide) fun r a r0 r1 hD=>⟨by unfold InI;omega,Qf hD (by decide) fun s b s0 s1 hD=>⟨by unfold InI;omega,by omega,?_⟩⟩
 exact h _ _ (Int.tmod_nonneg _ (by omega)) (by have:=Int.tmod_lt_of_pos (256*r+s) (b:=n) (by omega);omega) hD
theorem z8a{n:Int}{l:List ByteArray}{K:List ByteArray->Prop}(h0:0<=n)(h1:n<=l.length)(h:K (l.take n.toNat)):j2b n l K:=⟨⟨h0,h1⟩,h⟩
theorem q4a{list:List Int}{at_:Int}{K:ByteArray->Int->Prop}(hD:DS list at_)(h: ∀r a,r∈z2f->DS list a->K r a):q7n list at_ K:=by
 unfold q7n j7t
 exact Qf hD (by decide) fun r a r0 r1 hD=>⟨⟨r0,r1⟩,fun y hy=>h _ _ (getm hy) hD⟩
theorem sz_k(n:Int):(B8 [107]++Go.Utf8.encode n).size<=5:=by
 rw[ByteArray.size_append];have:=z6q n;show 1+_<=5;omega
theorem v3a{list:List Int}{at_:Int}{K:ByteArray->Int->Prop}(hD:DS list at_)(h: ∀r a,r.size<=5->DS list a->K r a):j7w list at_ K:=by
 unfold j7w w2p
 refine Qf hD (by decide) fun r a r0 r1 hD=>⟨by unfold InI;omega,?_,h _ _ (sz_k _) hD⟩
 have:=z6q (Go.IntKind.i32.wrap (48+r));have e:(B8 [107]).size=1:=rfl;omega
theorem z3k{list:List Int}{at_:Int}{K:List ByteArray->Int->Prop}(hD:DS list at_)(h: ∀r a,r.length<=3->(∀s∈r,s.size<=5)->DS list a->K r a):z0a list at_ K:=by
 unfold z0a j7v
 refine Qf hD (by decide) fun n a n0 n1 hD=> ?_
 refine Lp3.ind (fun l i a=>DS list a/\0<=i/\i<=3/\(l.length:Int)=i/\ ∀s∈l,s.size<=5) (fun _ i _=>(3 - i).toNat) ?_ ⟨hD,by decide,by decide,rfl,by simp⟩
 rintro l i a ⟨hD,i0,i3,hl,hs⟩
 refine Qf hD (by decide) fun r a r0 r1 hD=>Cnd.mk (fun hc=> ?_) (fun hc=> ?_)
 ·have:=z6q (Go.IntKind.i32.wrap ((48:Int)+(n+i).tmod 10));have e:(B8 [107]).size=1:=rfl
  have m0:=Int.tmod_nonneg 10 (show 0<=n+i by omega);have m1:=Int.tmod_lt_of_pos (n+i) (b:=10) (by decide)
  refine⟨by unfold InI;omega,by decide,by unfold InI;omega,by omega,by unfold Sml;simp;omega,by unfold InI;omega,⟨hD,by omega,by omega,by simp;omega,fun s hm=> ?_⟩,by omega⟩
  rcases List.mem_append.1 hm with hm|hm
  ·exact hs s hm
  ·rw[List.mem_singleton.1 hm];exact sz_k _
 ·refine Lp2.ind (fun (i:Int) (m:List ByteArray)=>m=l/\1<=i/\i<=1+l.length) (fun (i:Int) _=>(1+l.length - i).toNat) ?_ ⟨rfl,by decide,by omega⟩
  rintro i m ⟨rfl,i0,i1⟩ _
  refine Cnd.mk (fun hc=>⟨by omega,fun y hy=>⟨by unfold InI;omega,by omega,fun z hz=>Cnd.mk (fun _=>⟨by unfold InI;omega,⟨rfl,by omega,by omega⟩,by omega⟩) (fun _=>⟨by omega,h _ _ (by simp;omega) (fun s hm=>hs s (List.mem_of_mem_take hm)) hD⟩)⟩⟩) (fun _=>h _ _ (by omega) hs hD)
theorem sz0:(ByteArray.mk (Array.mk ([]:List UInt8))).size<=100:=by decide
structure ValS(v:Val):Prop where
 num:InI v.number
 txt:v.text.size<=100
 len:v.list.length<=10
 txs: ∀s∈v.list,s.size<=100
theorem q5v{list:List Int}{at_ kind:Int}{K:Val->Int->Prop}(hD:DS list at_)(h: ∀r a,ValS r->DS list a->K r a):G6 list at_ kind K:=by
 unfold G6 z7a
 have tt: ∀s∈z2f,s.size<=100:=by decide
 have tv: ∀s∈z2g,s.size<=100:=by decide
 have tl: ∀l∈j3a,l.length<=10/\ ∀s∈l,s.size<=100:=by decide
 refine Cnd.mk (fun _=> ?_) fun _=>Cnd.mk (fun _=>fun _=> ?_) fun _=>Cnd.mk (fun _=> ?_) fun _=>Cnd.mk (fun _=> ?_) fun _=> ?_
 ·exact Qf hD (by decide) fun r a r0 r1 hD=>h _ _ ⟨by unfold InI;simp only;omega,sz0,by simp,by simp⟩ hD
 ·refine Qf hD (by decide) fun r a r0 r1 hD=>⟨⟨r0,r1⟩,fun y hy=>h _ _ ⟨?_,sz0,by simp,by simp⟩ hD⟩
  have:=getm hy
  have k: ∀y∈[(0:Int),(1:Int),(17:Int),(18:Int),(19:Int),(-5:Int),(64:Int),(1099511627776:Int),(-1099511627776:Int)], -9223372036854775808<=y/\y<=9223372036854775807:=by decide
  exact k y this
 ·exact q4a hD fun r a hr hD=>h _ _ ⟨by unfold InI;simp,tt _ hr,by simp,by simp⟩ hD
 ·exact Qf hD (by decide) fun r a r0 r1 hD=>⟨⟨r0,r1⟩,fun y hy=>h _ _ ⟨by unfold InI;simp,tv _ (getm hy),by simp,by simp⟩ hD⟩
 ·refine Qf hD (by decide) fun r a r0 r1 hD=>⟨⟨r0,r1⟩,fun y hy=> ?_⟩
  obtain⟨a1,a2⟩:=tl _ (getm hy)
  exact⟨by unfold Sml;simp;omega,h _ _ ⟨by unfold InI;simp,sz0,by simpa using a1,by simpa using a2⟩ hD⟩
structure VsS(l:List Val):Prop where
 len:l.length<=4
 all: ∀v∈l,ValS v
theorem VsS.nil:VsS []:=⟨by simp,by simp⟩
theorem VsS.one{v:Val}(h:ValS v):VsS [v]:=⟨by simp,by simpa using h⟩
def ExS:Nat->Ex->Prop
 |0,e=>VsS e.values/\(e.name.size<=100/\e.kind.size<=100)/\(InI e.op/\(2<=e.op->e.op<=4->e.kids≠[]))/\e.kids=[]
 |n+1,e=>VsS e.values/\(e.name.size<=100/\e.kind.size<=100)/\(InI e.op/\(2<=e.op->e.op<=4->e.kids≠[]))/\e.kids.length<=3/\ ∀k∈e.kids,ExS n k
theorem ExS.up: ∀{n:Nat} {e:Ex},ExS n e->ExS (n+1) e
 |0,e,h=>⟨h.1,h.2.1,h.2.2.1,by rw[h.2.2.2];simp,by rw[h.2.2.2];simp⟩
 |n+1,e,h=>⟨h.1,h.2.1,h.2.2.1,h.2.2.2.1,fun k hk=>(h.2.2.2.2 k hk).up⟩
theorem ExS.le{n m:Nat}{e:Ex}(h:ExS n e)(hm:n<=m):ExS m e:=by
 induction hm with
 |refl=>exact h
 |step _ ih=>exact ih.up
theorem ExS.kids{n:Nat}{e:Ex}(h:ExS n e):e.kids.length<=3:=by
 cases n with
 |zero=>rw[h.2.2.2];simp
 |succ n=>exact h.2.2.2.1
theorem ExS.kid{n:Nat}{e k:Ex}(h:ExS n e)(hk:k∈e.kids): ∃m,m+1=n/\ExS m k:=by
 cases n with
 |zero=>rw[h.2.2.2] at hk;simp at hk
 |succ n=>exact⟨n,rfl,h.2.2.2.2 k hk⟩
theorem ExS.vals{n:Nat}{e:Ex}(h:ExS n e):VsS e.values:=by cases n<;>exact h.1
theorem ExS.nm{n:Nat}{e:Ex}(h:ExS n e):e.name.size<=100:=by cases n<;>exact h.2.1.1
theorem ExS.kd{n:Nat}{e:Ex}(h:ExS n e):e.kind.size<=100:=by cases n<;>exact h.2.1.2
theorem ExS.opK{n:Nat}{e:Ex}(h:ExS n e):2<=e.op->e.op<=4->e.kids≠[]:=by cases n<;>exact h.2.2.1.2
def OpL(op:Int):Prop:=InI op/\ ¬(2<=op/\op<=4)
theorem OpL.ok{op:Int}(h:OpL op){l:List Ex}:InI op/\(2<=op->op<=4->l≠[]):=⟨h.1,fun a b=>absurd ⟨a,b⟩ h.2⟩
theorem opl{op:Int}(h:(6<=op/\op<=100)∨op=0∨op=1∨op=5){l:List Ex}:InI op/\(2<=op->op<=4->l≠[]):=⟨by unfold InI;omega,fun a b=>by omega⟩
theorem q1t{K:List Decl->Prop}(h: ∀l,l.length=8->(∀d∈l,d.kind.size<=100/\d.name.size<=100/\1<=d.type/\d.type<=5)->K l):G5 K:=by
 unfold G5
 exact h _ rfl (by decide)
theorem z8b{list:List Int}{at_:Int}{K:Ex->Int->Prop}(hD:DS list at_)(h: ∀r a,ExS 0 r->6<=r.op/\r.op<=15->DS list a->K r a):z34 list at_ K:=by
 unfold z34 j7x
 refine q1t fun l hl hd _=>⟨by unfold InI;omega,Qf hD (by omega) fun r a r0 r1 hD _=>Cnd.mk (fun _=> ?_) fun hc=>⟨by omega,fun y hy=> ?_⟩⟩
 ·exact v3a hD fun s a hs hD=>h _ _ ⟨.one ⟨by unfold InI;simp,by show s.size<=100;omega,by simp,by simp⟩,⟨(by decide:(ByteArray.mk (Array.mk [107,101,121])).size<=100),(by decide:(ByteArray.mk (Array.mk [117,115,101,114])).size<=100)⟩,opl (by simp),rfl⟩ (by simp) hD
 obtain⟨hy0,hy1,hy2,hy3⟩:=hd y (getm hy)
 have one: ∀{op:Int} {v:Val},OpL op->ValS v->ExS 0 (Ex.mk op y.kind y.name [v] []):=fun ho hv=>⟨.one hv,⟨hy1,hy0⟩,ho.ok,rfl⟩
 refine Jn1.mk (fun x=>(∃b,x=(b,y.kind,y.name,([]:List Val),([]:List Ex),x.2.2.2.2.2.1,0,ByteArray.mk (Array.mk []),ByteArray.mk (Array.mk []),[],[],()))/\DS list x.2.2.2.2.2.1) ?_ ?_
 case refine_2=>
  rintro x ⟨⟨b,hx⟩,hD⟩
  refine q5v hD fun v a hv hD=>h _ _ ?_ (by simp) hD
  rw[hx]
  exact one ⟨by unfold InI;simp,by decide⟩ hv
 refine Qf hD (by decide) fun q a q0 q1 hD=> ?_
 refine Jn1.mk (fun x=>(∃b,x=(x.1,b,y.kind,y.name,([]:List Val),([]:List Ex),0,ByteArray.mk (Array.mk []),ByteArray.mk (Array.mk []),[],[],()))/\DS list x.1) ?_ ?_
 case refine_2=>
  rintro x ⟨⟨b,hx⟩,hD⟩
  have cmp:Zp list x.1 4 fun r a=>InI (12+r)/\G6 list a y.3 fun v a=>K (Ex.mk (12+r) x.2.2.1 x.2.2.2.1 [v] x.2.2.2.2.2.1) a:=by
   refine Qf hD (by decide) fun r a r0 r1 hD=>⟨by unfold InI;omega,q5v hD fun v a hv hD=>h _ _ ?_ (by simp only;omega) hD⟩
   rw[hx]
   exact one ⟨by unfold InI;omega,by omega⟩ hv
  refine Cnd.mk (fun _=>cmp) fun _=>Cnd.mk (fun _=>cmp) fun _=>Cnd.mk (fun _=>cmp) fun _=> ?_
  refine⟨⟨b,?_⟩,hD⟩
  rw[hx]
 have nx: ∀{a:Int},DS list a->(fun x:Int×ByteArray×ByteArray×List Val×List Ex×Int×Int×ByteArray×ByteArray×List Val×List Ex×Unit=>(∃b,x=(b,y.kind,y.name,([]:List Val),([]:List Ex),x.2.2.2.2.2.1,0,ByteArray.mk (Array.mk []),ByteArray.mk (Array.mk []),[],[],()))/\DS list x.2.2.2.2.2.1) ((0:Int),y.1,y.2,[],[],a,(0:Int),ByteArray.mk (Array.mk []),ByteArray.mk (Array.mk []),[],[],()):=fun hD=>⟨⟨0,rfl⟩,hD⟩
 refine Cnd.mk (fun _=>h _ _ ⟨.nil,⟨hy1,hy0⟩,opl (by simp),rfl⟩ (by simp) hD) fun _=>Cnd.mk (fun _=> ?_) fun _=>Cnd.mk (fun _=> ?_) fun _=>Cnd.mk (fun _=> ?_) fun _=>Cnd.mk (fun _=> ?_) fun _=>nx hD
 ·refine Cnd.mk (fun _=>nx hD) fun _=> ?_
  refine Lp3.ind (fun i l a=>DS list a/\0<=i/\i<=3/\(l.length:Int)=i/\ ∀v∈l,ValS v) (fun i _ _=>(3 - i).toNat) ?_ ⟨hD,by decide,by decide,rfl,by simp⟩
  rintro i l a ⟨hD,i0,i3,hl,hv⟩
  refine Qf hD (by decide) fun r a r0 r1 hD=>Cnd.mk (fun hc=>q5v hD fun v a hv' hD=>⟨by unfold Sml;simp;omega,by unfold InI;omega,⟨hD,by omega,by omega,by simp;omega,fun u hu=> ?_⟩,by omega⟩) (fun hc=>h _ _ ⟨⟨by simp only;omega,hv⟩,⟨hy1,hy0⟩,opl (by simp),rfl⟩ (by simp) hD)
  rcases List.mem_append.1 hu with hu|hu
  ·exact hv u hu
  ·rw[List.mem_singleton.1 hu];exact hv'
 ·have c:G6 list a 3 fun v a=>K (Ex.mk 11 y.1 y.2 [v] []) a:=q5v hD fun v a hv hD=>h _ _ (one ⟨by unfold InI;simp,by decide⟩ hv) (by simp) hD
  exact Cnd.mk (fun _=>c) fun _=>Cnd.mk (fun _=>c) fun _=>nx hD
 ·exact Cnd.mk (fun _=>Qf hD (by decide) fun r a r0 r1 hD=>⟨by unfold InI;omega,q5v hD fun v a hv hD=>h _ _ (one ⟨by unfold InI;omega,by omega⟩ hv) (by simp only;omega) hD⟩) fun _=>⟨⟨0,rfl⟩,hD⟩
 ·exact⟨⟨0,rfl⟩,hD⟩
theorem ExS.eta{n:Nat}{e:Ex}(h:ExS n e):ExS n (Ex.mk e.op e.kind e.name e.values e.kids):=by cases e;exact h
theorem v3b{n:Nat}{e:Ex}(h:ExS n e){k m:ByteArray}(hm:m.size<=100)(hk:k.size<=100):ExS (n+1) (Ex.mk 4 k m [] [e]):=⟨.nil,⟨hm,hk⟩,⟨InI.mk (by simp) (by simp),fun _ _=>by simp⟩,by simp,by simpa using h⟩
theorem v0j{list:List Int}{segs:List ByteArray}(hs: ∀s∈segs,s.size<=100): ∀(k:Nat) {at_ levels:Int} {K:Ex->Int->Prop},k<=100->levels<=k+1->1<=levels->DS list at_->(∀r a,ExS (2*k) r->DS list a->K r a)->q7o list at_ segs levels K:=by
 intro k at_ levels K hk0 hk hl hD h X hX
 induction k generalizing at_ levels K with
 |zero=>
  refine hX _ _ _ _ _ ?_
  unfold z35
  have hseg: ∀{x:Int} {b:ByteArray} {a:Int},b∈segs->OpL x->DS list a->K (Ex.mk x (ByteArray.mk (Array.mk [])) b [] []) a:=fun hb hx hD=>h _ _ ⟨.nil,⟨hs _ hb,sz0⟩,hx.ok,rfl⟩ hD
  refine Qf hD (by decide) fun r a r0 r1 hD=>Jn1.mk (fun x=>0<=x/\x<=3) (Cnd.mk (fun _=>Cnd.mk (fun _=>⟨by unfold InI;omega,by omega,by omega⟩) fun _=>⟨by omega,by omega⟩) fun _=>by omega) fun x hx=> ?_
  have t:=z8b (K:=fun r a=>K (Ex.mk r.1 r.2 r.3 r.4 r.5) a) hD fun r a hr _ hD=>h _ a (hr.eta.le (by omega)) hD
  refine Cnd.mk (fun _=>h _ _ ⟨.nil,⟨sz0,sz0⟩,opl (by simp),rfl⟩ hD) fun _=>Cnd.mk (fun _ _=>Cnd.mk (fun hc _=> ?_) fun _=>t) fun _=>Cnd.mk (fun hc=>by omega) fun _=> ?_
  ·exact Qf hD (by omega) fun r a r0 r1 hD=>⟨⟨r0,r1⟩,fun y hy=>hseg (getm hy) ⟨by unfold InI;simp,by decide⟩ hD⟩
  ·exact Jn1.mk (fun x=>x=false) (Cnd.mk (fun hc=>by omega) fun _=>decide_eq_false (by omega)) fun x hx=>Cnd.mk (fun hc=>by rw[hx] at hc;cases hc) fun _=>t
 |succ k ih=>
  refine hX _ _ _ _ _ ?_
  unfold z35
  have hseg: ∀{x:Int} {b:ByteArray} {a:Int},b∈segs->OpL x->DS list a->K (Ex.mk x (ByteArray.mk (Array.mk [])) b [] []) a:=fun hb hx hD=>h _ _ (ExS.le (n:=0) ⟨.nil,⟨hs _ hb,sz0⟩,hx.ok,rfl⟩ (by omega)) hD
  have go: ∀{at_:Int} {K:Ex->Int->Prop},InI (levels - 1)->1<=levels - 1->DS list at_->(∀r a,ExS (2*k) r->DS list a->K r a)->X list at_ segs (levels - 1) K:=fun _ h1 hD hK=>ih (by omega) (by omega) h1 hD hK
  refine Qf hD (by decide) fun r a r0 r1 hD=>Jn1.mk (fun x=>0<=x/\x<=7/\(levels<=1->x<=3)) (Cnd.mk (fun _=>Cnd.mk (fun _=>⟨by unfold InI;omega,by omega,by omega,by omega⟩) fun _=>⟨by omega,by omega,by omega⟩) fun _=>by omega) fun x hx=> ?_
  have t:=z8b (K:=fun r a=>K (Ex.mk r.1 r.2 r.3 r.4 r.5) a) hD fun r a hr _ hD=>h _ a (hr.eta.le (by omega)) hD
  refine Cnd.mk (fun _=>h _ _ (ExS.le (n:=0) ⟨.nil,⟨sz0,sz0⟩,opl (by simp),rfl⟩ (by omega)) hD) fun _=>Cnd.mk (fun _ _=>Cnd.mk (fun hc _=> ?_) fun _=>t) fun _=>Cnd.mk (fun hc=> ?_) fun _=> ?_
  ·exact Qf hD (by omega) fun r a r0 r1 hD=>⟨⟨r0,r1⟩,fun y hy=>hseg (getm hy) ⟨by unfold InI;simp,by decide⟩ hD⟩
  ·exact⟨by unfold InI;omega,go (by unfold InI;omega) (by omega) hD fun e a he hD=>h _ _ ((v3b he.eta sz0 sz0).le (by omega)) hD⟩
  refine Jn1.mk (fun y=>y=true->2<=levels) (Cnd.mk (fun hc _=>by omega) fun _ hc=>by have:=of_decide_eq_true hc;omega) fun y hy=>Cnd.mk (fun hc=> ?_) fun _=>t
  have hy:=hy hc
  refine Qf hD (by decide) fun r a r0 r1 hD=>⟨by unfold InI;omega,Qf hD (by decide) fun q a q0 q1 hD=>⟨by unfold InI;omega,?_⟩⟩
  refine LpH.ind (fun x=>0<=x.1/\x.1<=2+q/\DS list x.2.1/\x.2.2=(2+r,ByteArray.mk (Array.mk []),ByteArray.mk (Array.mk []),[],x.2.2.2.2.2.2.1,())/\(x.2.2.2.2.2.2.1.length:Int)=x.1/\ ∀e∈x.2.2.2.2.2.2.1,ExS (2*k+1) e) (fun x=>(3 - x.1).toNat) ?_ ⟨Int.le_refl 0,by simp only;omega,hD,rfl,rfl,by simp⟩
  rintro⟨i,a,x⟩ ⟨i0,i1,hD,hx,hl,he⟩
  simp only at i0 i1 hD hx hl he
  generalize x.2.2.2.2.1=l at*
  subst hx
  simp only at hl he⊢
  refine Cnd.mk (fun hc=>⟨by unfold InI;omega,go (by unfold InI;omega) (by omega) hD fun e a hk hD=> ?_⟩) fun hc=>h _ _ ⟨.nil,⟨sz0,sz0⟩,⟨InI.mk (by simp only;omega) (by simp only;omega),fun _ _ hn=>by simp only at hn;rw[hn] at hl;simp at hl;omega⟩,by simp only;omega,he⟩ hD
  refine Jn1.mk (fun z=>ExS (2*k+1) (Ex.mk z.1 z.2.1 z.2.2.1 z.2.2.2.1 z.2.2.2.2.1)) (Cnd.mk (fun _=>v3b hk.eta sz0 sz0) fun _=>hk.eta.up) fun z hz=> ?_
  refine⟨by unfold Sml;simp;omega,by unfold InI;omega,⟨by omega,by omega,hD,trivial,by simp;omega,fun e hm=> ?_⟩,by omega⟩
  rcases List.mem_append.1 hm with hm|hm
  ·exact he e hm
  ·rw[List.mem_singleton.1 hm];exact hz
structure SegS(g:Seg):Prop where
 key:g.key.size<=100
 kind:g.kind.size<=100
 incl:g.incl.length<=3
 excl:g.excl.length<=3
 cond:ExS 4 g.cond
theorem Jc{α:Type}{P:α->Prop}{l:List α}{x:α}(h: ∀y∈l,P y)(hx:P x): ∀y∈l++[x],P y:=fun y hy=>by
 rcases List.mem_append.1 hy with hy|hy
 ·exact h y hy
 ·rw[List.mem_singleton.1 hy];exact hx
theorem q4q{v:Envt}{K:List ByteArray->Prop}(hl:v.segments.length<=1000)(h:K (v.segments.map Seg.key)):V8 v K:=by
 unfold V8
 refine Lp2.ind (fun (l:List ByteArray) (i:Int)=>0<=i/\i<=v.segments.length/\l=(v.segments.take i.toNat).map Seg.key) (fun _ (i:Int)=>(v.segments.length - i).toNat) ?_ ⟨Int.le_refl 0,by omega,by simp⟩
 rintro l i ⟨i0,i1,rfl⟩ _
 refine Cnd.mk (fun hc=>⟨by omega,fun y hy=>⟨by unfold Sml;simp;omega,by unfold InI;omega,⟨by omega,by omega,?_⟩,by omega⟩⟩) fun hc=> ?_
 ·rw[show (i+1).toNat=i.toNat+1 by omega,List.take_add_one,hy];simp
 ·rw[List.take_of_length_le (by omega)];exact h
def SplS(n:Int)(l:List Rng):Prop:=l.length<=4/\ ∀r∈l,0<=r.lo/\r.hi<=10000/\1<=r.variation/\r.variation<=n
theorem w6r{list:List Int}{at_ n:Int}{K:List Rng->Int->Prop}(hD:DS list at_)(hn:1<=n)(hn':n<=100)(h: ∀l a,SplS n l->DS list a->K l a):q54 list at_ n K:=by
 unfold q54 z7b
 refine Jn4.mk (fun l at_ last a=>DS list a/\l.length<=3/\0<=at_/\ ∀r∈l,0<=r.lo/\r.hi<=10000/\1<=r.variation/\r.variation<=n) ?_ ?_
 ·refine Lp5.ind (fun l at_ last i a=>DS list a/\0<=i/\i<=3/\(l.length:Int)=i/\0<=at_/\at_<=10000/\0<=last/\last<=n/\ ∀r∈l,0<=r.lo/\r.hi<=10000/\1<=r.variation/\r.variation<=n) (fun _ _ _ i _=>(3 - i).toNat) ?_ ⟨hD,by omega,by omega,rfl,by omega,by omega,by omega,by omega,by simp⟩
  rintro l at_ last i a ⟨hD,i0,i1,hl,a0,a1,l0,l1,hr⟩
  refine Qf hD (by decide) fun q a q0 q1 hD=>Cnd.mk (fun _=>Cnd.mk (fun _=>⟨by unfold InI;omega,Hw hD (by decide) fun w a w0 w1 hD=>⟨by unfold InI;omega,Qf hD hn fun v a v0 v1 hD=>⟨by unfold InI;omega,?_⟩⟩⟩) fun _=> ?_) fun _=> ?_
  ·have m0:=Int.tmod_nonneg n (show 0<=1+v by omega);have m1:=Int.tmod_lt_of_pos (1+v) (b:=n) (by omega)
   refine Jn1.mk (fun v=>1<=v/\v<=n) (Cnd.mk (fun _=>⟨by omega,by unfold InI;omega,by omega,by omega⟩) fun _=>⟨by omega,by omega⟩) fun v hv=>Cnd.mk (fun _=>⟨hD,by omega,a0,hr⟩) fun _=> ?_
   exact⟨by unfold Sml;simp;omega,by unfold InI;omega,⟨hD,by omega,by omega,by simp;omega,by omega,by omega,by omega,by omega,Jc hr ⟨by simp only;omega,by simp only;omega,by simp only;omega,by simp only;omega⟩⟩,by omega⟩
  ·exact⟨hD,by omega,a0,hr⟩
  ·exact⟨hD,by omega,a0,hr⟩
 ·rintro l at_ last a ⟨hD,hl,a0,hr⟩
  refine Qf hD hn fun v a v0 v1 hD=>⟨by unfold InI;omega,?_⟩
  have m0:=Int.tmod_nonneg n (show 0<=1+v by omega);have m1:=Int.tmod_lt_of_pos (1+v) (b:=n) (by omega)
  refine Jn1.mk (fun v=>1<=v/\v<=n) (Cnd.mk (fun _=>⟨by omega,by unfold InI;omega,by omega,by omega⟩) fun _=>⟨by omega,by omega⟩) fun v hv=> ?_
  exact⟨by unfold Sml;simp;omega,h _ _ ⟨by simp;omega,Jc hr ⟨a0,by simp,hv.1,hv.2⟩⟩ hD⟩
structure SrvS(n:Int)(s:Srv):Prop where
 kind:s.kind.size<=100
 var:0<=s.variation/\s.variation<=n
 split:SplS n s.split
 by_:s.by_.size<=100
 salt:s.salt.size<=100
theorem j0c{list:List Int}{at_ n:Int}{K:Srv->Int->Prop}(hD:DS list at_)(hn:1<=n)(hn':n<=100)(h: ∀s a,SrvS n s->DS list a->K s a):q0t list at_ n K:=by
 unfold q0t z7c
 have tt: ∀s∈z2f,s.size<=100:=by decide
 have key:(ByteArray.mk (Array.mk [107,101,121])).size<=100:=by decide
 refine Qf hD (by decide) fun r a r0 r1 hD=>Cnd.mk (fun _=>Qf hD hn fun v a v0 v1 hD=>⟨by unfold InI;omega,h _ _ ⟨sz0,⟨by simp only;omega,by simp only;omega⟩,⟨by simp,by simp⟩,sz0,sz0⟩ hD⟩) fun _=> ?_
 refine q4a hD fun t a ht hD=>w6r hD hn hn' fun l a hl hD=>q1t fun ds _ hds=>Qf hD (by decide) fun q a q0 q1 hD _=> ?_
 have usr:(ByteArray.mk (Array.mk [117,115,101,114])).size<=100:=by decide
 have ok: ∀{k b:ByteArray},k.size<=100->b.size<=100->SrvS n (Srv.mk 0 k b t l):=fun hk hb=>⟨hk,⟨by simp,by simp only;omega⟩,hl,hb,tt _ ht⟩
 refine Cnd.mk (fun _=>⟨by omega,fun y hy=>Cnd.mk (fun _=>h _ _ (ok usr key) hD) fun _=>⟨by omega,fun z hz=>⟨by omega,fun u hu=>h _ _ (ok (hds z (getm hz)).1 (hds u (getm hu)).2.1) hD⟩⟩⟩) fun _=>h _ _ (ok usr key) hD
structure LayS(l:Lay_):Prop where
 key:l.key.size<=100
 kind:l.kind.size<=100
 salt:l.salt.size<=100
 hold:0<=l.holdout/\l.holdout<=10000
 cool:0<=l.cool/\l.cool<=100
 cl:l.cooling.length<=1000
theorem w6s{list:List Int}{at_:Int}{key:ByteArray}{K:Lay_->Int->Prop}(hD:DS list at_)(hk:key.size<=100)(h: ∀l a,LayS l->l.key=key->DS list a->K l a):z7f list at_ key K:=by
 unfold z7f j3g
 have tt: ∀s∈z2f,s.size<=100:=by decide
 refine q4a hD fun t a ht hD=>Qf hD (by decide) fun c a c0 c1 hD=>⟨by unfold InI;omega,?_⟩
 refine Jn2.mk (fun k a=>k.size<=100/\DS list a) (Qf hD (by decide) fun r a r0 r1 hD=>Cnd.mk (fun _=>⟨by decide,hD⟩) fun _=>⟨by decide,hD⟩) fun kind a hx=> ?_
 obtain⟨hkd,hD⟩:=hx
 refine Jn2.mk (fun x a=>DS list a/\0<=x/\x<=10000) (Qf hD (by decide) fun r a r0 r1 hD=>Cnd.mk (fun _=>Hw hD (by decide) fun w a w0 w1 hD=>⟨hD,by omega,by omega⟩) fun _=>⟨hD,by omega,by omega⟩) fun hold a hx=> ?_
 obtain⟨hD,x0,x1⟩:=hx
 have ok: ∀{cs:List Col},cs.length<=1000->LayS (Lay_.mk key kind t hold (c*50) cs):=fun hcs=>⟨hk,hkd,tt _ ht,⟨x0,x1⟩,⟨by simp only;omega,by simp only;omega⟩,hcs⟩
 refine Lp4.ind (fun at_ i cs a=>DS list a/\0<=i/\i<=2/\(cs.length:Int)=i/\0<=at_/\at_<=10000/\ ∀c∈cs,0<=c.lo/\c.hi<=10000/\0<=c.until_/\c.until_<=200) (fun _ i _ _=>(2 - i).toNat) ?_ ⟨hD,by omega,by omega,rfl,by omega,by omega,by simp⟩
 rintro at_ i cs a ⟨hD,i0,i1,hl,a0,a1,hc⟩
 refine Qf hD (by decide) fun q a q0 q1 hD=>Cnd.mk (fun _=>Hw hD (by decide) fun w a w0 w1 hD=>⟨by unfold InI;omega,by unfold InI;omega,Hw hD (by decide) fun w' a w0' w1' hD=>⟨by unfold InI;omega,Cnd.mk (fun _=>h _ _ (ok (by omega)) rfl hD) fun _=> ?_⟩⟩) fun _=>h _ _ (ok (by omega)) rfl hD
 refine Qf hD (by decide) fun u a u0 u1 hD=>⟨by unfold Sml;simp;omega,by unfold InI;omega,⟨hD,by omega,by omega,by simp;omega,by omega,by omega,Jc hc ⟨by simp only;omega,by simp only;omega,by simp only;omega,by simp only;omega⟩⟩,by omega⟩
structure SpsS(l:List Spn):Prop where
 len:l.length<=10000
 all: ∀s∈l,0<=s.lo/\s.lo<s.hi/\s.hi<=10000
structure RulS(n:Int)(r:Rul):Prop where
 name:r.name.size<=100
 cond:ExS 4 r.cond
 serve:SrvS n r.serve
structure FlgS(f:Flg):Prop where
 key:f.key.size<=100
 vlen:1<=f.variations.length/\f.variations.length<=4
 vals: ∀v∈f.variations,ValS v
 nlen:f.needs.length<=4
 needs: ∀q∈f.needs,q.flag.size<=100
 tlen:f.targets.length<=3
 tgts: ∀t∈f.targets,t.kind.size<=100
 rlen:f.rules.length<=4
 rules: ∀r∈f.rules,RulS f.variations.length r
 dflt:SrvS f.variations.length f.dflt
structure ExpS(x:Exper):Prop where
 key:x.key.size<=100
 layer:x.layer.size<=100
 flag:x.flag.size<=100
 claims:SpsS x.claims
 arms:SplS 4 x.arms
 cond:ExS 4 x.cond
structure EnvS(v:Envt):Prop where
 hkind:v.settings.holdoutKind.size<=100
 attrs: ∀d∈v.attributes,d.kind.size<=100/\d.name.size<=100
 slen:v.segments.length<=3
 segs: ∀g∈v.segments,SegS g
 flen:v.flags.length<=4
 flags: ∀f∈v.flags,FlgS f
 llen:v.layers.length<=2
 layers: ∀l∈v.layers,LayS l
 xlen:v.experiments.length<=3
 exps: ∀x∈v.experiments,ExpS x
end Go.En
end
noncomputable section
set_option maxRecDepth 100000
namespace Go.En
open Go Go.Fl Go.Fl.Lk Go.Fx
theorem j62{α:Type}{a b:List α}(hl:a.length=b.length){F:α->α->(Bool->Prop)->Prop}{K:Bool->Prop}(hF: ∀x∈a,∀y∈b,∀K:Bool->Prop,(∀r,(r=true↔x=y)->K r)->F x y K)(h: ∀r,(r=true↔a=b)->K r):
  Lp1 (fun i Y=>a.length<=9223372036854775807->Cnd (i<(a.length:Int)) ((0<=i/\i<(a.length:Int))/\ ∀x,a[i.toNat]? =some x->(0<=i/\i<(b.length:Int))/\ ∀y,b[i.toNat]? =some y->F x y fun r=>Cnd (r=true) (InI (i+1)/\Y (i+1)) (K false)) (K true)) 0:=by
 refine Lp1.ind (fun (i:Int)=>0<=i/\i<=a.length/\a.take i.toNat=b.take i.toNat) (fun (i:Int)=>(a.length - i).toNat) ?_ ⟨by omega,by omega,by simp⟩
 rintro i ⟨i0,i1,he⟩ _
 refine Cnd.mk (fun hc=>⟨by omega,fun x hx=>⟨by omega,fun y hy=>hF x (getm hx) y (getm hy) _ fun r hr=>Cnd.mk (fun hc=>⟨by unfold InI;omega,⟨by omega,by omega,?_⟩,by omega⟩) fun hc=>h _ ⟨fun h=>(by cases h),fun h=> ?_⟩⟩⟩) fun hc=>h _ ⟨fun _=> ?_,fun _=>rfl⟩
 ·rw[show (i+1).toNat=i.toNat+1 by omega,List.take_add_one,List.take_add_one,he,hx,hy,hr.1 hc]
 ·subst h;rw[hx] at hy;exact absurd (hr.2 (by cases hy;rfl)) hc
 ·rwa [List.take_of_length_le (by omega),List.take_of_length_le (by omega)] at he
theorem z4s{a b:List ByteArray}{K:Bool->Prop}(h: ∀r,(r=true↔a=b)->K r):q9a a b K:=by
 unfold q9a
 intro ha hb
 refine Cnd.mk (fun hl=> ?_) fun hl=>h _ ⟨fun h=>(by cases h),fun e=>by rw[e] at hl;exact absurd rfl hl⟩
 refine Lp1.ind (fun (i:Int)=>0<=i/\i<=a.length/\a.take i.toNat=b.take i.toNat) (fun (i:Int)=>(a.length - i).toNat) ?_ ⟨by omega,by omega,by simp⟩
 rintro i ⟨i0,i1,he⟩ _
 refine Cnd.mk (fun hc=>⟨by omega,fun x hx=>⟨by omega,fun y hy=>Cnd.mk (fun hc=>⟨by unfold InI;omega,⟨by omega,by omega,?_⟩,by omega⟩) fun hc=>h _ ⟨fun h=>(by cases h),fun h=> ?_⟩⟩⟩) fun hc=>h _ ⟨fun _=> ?_,fun _=>rfl⟩
 ·rw[show (i+1).toNat=i.toNat+1 by omega,List.take_add_one,List.take_add_one,he,hx,hy,hc]
 ·subst h;rw[hx] at hy;cases hy;exact absurd rfl hc
 ·rwa [List.take_of_length_le (by omega),List.take_of_length_le (by omega)] at he
theorem j4u{l:List ByteArray}{s:ByteArray}{K:Bool->Prop}(h: ∀r,(r=true↔s∈l)->K r):q7s l s K:=by
 unfold q7s
 refine Lp1.ind (fun (i:Int)=>0<=i/\i<=l.length/\s∉l.take i.toNat) (fun (i:Int)=>(l.length - i).toNat) ?_ ⟨by omega,by omega,by simp⟩
 rintro i ⟨i0,i1,he⟩ _
 refine Cnd.mk (fun hc=>⟨by omega,fun x hx=>Cnd.mk (fun e=>h _ ⟨fun _=>e▸getm hx,fun _=>rfl⟩) fun e=>⟨by unfold InI;omega,⟨by omega,by omega,?_⟩,by omega⟩⟩) fun hc=>h _ ⟨fun h=>(by cases h),fun hm=> ?_⟩
 ·rw[show (i+1).toNat=i.toNat+1 by omega,List.take_add_one,hx];simp[he,Ne.symm e]
 ·rw[List.take_of_length_le (by omega)] at he;exact absurd hm he
theorem w3j{a b:Val}{K:Bool->Prop}(h: ∀r,(r=true↔a=b)->K r):z36 a b K:=by
 unfold z36 z89
 have no:(a≠b)->K false:=fun hn=>h _ ⟨fun h=>(by cases h),fun e=>absurd e hn⟩
 refine Cnd.mk (fun h1=>Cnd.mk (fun h2=>Cnd.mk (fun h3=>z4s fun r hr=>h r (hr.trans ⟨fun h4=> ?_,fun e=>by rw[e]⟩)) fun h=>no fun e=>h (by rw[e])) fun h=>no fun e=>h (by rw[e])) fun h=>no fun e=>h (by rw[e])
 cases a;cases b;simp_all
theorem z1v{a b:List Val}{K:Bool->Prop}(h: ∀r,(r=true↔a=b)->K r):W0 a b K:=by
 unfold W0 q56
 intro ha hb
 exact Cnd.mk (fun hl=>j62 (by omega) (fun x _ y _ K hK=>w3j hK) h) fun hl=>h _ ⟨fun h=>(by cases h),fun e=>by rw[e] at hl;exact absurd rfl hl⟩
theorem Ju{e:Ex}:Ex.mk e.op e.kind e.name e.values e.kids=e:=by cases e;rfl
theorem j5y: ∀(n:Nat) {a b:Ex} {K:Bool->Prop},ExS n a->(∀r,(r=true↔a=b)->K r)->Vi a b K:=by
 intro n a b K ha h X hX
 induction n using Nat.strongRecOn generalizing a b K with
 |_ n ih=>
 refine hX _ _ _ ?_
 unfold z0b
 have no:(a≠b)->K false:=fun hn=>h _ ⟨fun h=>(by cases h),fun e=>absurd e hn⟩
 refine Cnd.mk (fun h1=>Cnd.mk (fun h2=>Cnd.mk (fun h3=>z1v fun r hr=>Cnd.mk (fun hc _ _=>Cnd.mk (fun hl=> ?_) fun h=>no fun e=>h (by rw[e])) fun hc=>no fun e=>hc (hr.2 (by rw[e]))) fun h=>no fun e=>h (by rw[e])) fun h=>no fun e=>h (by rw[e])) fun h=>no fun e=>h (by rw[e])
 have h4:=hr.1 hc
 refine j62 (by omega) (fun x hx y _ K hK=> ?_) fun r hr=>h r (hr.trans ⟨fun h5=> ?_,fun e=>by rw[e]⟩)
 ·obtain⟨m,hm,hk⟩:=ha.kid hx
  rw[Ju,Ju]
  exact ih m (by omega) hk hK
 ·cases a;cases b;simp_all
theorem q1u(n:Nat){a b:Ex}{K:Bool->Prop}(ha:ExS n a)(h: ∀r,(r=true↔a=b)->K r):Vi (Ex.mk a.1 a.2 a.3 a.4 a.5) (Ex.mk b.1 b.2 b.3 b.4 b.5) K:=by
 rw[Ju,Ju];exact j5y n ha h
theorem j0x{n:Nat}{l:List Ex}{e:Ex}{K:Int->Prop}(hl: ∀x∈l,ExS n x)(h: ∀r:Int,(r= -1/\e∉l)∨(0<=r/\l[r.toNat]? =some e/\e∉l.take r.toNat)->K r):Vx l e K:=by
 unfold Vx z50
 refine Lp1.ind (fun (i:Int)=>0<=i/\i<=l.length/\e∉l.take i.toNat) (fun (i:Int)=>(l.length - i).toNat) ?_ ⟨by omega,by omega,by simp⟩
 rintro i ⟨i0,i1,he⟩ _
 refine Cnd.mk (fun hc=>⟨by omega,fun x hx=>q1u n (hl x (getm hx)) fun r hr=>Cnd.mk (fun hc=>h _ (.inr ⟨i0,by rw[hx,hr.1 hc],he⟩)) fun hc=>⟨by unfold InI;omega,⟨by omega,by omega,?_⟩,by omega⟩⟩) fun hc=>h _ (.inl ⟨rfl,?_⟩)
 ·rw[show (i+1).toNat=i.toNat+1 by omega,List.take_add_one,hx]
  have:e≠x:=fun e=>hc (hr.2 e.symm)
  simp[he,this]
 ·rwa [List.take_of_length_le (by omega)] at he
theorem q0k{op:Int}{K:Bool->Prop}(h: ∀r,(r=true↔6<=op/\op<=15)->K r):Wj op K:=by
 unfold Wj
 exact Cnd.mk (fun h6=>h _ ⟨fun a=>⟨h6,of_decide_eq_true a⟩,fun a=>decide_eq_true a.2⟩) fun h6=>h _ ⟨fun a=>(by cases a),fun a=>absurd a.1 h6⟩
theorem z06{now:Int}{K:Bool->Prop}(h: ∀r,(r=true↔0<=now/\now<=1099511627776)->K r):q9e now K:=by
 unfold q9e
 exact Cnd.mk (fun h6=>h _ ⟨fun a=>⟨h6,of_decide_eq_true a⟩,fun a=>decide_eq_true a.2⟩) fun h6=>h _ ⟨fun a=>(by cases a),fun a=>absurd a.1 h6⟩
theorem w0y{α:Type}{l:List α}{f:α->ByteArray}{key:ByteArray}{K:Int->Prop}(h: ∀r:Int,(r= -1/\ ∀x∈l,f x≠key)∨(0<=r/\r<l.length/\(∃x,l[r.toNat]? =some x/\f x=key)/\ ∀x∈l.take r.toNat,f x≠key)->K r):
  Lp1 (fun i Y=>l.length<=9223372036854775807->Cnd (i<(l.length:Int)) ((0<=i/\i<(l.length:Int))/\ ∀y,l[i.toNat]? =some y->Cnd (f y=key) (K i) (InI (i+1)/\Y (i+1))) (K (-1))) 0:=by
 refine Lp1.ind (fun (i:Int)=>0<=i/\i<=l.length/\ ∀x∈l.take i.toNat,f x≠key) (fun (i:Int)=>(l.length - i).toNat) ?_ ⟨by omega,by omega,by simp⟩
 rintro i ⟨i0,i1,he⟩ _
 refine Cnd.mk (fun hc=>⟨by omega,fun x hx=>Cnd.mk (fun e=>h _ (.inr ⟨i0,hc,⟨x,hx,e⟩,he⟩)) fun e=>⟨by unfold InI;omega,⟨by omega,by omega,?_⟩,by omega⟩⟩) fun hc=>h _ (.inl ⟨rfl,?_⟩)
 ·rw[show (i+1).toNat=i.toNat+1 by omega,List.take_add_one,hx]
  exact Jc he e
 ·rwa [List.take_of_length_le (by omega)] at he
def PlcS{α:Type}(l:List α)(f:α->ByteArray)(key:ByteArray)(r:Int):Prop:=(r= -1/\ ∀x∈l,f x≠key)∨(0<=r/\r<l.length/\(∃x,l[r.toNat]? =some x/\f x=key)/\ ∀x∈l.take r.toNat,f x≠key)
theorem q8z{v:Envt}{key:ByteArray}{K:Int->Prop}(h: ∀r,PlcS v.layers Lay_.key key r->K r):Wu v key K:=w0y h
theorem z8c{v:Envt}{key:ByteArray}{K:Int->Prop}(h: ∀r,PlcS v.flags Flg.key key r->K r):q7w v key K:=w0y h
theorem q28{l:List Spn}{K:List Bool->Prop}(h: ∀b:List Bool,b.length=10000->K b):Ha l K:=by
 unfold Ha
 refine⟨⟨by decide,Int.le_refl _,by unfold Sml;decide⟩,Lp2.ind (fun (i:Int) (b:List Bool)=>0<=i/\i<=l.length/\b.length=10000) (fun (i:Int) _=>(l.length - i).toNat) ?_ ⟨by omega,by omega,by rw[List.length_replicate];decide⟩⟩
 rintro i b ⟨i0,i1,hb⟩ _
 refine Cnd.mk (fun hc=>⟨by omega,fun y hy=> ?_⟩) fun _=>h b hb
 refine Lp2.ind (fun (j:Int) (b:List Bool)=>0<=j/\b.length=10000) (fun (j:Int) _=>(10000 - j).toNat) ?_ ⟨by omega,hb⟩
 rintro j b ⟨j0,hb⟩
 refine⟨by omega,fun z hz=>Cnd.mk (fun hc=>⟨by omega,fun u hu=>⟨by unfold InI;omega,⟨by omega,by simpa using hb⟩,by omega⟩⟩) fun _=>⟨by unfold InI;omega,⟨by omega,by omega,hb⟩,by omega⟩⟩
theorem q4b{b:List Bool}{K:List Spn->Prop}(hb:b.length<=10000)(h: ∀l,SpsS l->K l):Wm b K:=by
 unfold Wm
 refine Lp2.ind (fun (l:List Spn) (i:Int)=>0<=i/\i<=b.length/\l.length<=i/\(∀s∈l,0<=s.lo/\s.lo<s.hi/\s.hi<=i)/\(0<i->b[(i - 1).toNat]? =some true->l≠[])) (fun _ (i:Int)=>(b.length - i).toNat) ?_ ⟨by omega,by omega,by simp,by simp,by omega⟩
 rintro l i ⟨i0,i1,hl,hs,hn⟩ _
 refine Cnd.mk (fun hc=>⟨by omega,fun y hy=>Cnd.mk (fun ht=> ?_) fun hf=> ?_⟩) fun _=>h l ⟨by omega,fun s hm=>by have:=hs s hm;omega⟩
 ·have snoc:InI (i+1)/\Sml (l++[Spn.mk i (i+1)]).length/\InI (i+1)/\((0<=i+1/\i+1<=b.length/\((l++[Spn.mk i (i+1)]).length:Int)<=i+1/\(∀s∈l++[Spn.mk i (i+1)],0<=s.lo/\s.lo<s.hi/\s.hi<=i+1)/\(0<i+1->b[(i+1 - 1).toNat]? =some true->l++[Spn.mk i (i+1)]≠[]))/\(b.length - (i+1)).toNat<(b.length - i).toNat):=
   ⟨by unfold InI;omega,by unfold Sml;simp;omega,by unfold InI;omega,⟨by omega,by omega,by simp;omega,Jc (fun s hm=>by have:=hs s hm;omega) ⟨i0,by simp only;omega,by simp⟩,fun _ _=>by simp⟩,by omega⟩
  refine Cnd.mk (fun hp=>⟨by unfold InI;omega,by omega,fun z hz=>Cnd.mk (fun hz1=> ?_) fun _=>snoc⟩) fun _=>snoc
  have hne:=hn hp (by rw[hz,hz1])
  have hpos:0<l.length:=List.length_pos_iff.2 hne
  refine fun _=>⟨by unfold InI;omega,by unfold InI;omega,by omega,fun u hu=>⟨by unfold InI;omega,⟨by omega,by omega,by simp;omega,fun s hm=> ?_,fun _ _ hx=> ?_⟩,by omega⟩⟩
  ·have:=hs u (getm hu)
   rcases List.mem_or_eq_of_mem_set hm with hm|rfl
   ·have:=hs s hm;omega
   ·exact⟨this.1,by simp only;omega,by simp⟩
  ·exact hne (by rw[←List.length_eq_zero_iff] at hx⊢;simpa using hx)
 ·refine⟨by unfold InI;omega,⟨by omega,by omega,by omega,fun s hm=>by have:=hs s hm;omega,fun _ hx=> ?_⟩,by omega⟩
  rw[show (i+1 - 1).toNat=i.toNat by omega,hy] at hx
  cases hx;exact absurd rfl hf
theorem z1w{l:List Col}{now:Int}{K:List Int->Prop}(h: ∀b:List Int,b.length=10000->K b):W2 l now K:=by
 unfold W2
 refine⟨⟨by decide,Int.le_refl _,by unfold Sml;decide⟩,Lp2.ind (fun (i:Int) (b:List Int)=>0<=i/\i<=10000/\b.length=10000) (fun (i:Int) _=>(10000 - i).toNat) ?_ ⟨by omega,by omega,by rw[List.length_replicate];decide⟩⟩
 rintro i b ⟨i0,i1,hb⟩ _
 refine Cnd.mk (fun hc=>⟨by omega,fun y hy=>⟨by unfold InI;omega,⟨by omega,by omega,by simpa using hb⟩,by omega⟩⟩) fun _=> ?_
 refine Lp2.ind (fun (i:Int) (b:List Int)=>0<=i/\i<=l.length/\b.length=10000) (fun (i:Int) _=>(l.length - i).toNat) ?_ ⟨by omega,by omega,hb⟩
 rintro i b ⟨i0,i1,hb⟩ _
 refine Cnd.mk (fun hc=>⟨by omega,fun y hy=> ?_⟩) fun _=>h b hb
 refine Lp2.ind (fun (j:Int) (b:List Int)=>0<=j/\b.length=10000) (fun (j:Int) _=>(10000 - j).toNat) ?_ ⟨by omega,hb⟩
 rintro j b ⟨j0,hb⟩
 refine⟨by omega,fun z hz=>Cnd.mk (fun hc=>⟨by omega,fun u hu=>⟨by omega,fun w hw=>⟨by omega,fun x hx=>⟨by unfold InI;omega,⟨by omega,by simpa using hb⟩,by omega⟩⟩⟩⟩) fun _=>⟨by unfold InI;omega,⟨by omega,by omega,hb⟩,by omega⟩⟩
theorem z3l{u:List Int}{now:Int}{K:List Spn->Prop}(hu:u.length<=10000)(h: ∀l,SpsS l->K l):Bw u now K:=by
 unfold Bw z0c
 refine fun _=>⟨⟨by omega,Int.le_refl _,by unfold Sml;omega⟩,Lp2.ind (fun (i:Int) (b:List Bool)=>0<=i/\i<=u.length/\b.length=u.length) (fun (i:Int) _=>(u.length - i).toNat) ?_ ⟨by omega,by omega,by simp⟩⟩
 rintro i b ⟨i0,i1,hb⟩ _
 exact Cnd.mk (fun hc=>⟨by omega,fun y hy=>⟨by omega,fun z hz=>⟨by unfold InI;omega,⟨by omega,by omega,by simpa using hb⟩,by omega⟩⟩⟩) fun _=>q4b (by omega) h
theorem q75{a b:List Spn}{K:List Spn->Prop}(h: ∀l,SpsS l->K l):V0 a b K:=by
 unfold V0 q6b
 refine q28 fun x hx=>q28 fun y hy=>Lp2.ind (fun (i:Int) (b:List Bool)=>0<=i/\i<=10000/\b.length=10000) (fun (i:Int) _=>(10000 - i).toNat) ?_ ⟨by omega,by omega,hx⟩
 rintro i b ⟨i0,i1,hb⟩ _
 exact Cnd.mk (fun hc=>⟨by omega,fun y hy=>Cnd.mk (fun _=>⟨by omega,fun _ _=>⟨by unfold InI;omega,⟨by omega,by omega,by simpa using hb⟩,by omega⟩⟩) fun _=>⟨by omega,fun _ _=>⟨by omega,fun _ _=>⟨by unfold InI;omega,⟨by omega,by omega,by simpa using hb⟩,by omega⟩⟩⟩⟩) fun _=>q4b (by omega) h
theorem j0y{a b:List Spn}{K:List Spn->Prop}(h: ∀l,SpsS l->K l):B1 a b K:=by
 unfold B1 z0e
 refine q28 fun x hx=>q28 fun y hy=>Lp2.ind (fun (i:Int) (b:List Bool)=>0<=i/\i<=10000/\b.length=10000) (fun (i:Int) _=>(10000 - i).toNat) ?_ ⟨by omega,by omega,hx⟩
 rintro i b ⟨i0,i1,hb⟩ _
 exact Cnd.mk (fun hc=>⟨by omega,fun y hy=>Cnd.mk (fun _=>⟨by omega,fun _ _=>⟨by omega,fun _ _=>⟨by unfold InI;omega,⟨by omega,by omega,by simpa using hb⟩,by omega⟩⟩⟩) fun _=>⟨by omega,fun _ _=>⟨by unfold InI;omega,⟨by omega,by omega,by simpa using hb⟩,by omega⟩⟩⟩) fun _=>q4b (by omega) h
theorem j8l{a b:List Spn}{K:List Spn->Prop}(h: ∀l,SpsS l->K l):Hj a b K:=by
 unfold Hj q7x
 refine q28 fun x hx=>q28 fun y hy=>Lp2.ind (fun (i:Int) (b:List Bool)=>0<=i/\i<=10000/\b.length=10000) (fun (i:Int) _=>(10000 - i).toNat) ?_ ⟨by omega,by omega,hx⟩
 rintro i b ⟨i0,i1,hb⟩ _
 exact Cnd.mk (fun hc=>⟨by omega,fun y hy=>Cnd.mk (fun _=>⟨by omega,fun _ _=>⟨by omega,fun _ _=>⟨by unfold InI;omega,⟨by omega,by omega,by simpa using hb⟩,by omega⟩⟩⟩) fun _=>⟨by omega,fun _ _=>⟨by unfold InI;omega,⟨by omega,by omega,by simpa using hb⟩,by omega⟩⟩⟩) fun _=>q4b (by omega) h
theorem j0z{a:List Spn}{n:Int}{K:List Spn->Prop}(hn: -1000000<=n/\n<=1000000)(h: ∀l,SpsS l->K l):Hb a n K:=by
 unfold Hb z0f
 refine q28 fun x hx=>Lp3.ind (fun (m i:Int) (b:List Bool)=>0<=i/\i<=10000/\b.length=10000/\ -1000000 - i<=m/\m<=1000000) (fun _ (i:Int) _=>(10000 - i).toNat) ?_ ⟨by omega,by omega,hx,by omega,by omega⟩
 rintro m i b ⟨i0,i1,hb,m0,m1⟩ _
 refine Cnd.mk (fun hc=>⟨by omega,fun y hy=> ?_⟩) fun _=>q4b (by omega) h
 have step:(0<=i/\i<(b.length:Int))/\ ∀y5,b[i.toNat]? =some y5->Cnd (y5=true) (InI (m - 1)/\InI (i+1)/\((0<=i+1/\i+1<=10000/\b.length=10000/\ -1000000 - (i+1)<=m - 1/\m - 1<=1000000)/\(10000 - (i+1)).toNat<(10000 - i).toNat)) (InI (i+1)/\((0<=i+1/\i+1<=10000/\b.length=10000/\ -1000000 - (i+1)<=m/\m<=1000000)/\(10000 - (i+1)).toNat<(10000 - i).toNat)):=
  ⟨by omega,fun _ _=>Cnd.mk (fun _=>⟨by unfold InI;omega,by unfold InI;omega,by omega,by omega⟩) fun _=>⟨by unfold InI;omega,by omega,by omega⟩⟩
 exact Cnd.mk (fun _=>Cnd.mk (fun _=>⟨by omega,fun _ _=>⟨by unfold InI;omega,⟨by omega,by omega,by simpa using hb,by omega,by omega⟩,by omega⟩⟩) fun _=>step) fun _=>step
theorem v6o(n:Int):0<=Go.IntKind.u8.wrap n/\Go.IntKind.u8.wrap n<=255:=by
 have e:Go.IntKind.u8.wrap n=n % 256:=rfl
 rw[e];omega
theorem w6t{s:ByteArray}{K:Bool->Prop}(hs:s.size<=1000)(h: ∀r,K r):z7h s K:=by
 unfold z7h
 refine Lp1.ind (fun (i:Int)=>0<=i/\i<=s.size) (fun (i:Int)=>(s.size - i).toNat) ?_ ⟨by omega,by omega⟩
 rintro i ⟨i0,i1⟩
 (repeat' (first|exact h _|assumption|(unfold InI;omega)|omega|refine Cnd.mk (fun _=> ?_) fun _=> ?_|refine⟨?_,?_⟩|intro _))
theorem j63{e:Ex}{K:Bool->Prop}(h: ∀r,K r):z7j e K:=by
 unfold z7j
 (repeat' (first|exact h _|assumption|(unfold InI;omega)|omega|refine Cnd.mk (fun _=> ?_) fun _=> ?_|refine⟨?_,?_⟩|intro _))
theorem j00{e:Ex}{K:Bool->Prop}(h: ∀r:Bool,(r=true->9<=e.op->e.op<=11->e.values≠[])->K r):z0i e K:=by
 unfold z0i z51
 intro _ _
 refine Jn2.mk (fun _ v=>v=true->9<=e.op->e.op<=11->e.values.length=1) ?_ fun k v hv=> ?_
 ·refine Cnd.mk (fun _ _ _ _ _=>by omega) fun _=>Cnd.mk (fun _ _ _ _ _=>by omega) fun _=>Cnd.mk (fun _ _ _ _ _=>by omega) fun _=>Cnd.mk (fun _ _ _ _ _=>by omega) fun _=>q0k fun r hr=>Cnd.mk (fun _=>Cnd.mk (fun _ _ _ _=>by omega) fun _ _ hd _ _=>by have:=of_decide_eq_true hd;omega) fun hc _ h1 h2=>absurd (hr.2 ⟨by omega,by omega⟩) hc
 ·have no:K false:=h _ fun h=>by cases h
  refine q0k fun r _=>Cnd.mk (fun _=>Cnd.mk (fun hv'=> ?_) fun _=>no) fun _=>no
  have yes: ∀r,K r:=fun r=>h r fun _ h1 h2 hn=>by have:=hv hv' h1 h2;rw[hn] at this;cases this
  (repeat' (first|exact yes _|exact no|assumption|(unfold InI;omega)|omega|refine Cnd.mk (fun _=> ?_) fun _=> ?_|refine⟨?_,?_⟩|intro _))
theorem w3k{v:Val}{K:Bool->Prop}(h: ∀r,K r):z39 v K:=by
 unfold z39
 (repeat' (first|exact h _|assumption|(unfold InI;omega)|omega|refine Cnd.mk (fun _=> ?_) fun _=> ?_|refine⟨?_,?_⟩|intro _))
theorem z07{l:List Rng}{n:Int}{K:Int->Prop}(h: ∀r,0<=r->r<=100->K r):q9h l n K:=by
 unfold q9h
 intro _
 refine Cnd.mk (fun _=>h _ (by omega) (by omega)) fun _=> ?_
 refine Lp2.ind (fun _ (i:Int)=>0<=i/\i<=l.length) (fun _ (i:Int)=>(l.length - i).toNat) ?_ ⟨by omega,by omega⟩
 rintro a i ⟨i0,i1⟩
 (repeat' (first|exact h _ (by omega) (by omega)|assumption|(unfold InI;omega)|omega|refine Cnd.mk (fun _=> ?_) fun _=> ?_|refine⟨?_,?_⟩|intro _))
theorem j4v{l:List Spn}{K:Int->Prop}(h: ∀r,0<=r->r<=100->K r):z4g l K:=by
 unfold z4g
 intro _
 refine Cnd.mk (fun _=>h _ (by omega) (by omega)) fun _=> ?_
 refine Lp1.ind (fun (i:Int)=>0<=i/\i<=l.length) (fun (i:Int)=>(l.length - i).toNat) ?_ ⟨by omega,by omega⟩
 rintro i ⟨i0,i1⟩
 (repeat' (first|exact h _ (by omega) (by omega)|assumption|(unfold InI;omega)|omega|refine Cnd.mk (fun _=> ?_) fun _=> ?_|refine⟨?_,?_⟩|intro _))
theorem w0z{α:Type}{l:List α}{f:α->ByteArray}{K:List ByteArray->Prop}(hl:l.length<=1000000)(h:K (l.map f)):
  Lp2 (fun (r:List ByteArray) (i:Int) Y=>l.length<=9223372036854775807->Cnd (i<(l.length:Int)) ((0<=i/\i<(l.length:Int))/\ ∀y,l[i.toNat]? =some y->Sml (r++[f y]).length/\InI (i+1)/\Y (r++[f y]) (i+1)) (K r)) [] 0:=by
 refine Lp2.ind (fun (r:List ByteArray) (i:Int)=>0<=i/\i<=l.length/\r=(l.take i.toNat).map f) (fun _ (i:Int)=>(l.length - i).toNat) ?_ ⟨Int.le_refl 0,by omega,by simp⟩
 rintro r i ⟨i0,i1,rfl⟩ _
 refine Cnd.mk (fun hc=>⟨by omega,fun y hy=>⟨by unfold Sml;simp;omega,by unfold InI;omega,⟨by omega,by omega,?_⟩,by omega⟩⟩) fun hc=> ?_
 ·rw[show (i+1).toNat=i.toNat+1 by omega,List.take_add_one,hy];simp
 ·rw[List.take_of_length_le (by omega)];exact h
theorem z6r{l:List Seg}{K:List ByteArray->Prop}(hl:l.length<=1000000)(h:K (l.map Seg.key)):q9m l K:=w0z hl h
theorem v3c{i:Nat}:(29:Int)*10 ^ (i+1)=10*(29*10 ^ i):=by rw[Int.pow_succ];omega
theorem j0d{s:ByteArray}{K:Int->Int->Prop}(hs:s.size<=1000)(h: ∀n e,InI n->0<=e->e<=100->K n e):Bd s K:=by
 unfold Bd
 refine Jn1.mk (fun d=>d.size<=1000) ?_ fun d hd=> ?_
 ·(repeat' (first|(show (s.extract _ _).size<=1000;rw[ByteArray.size_extract];omega)|assumption|(unfold InI;omega)|omega|refine Cnd.mk (fun _=> ?_) fun _=> ?_|refine⟨?_,?_⟩|intro _))
 refine Lp1.ind (fun (i:Int)=>0<=i/\i<=d.size) (fun (i:Int)=>(d.size - i).toNat) ?_ ⟨by omega,by omega⟩
 rintro i ⟨i0,i1⟩
 have fin:d.size<=13->Lp2 (fun (Qw V3:Int) v7i=>Cnd (V3<(↑d.size:Int)) (InI ((10:Int)*Qw)/\((0:Int)<=V3/\V3<(↑d.size:Int))/\ ∀b5,d[V3.toNat]? =some b5->InI (Go.IntKind.u8.wrap ((↑b5.toNat:Int) - (48:Int)))/\InI ((10:Int)*Qw+Go.IntKind.u8.wrap ((↑b5.toNat:Int) - (48:Int)))/\InI (V3+(1:Int))/\v7i ((10:Int)*Qw+Go.IntKind.u8.wrap ((↑b5.toNat:Int) - (48:Int))) (V3+(1:Int))) (Cnd ((1099511627776:Int)<Qw) (K (0:Int) (3:Int)) (Cnd ((↑d.size:Int)<(↑s.size:Int)) (InI ((0:Int) - Qw)/\K ((0:Int) - Qw) (0:Int)) (K Qw (0:Int))))) (0:Int) (0:Int):=fun h13=>by
  refine Lp2.ind (fun (n j:Int)=>0<=j/\j<=d.size/\0<=n/\n+29<=29*10 ^ j.toNat) (fun _ (j:Int)=>(d.size - j).toNat) ?_ ⟨by omega,by omega,by omega,by simp⟩
  rintro n j ⟨j0,j1,n0,n1⟩
  have hp:(10:Int) ^ j.toNat<=10 ^ 13:=by
   have:=Nat.pow_le_pow_right (n:=10) (by decide) (show j.toNat<=13 by omega)
   exact_mod_cast this
  refine Cnd.mk (fun hc=>⟨by unfold InI;omega,by omega,fun b _=> ?_⟩) fun hc=> ?_
  ·obtain⟨w0,w1⟩:=v6o ((b.toNat:Int) - 48)
   refine⟨by unfold InI;omega,by unfold InI;omega,by unfold InI;omega,⟨by omega,by omega,by omega,?_⟩,by omega⟩
   rw[show (j+1).toNat=j.toNat+1 by omega,v3c];omega
  ·exact Cnd.mk (fun _=>h _ _ (by unfold InI;omega) (by omega) (by omega)) fun _=>Cnd.mk (fun _=>⟨by unfold InI;omega,h _ _ (by unfold InI;omega) (by omega) (by omega)⟩) fun _=>h _ _ (by unfold InI;omega) (by omega) (by omega)
 have k1:=h 0 1 (by unfold InI;omega) (by omega) (by omega)
 have k3:=h 0 3 (by unfold InI;omega) (by omega) (by omega)
 refine Cnd.mk (fun hc=>⟨by omega,fun b hb=>Cnd.mk (fun _=>k1) fun _=>⟨by omega,fun b' hb'=>Cnd.mk (fun _=>k1) fun _=>⟨by unfold InI;omega,by omega,by omega⟩⟩⟩) fun _=> ?_
 refine Cnd.mk (fun _=>k1) fun he=>⟨⟨by omega,?_⟩,fun b hb=>Cnd.mk (fun _=>Cnd.mk (fun _=>Cnd.mk (fun _=>k3) fun _=>fin (by omega)) fun _=>k1) fun _=>Cnd.mk (fun _=>k3) fun _=>fin (by omega)⟩
 refine Int.not_le.1 fun hn=>he ?_
 have:d.size=0:=by omega
 exact ByteArray.ext (Array.eq_empty_of_size_eq_zero this)
theorem w6u{t:Int}{e:Ex}{K:Bool->Prop}(h: ∀r,K r):q6f t e K:=by
 unfold q6f
 refine Cnd.mk (fun _=>h _) fun _=>Cnd.mk (fun _=> ?_) fun _ _=>Cnd.mk (fun _=>h _) fun _=>⟨by omega,fun y hy=>Cnd.mk (fun _=>h _) fun _=>Jn1.mk (fun _=>True) ?_ fun x _=> ?_⟩
 ·refine Lp1.ind (fun (i:Int)=>0<=i/\i<=e.values.length) (fun (i:Int)=>(e.values.length - i).toNat) ?_ ⟨by omega,by omega⟩
  rintro i ⟨i0,i1⟩
  (repeat' (first|exact h _|assumption|(unfold InI;omega)|omega|refine Cnd.mk (fun _=> ?_) fun _=> ?_|refine⟨?_,?_⟩|intro _))
 ·(repeat' (first|exact trivial|assumption|(unfold InI;omega)|omega|refine Cnd.mk (fun _=> ?_) fun _=> ?_|refine⟨?_,?_⟩|intro _))
 ·(repeat' (first|exact h _|assumption|(unfold InI;omega)|omega|refine Cnd.mk (fun _=> ?_) fun _=> ?_|refine⟨?_,?_⟩|intro _))
theorem j4w{v:Envt}{K:List ByteArray->Prop}(hl:v.flags.length<=1000000)(h:K (v.flags.map Flg.key)):q8g v K:=w0z hl h
def z08(f:Flg):List Edg:=f.needs.map fun q=>Edg.mk f.key q.flag
theorem j1t{v:Envt}{K:List Edg->Prop}(hl:v.flags.length<=1000)(hn: ∀f∈v.flags,f.needs.length<=1000)(h:K (v.flags.flatMap z08)):q06 v K:=by
 unfold q06
 have hb: ∀l:List Flg,(∀f∈l,f.needs.length<=1000)->(l.flatMap z08).length<=1000*l.length:=by
  intro l
  induction l with
  |nil=>simp
  |cons f l ih=>intro hf;have h1:=hf f (by simp);have h2:=ih fun g hg=>hf g (by simp[hg]);simp only[List.flatMap_cons,List.length_append,z08,List.length_map,List.length_cons] at*;omega
 refine Lp2.ind (fun (r:List Edg) (i:Int)=>0<=i/\i<=v.flags.length/\r=(v.flags.take i.toNat).flatMap z08) (fun _ (i:Int)=>(v.flags.length - i).toNat) ?_ ⟨Int.le_refl 0,by omega,by simp⟩
 rintro r i ⟨i0,i1,rfl⟩ _
 refine Cnd.mk (fun hc=> ?_) fun hc=> ?_
 ·obtain⟨f,hf⟩: ∃f,v.flags[i.toNat]? =some f:=⟨_,List.getElem?_eq_getElem (by omega)⟩
  have hfn:=hn f (getm hf)
  have hbt:=hb (v.flags.take i.toNat) fun g hg=>hn g (List.mem_of_mem_take hg)
  rw[List.length_take] at hbt
  refine Lp2.ind (fun (r:List Edg) (j:Int)=>0<=j/\j<=f.needs.length/\r=(v.flags.take i.toNat).flatMap z08++(f.needs.take j.toNat).map fun q=>Edg.mk f.key q.flag) (fun _ (j:Int)=>(f.needs.length - j).toNat) ?_ ⟨by omega,by omega,by simp⟩
  rintro r j ⟨j0,j1,rfl⟩
  refine⟨by omega,fun g hg=> ?_⟩
  rw[hf] at hg;cases hg
  refine fun _=>Cnd.mk (fun hc=>⟨by omega,fun g hg=> ?_⟩) fun hc=>⟨by unfold InI;omega,⟨by omega,by omega,?_⟩,by omega⟩
  ·rw[hf] at hg;cases hg
   refine⟨by omega,fun g hg=> ?_⟩
   rw[hf] at hg;cases hg
   refine⟨by omega,fun q hq=>⟨?_,by unfold InI;omega,⟨by omega,by omega,?_⟩,by omega⟩⟩
   ·unfold Sml;simp only[List.length_append,List.length_map,List.length_take,List.length_cons,List.length_nil];omega
   ·rw[show (j+1).toNat=j.toNat+1 by omega,List.take_add_one,hq];simp
  ·rw[List.take_of_length_le (show f.needs.length<=j.toNat by omega),show (i+1).toNat=i.toNat+1 by omega,List.take_add_one,hf];simp[z08]
 ·rw[List.take_of_length_le (by omega)];exact h
end Go.En
end
noncomputable section
set_option maxRecDepth 100000
namespace Go.Sg
open Go
abbrev bts(s:ByteArray):List UInt8:=s.data.toList
def isD(c:UInt8):Bool:=decide (48<=c.toNat) && decide (c.toNat<=57)
def y09(n:Nat)(c:UInt8):Nat:=10*n+(c.toNat - 48)
def valD(n:Nat)(l:List UInt8):Nat:=l.foldl y09 n
def digs(s:ByteArray):ByteArray:=if s[0]? =some 45 then s.extract 1 s.size else s
def pnum(s:ByteArray):Int×Int:=
 if (bts (digs s)).all isD=false then (0,1)
 else if (digs s).size=0∨((digs s)[0]? =some 48/\s≠ByteArray.mk (Array.mk [48])) then (0,1)
 else if 1099511627776<valD 0 (bts (digs s)) then (0,3)
 else (if (digs s).size<s.size then -(valD 0 (bts (digs s)):Int) else valD 0 (bts (digs s)),0)
def dot(s:ByteArray)(k:Nat):Nat:=k+((bts s).drop k).idxOf 46
def okp(p:Int×Int):Bool:=decide (p.2=0) && decide (0<=p.1) && decide (p.1<=999999)
def v6p(s:ByteArray)(k:Nat):Int×Int:=pnum (s.extract k (dot s k))
def v80(s:ByteArray):Prop:=(dot s 0<s.size/\okp (v6p s 0)=true)/\(dot s (dot s 0+1)<s.size/\okp (v6p s (dot s 0+1))=true)/\ ¬dot s (dot s (dot s 0+1)+1)<s.size/\okp (v6p s (dot s (dot s 0+1)+1))=true
instance (s:ByteArray):Decidable (v80 s):=by unfold v80;infer_instance
end Go.Sg
end
noncomputable section
set_option maxRecDepth 100000
namespace Go.En
open Go Go.Fl Go.Fl.Lk Go.Fx Go.Sg
theorem take_snoc{l:List UInt8}{i:Nat}{b:UInt8}(h:l[i]? =some b):l.take (i+1)=l.take i++[b]:=by rw[List.take_add_one,h];rfl
end Go.En
end
noncomputable section
set_option maxRecDepth 100000
namespace Go.En
open Go Go.Fl Go.Fl.Lk Go.Fx Go.Sg
def sg(l g:Prop)[Decidable l][Decidable g]:Int:=if l then -1 else if g then 1 else 0
end Go.En
end
noncomputable section
set_option maxRecDepth 100000
namespace Go.En
open Go Go.Fl Go.Fl.Lk Go.Fx Go.Sg
open Classical in
def dec(p:Prop):Bool:=decide p
theorem w3l{p:Prop}:dec p=true↔p:=by unfold dec;exact @decide_eq_true_iff p (Classical.propDecidable p)
theorem v4o{p:Prop}{r:Bool}(h:r=true↔p):r=dec p:=by rw[Bool.eq_iff_iff,h,w3l]
theorem w46{p:Prop}(h:p):dec p=true:=w3l.2 h
theorem w00{p:Prop}(h: ¬p):dec p=false:=by rw[Bool.eq_false_iff];exact fun e=>h (w3l.1 e)
def ValB(w:Val):Prop:=w.3.size<=2000000/\w.4.length<=2000000
end Go.En
end
noncomputable section
set_option maxRecDepth 100000
namespace Go.Gr
open Go.Fl Go.Fl.Lk
abbrev E2:=ByteArray×ByteArray
variable {ns ms:List ByteArray}{E D:List E2}{o o':List ByteArray}{x y:ByteArray}
def Rch(E:List E2)(x y:ByteArray):Prop:= ∀p:ByteArray->Prop,(∀e∈E,e.1=x∨p e.1->p e.2)->p y
theorem Rch.step{e:E2}(h:Rch E x e.1)(he:e∈E):Rch E x e.2:=fun p hp=>hp e he (.inr (h p hp))
def nd(E:List E2)(x:ByteArray):List ByteArray:=(E.filter fun e=>decide (e.1=x)).map (·.2)
end Go.Gr
end
noncomputable section
set_option maxRecDepth 100000
namespace Go.En
open Go Go.Fl Go.Fl.Lk Go.Fx Go.Sg
mutual
def evl(T:Ex->Bool)(I:ByteArray->Bool):Ex->Bool
 |⟨op,kind,name,values,kids⟩=>if op=1 then true else if op=2 then evlA T I kids else if op=3 then evlO T I kids else if op=4 then evlN T I kids else if op=5 then I name else T ⟨op,kind,name,values,kids⟩
def evlA(T:Ex->Bool)(I:ByteArray->Bool):List Ex->Bool
 |[]=>true
 |k::l=>if evl T I k=true then evlA T I l else false
def evlO(T:Ex->Bool)(I:ByteArray->Bool):List Ex->Bool
 |[]=>false
 |k::l=>if evl T I k=true then true else evlO T I l
def evlN(T:Ex->Bool)(I:ByteArray->Bool):List Ex->Bool
 |[]=>false
 |k::_=> !(evl T I k)
end
mutual
def subs:Ex->List Ex
 |⟨op,kind,name,values,kids⟩=>⟨op,kind,name,values,kids⟩::w6v kids
def w6v:List Ex->List Ex
 |[]=>[]
 |k::l=>subs k++w6v l
end
theorem v0k(e:Ex):subs e=e::w6v e.5:=by cases e;rfl
theorem j4x{a:Ex}{l:List Ex}:a∈w6v l↔ ∃k∈l,a∈subs k:=by
 induction l with
 |nil=>simp[w6v]
 |cons k l ih=>simp[w6v,ih]
mutual
def wt:Ex->Nat
 |⟨_,_,_,values,kids⟩=>1+wtV values+wtL kids
def wtL:List Ex->Nat
 |[]=>0
 |k::l=>wt k+wtL l
def wtV:List Val->Nat
 |[]=>0
 |v::l=>1+v.4.length+wtV l
end
theorem v81(e:Ex):wt e=1+wtV e.4+wtL e.5:=by cases e;rfl
def EvB(e:Ex):Prop:= ∀a∈subs e,∀w∈a.4,ValB w
end Go.En
end
noncomputable section
set_option maxRecDepth 100000
namespace Go.En
open Go Go.Fl Go.Fl.Lk Go.Fx
theorem v6q{l:List ByteArray}(ha:Asc l){i:Nat}{s:ByteArray}(h1: ∀y∈l.take i,blt y s)(h2: ∀y∈l.drop i,blt s y):Asc (l.take i++[s]++l.drop i):=by
 unfold Asc at*
 rw[←List.take_append_drop i l,List.pairwise_append] at ha
 obtain⟨a1,a2,a3⟩:=ha
 rw[List.append_assoc,List.pairwise_append,List.singleton_append,List.pairwise_cons]
 refine⟨a1,⟨h2,a2⟩,fun a ha b hb=> ?_⟩
 rcases List.mem_cons.1 hb with rfl|hb
 ·exact h1 a ha
 ·exact a3 a ha b hb
theorem j4y{l:List ByteArray}{s:ByteArray}{K:List ByteArray->Prop}(ha:Asc l)(hl:l.length<=1100000)(h: ∀r,Asc r->(∀y,y∈r↔y∈l∨y=s)->K r):q7t l s K:=by
 unfold q7t
 refine Lp1.ind (fun (i:Int)=>0<=i/\i<=l.length/\ ∀y∈l.take i.toNat,blt y s) (fun (i:Int)=>(l.length - i).toNat) ?_ ⟨by omega,by omega,by simp⟩
 rintro i ⟨i0,i1,hb⟩ _
 have ins:(∀y∈l.drop i.toNat,blt s y)->((0:Int)<=0/\0<=i/\i<=(l.length:Int))/\Sml ([]++List.drop (Int.toNat 0) (List.take i.toNat l)).length/\(0<=i/\i<=(l.length:Int)/\(l.length:Int)<=(l.length:Int))/\Sml ([]++List.drop (Int.toNat 0) (List.take i.toNat l)++[s]).length/\
   Sml ([]++List.drop (Int.toNat 0) (List.take i.toNat l)++[s]++List.drop i.toNat (List.take (l.length:Int).toNat l)).length/\K ([]++List.drop (Int.toNat 0) (List.take i.toNat l)++[s]++List.drop i.toNat (List.take (l.length:Int).toNat l)):=fun hd=>by
  have e:[]++List.drop (Int.toNat 0) (List.take i.toNat l)++[s]++List.drop i.toNat (List.take (l.length:Int).toNat l)=l.take i.toNat++[s]++l.drop i.toNat:=by simp
  refine⟨by omega,by unfold Sml;simp;omega,by omega,by unfold Sml;simp;omega,by unfold Sml;simp;omega,?_⟩
  rw[e]
  refine h _ (v6q ha hb hd) fun y=> ?_
  rw[List.mem_append,List.mem_append,List.mem_singleton]
  conv=>rhs;rw[←List.take_append_drop i.toNat l,List.mem_append]
  constructor
  ·rintro ((a|a)|a)
   ·exact .inl (.inl a)
   ·exact .inr a
   ·exact .inl (.inr a)
  ·rintro ((a|a)|a)
   ·exact .inl (.inl a)
   ·exact .inr a
   ·exact .inl (.inr a)
 have dropc: ∀{y:ByteArray},l[i.toNat]? =some y-> ∀z∈l.drop i.toNat,z=y∨blt y z:=fun {y} hy z hz=>by
  have hlt:=(List.getElem?_eq_some_iff.1 hy).1
  rw[List.drop_eq_getElem_cons hlt] at hz
  have e:l[i.toNat]=y:=(List.getElem?_eq_some_iff.1 hy).2
  rcases List.mem_cons.1 hz with hz|hz
  ·exact .inl (hz.trans e)
  ·unfold Asc at ha
   rw[←List.take_append_drop i.toNat l,List.pairwise_append,List.drop_eq_getElem_cons hlt,List.pairwise_cons,e] at ha
   exact .inr (ha.2.1.1 z hz)
 refine Cnd.mk (fun hc=>⟨by omega,fun y hy=>Cnd.mk (fun hlt=>⟨by unfold InI;omega,⟨by omega,by omega,?_⟩,by omega⟩) fun hn _=>Cnd.mk (fun _=>⟨by omega,fun z hz=>Cnd.mk (fun e=> ?_) fun e=>ins fun z' hz'=> ?_⟩) fun hx=>absurd hc hx⟩) fun hc _=>Cnd.mk (fun hx=>absurd hx hc) fun _=>ins ?_
 ·rw[show (i+1).toNat=i.toNat+1 by omega,List.take_add_one,hy]
  exact Jc hb hlt
 ·exact h _ ha fun y=>⟨.inl,fun hy=>hy.elim id fun q=>by rw[q,←e];exact getm hz⟩
 ·rw[hy] at hz;cases hz
  rcases dropc hy z' hz' with rfl|hlt
  ·exact Classical.byContradiction fun hb=>e (w1v hn hb)
  ·exact Classical.byContradiction fun hb=>by
    have h1:=w1v hn (fun k=>hb (j2o k hlt))
    exact e h1
 ·intro z hz
  rw[List.drop_of_length_le (by omega)] at hz;simp at hz
theorem w3m:Asc []:=List.Pairwise.nil
end Go.En
end
noncomputable section
set_option maxRecDepth 100000
namespace Go.En
open Go Go.Fl Go.Fl.Lk Go.Fx Go.Sg
def nms(e:Ex):List ByteArray:=((subs e).filter fun a=>decide (a.1=5)).map Ex.name
theorem w3n{e:Ex}{x:ByteArray}:x∈nms e↔ ∃a∈subs e,a.1=5/\a.3=x:=by
 unfold nms
 simp only[List.mem_map,List.mem_filter,decide_eq_true_eq]
 exact⟨fun ⟨a,⟨h1,h2⟩,h3⟩=>⟨a,h1,h2,h3⟩,fun ⟨a,h1,h2,h3⟩=>⟨a,⟨h1,h2⟩,h3⟩⟩
theorem j64(e:Ex)(x:ByteArray):x∈nms e↔(e.1=5/\e.3=x)∨ ∃k∈e.5,x∈nms k:=by
 rw[w3n,v0k]
 constructor
 ·rintro⟨a,ha,h⟩
  rcases List.mem_cons.1 ha with rfl|ha
  ·exact .inl h
  ·obtain⟨k,hk,ha⟩:=j4x.1 ha
   exact .inr ⟨k,hk,w3n.2 ⟨a,ha,h⟩⟩
 ·rintro (h|⟨k,hk,h⟩)
  ·exact⟨e,List.mem_cons_self,h⟩
  ·obtain⟨a,ha,h⟩:=w3n.1 h
   exact⟨a,List.mem_cons_of_mem _ (j4x.2 ⟨k,hk,ha⟩),h⟩
end Go.En
end
noncomputable section
set_option maxRecDepth 100000
namespace Go.En
open Go Go.Fl Go.Fl.Lk Go.Fx Go.Sg
structure ClE(segs:List ByteArray)(Q:Nat->Ex->Prop):Prop where
 hT: ∀k,Q k (Ex.mk 1 (ByteArray.mk (Array.mk [])) (ByteArray.mk (Array.mk [])) [] [])
 hS: ∀k b,b∈segs->Q k (Ex.mk 5 (ByteArray.mk (Array.mk [])) b [] [])
 ht: ∀k e,ExS 0 e->6<=e.1/\e.1<=15->Q k e
 hN: ∀k e,Q k e->Q (k+1) (Ex.mk 4 (ByteArray.mk (Array.mk [])) (ByteArray.mk (Array.mk [])) [] [e])
 hA: ∀k op l,op=2∨op=3->l.length<=3->l≠[]->(∀e∈l,Q k e∨ ∃e',Q k e'/\e=Ex.mk 4 (ByteArray.mk (Array.mk [])) (ByteArray.mk (Array.mk [])) [] [e'])->Q (k+1) (Ex.mk op (ByteArray.mk (Array.mk [])) (ByteArray.mk (Array.mk [])) [] l)
theorem ClE.and{segs:List ByteArray}{Q R:Nat->Ex->Prop}(a:ClE segs Q)(b:ClE segs R):ClE segs fun k e=>Q k e/\R k e:=
 ⟨fun k=>⟨a.hT k,b.hT k⟩,fun k x hx=>⟨a.hS k x hx,b.hS k x hx⟩,fun k e h1 h2=>⟨a.ht k e h1 h2,b.ht k e h1 h2⟩,fun k e h=>⟨a.hN k e h.1,b.hN k e h.2⟩,
  fun k op l h1 h2 h3 h=>⟨a.hA k op l h1 h2 h3 fun e he=>(h e he).imp (·.1) fun ⟨e',h,h'⟩=>⟨e',h.1,h'⟩,b.hA k op l h1 h2 h3 fun e he=>(h e he).imp (·.2) fun ⟨e',h,h'⟩=>⟨e',h.2,h'⟩⟩⟩
theorem j0e{list:List Int}{segs:List ByteArray}{Q:Nat->Ex->Prop}(c:ClE segs Q):
  ∀(k:Nat) {at_ levels:Int} {K:Ex->Int->Prop},k<=100->levels<=k+1->1<=levels->DS list at_->(∀r a,Q k r->DS list a->K r a)->q7o list at_ segs levels K:=by
 obtain⟨hT,hS,ht,hN,hA⟩:=c
 intro k at_ levels K hk0 hk hl hD h X hX
 induction k generalizing at_ levels K with
 |zero=>
  refine hX _ _ _ _ _ ?_
  unfold z35
  refine Qf hD (by decide) fun r a r0 r1 hD=>Jn1.mk (fun x=>0<=x/\x<=3) (Cnd.mk (fun _=>Cnd.mk (fun _=>⟨by unfold InI;omega,by omega,by omega⟩) fun _=>⟨by omega,by omega⟩) fun _=>by omega) fun x hx=> ?_
  have t:=z8b (K:=fun r a=>K (Ex.mk r.1 r.2 r.3 r.4 r.5) a) hD fun r a hr h6 hD=>h _ a (by rw[Ju];exact ht 0 r hr h6) hD
  refine Cnd.mk (fun _=>h _ _ (hT 0) hD) fun _=>Cnd.mk (fun _ _=>Cnd.mk (fun hc _=> ?_) fun _=>t) fun _=>Cnd.mk (fun hc=>by omega) fun _=> ?_
  ·exact Qf hD (by omega) fun r a r0 r1 hD=>⟨⟨r0,r1⟩,fun y hy=>h _ _ (hS 0 y (getm hy)) hD⟩
  ·exact Jn1.mk (fun x=>x=false) (Cnd.mk (fun hc=>by omega) fun _=>decide_eq_false (by omega)) fun x hx=>Cnd.mk (fun hc=>by rw[hx] at hc;cases hc) fun _=>t
 |succ k ih=>
  refine hX _ _ _ _ _ ?_
  unfold z35
  have go: ∀{at_:Int} {K:Ex->Int->Prop},1<=levels - 1->DS list at_->(∀r a,Q k r->DS list a->K r a)->X list at_ segs (levels - 1) K:=fun h1 hD hK=>ih (by omega) (by omega) h1 hD hK
  refine Qf hD (by decide) fun r a r0 r1 hD=>Jn1.mk (fun x=>0<=x/\x<=7/\(levels<=1->x<=3)) (Cnd.mk (fun _=>Cnd.mk (fun _=>⟨by unfold InI;omega,by omega,by omega,by omega⟩) fun _=>⟨by omega,by omega,by omega⟩) fun _=>by omega) fun x hx=> ?_
  have t:=z8b (K:=fun r a=>K (Ex.mk r.1 r.2 r.3 r.4 r.5) a) hD fun r a hr h6 hD=>h _ a (by rw[Ju];exact ht _ r hr h6) hD
  refine Cnd.mk (fun _=>h _ _ (hT _) hD) fun _=>Cnd.mk (fun _ _=>Cnd.mk (fun hc _=> ?_) fun _=>t) fun _=>Cnd.mk (fun hc=> ?_) fun _=> ?_
  ·exact Qf hD (by omega) fun r a r0 r1 hD=>⟨⟨r0,r1⟩,fun y hy=>h _ _ (hS _ y (getm hy)) hD⟩
  ·refine⟨by unfold InI;omega,go (by omega) hD fun e a he hD=>h _ _ ?_ hD⟩
   rw[Ju];exact hN k e he
  refine Jn1.mk (fun y=>y=true->2<=levels) (Cnd.mk (fun hc _=>by omega) fun _ hc=>by have:=of_decide_eq_true hc;omega) fun y hy=>Cnd.mk (fun hc=> ?_) fun _=>t
  have hy:=hy hc
  refine Qf hD (by decide) fun r a r0 r1 hD=>⟨by unfold InI;omega,Qf hD (by decide) fun q a q0 q1 hD=>⟨by unfold InI;omega,?_⟩⟩
  refine LpH.ind (fun x=>0<=x.1/\x.1<=2+q/\DS list x.2.1/\x.2.2=(2+r,ByteArray.mk (Array.mk []),ByteArray.mk (Array.mk []),[],x.2.2.2.2.2.2.1,())/\(x.2.2.2.2.2.2.1.length:Int)=x.1/\ ∀e∈x.2.2.2.2.2.2.1,Q k e∨ ∃e',Q k e'/\e=Ex.mk 4 (ByteArray.mk (Array.mk [])) (ByteArray.mk (Array.mk [])) [] [e']) (fun x=>(3 - x.1).toNat) ?_ ⟨Int.le_refl 0,by simp only;omega,hD,rfl,rfl,by simp⟩
  rintro⟨i,a,x⟩ ⟨i0,i1,hD,hx,hl,he⟩
  simp only at i0 i1 hD hx hl he
  generalize x.2.2.2.2.1=l at*
  subst hx
  simp only at hl he⊢
  refine Cnd.mk (fun hc=>⟨by unfold InI;omega,go (by omega) hD fun e a hk hD=> ?_⟩) fun hc=>h _ _ (hA k (2+r) l (by omega) (by omega) (fun e=>by rw[e] at hl;simp at hl;omega) he) hD
  refine Jn1.mk (fun z=>(fun e=>Q k e∨ ∃e',Q k e'/\e=Ex.mk 4 (ByteArray.mk (Array.mk [])) (ByteArray.mk (Array.mk [])) [] [e']) (Ex.mk z.1 z.2.1 z.2.2.1 z.2.2.2.1 z.2.2.2.2.1)) (Cnd.mk (fun _=> .inr ⟨e,hk,by simp only;rw[Ju]⟩) fun _=> .inl (by simp only;rw[Ju];exact hk)) fun z hz=> ?_
  exact⟨by unfold Sml;simp;omega,by unfold InI;omega,⟨by omega,by omega,hD,trivial,by simp;omega,Jc he hz⟩,by omega⟩
structure DrE(segs:List ByteArray)(w:Nat)(e:Ex):Prop where
 wt:wt e<=w
 nms: ∀x∈nms e,x∈segs
 ev:EvB e
theorem EvB.mk'{e:Ex}(h: ∀w∈e.4,ValB w)(hk: ∀k∈e.5,EvB k):EvB e:=fun a ha=>by
 rw[v0k] at ha
 rcases List.mem_cons.1 ha with rfl|ha
 ·exact h
 ·obtain⟨k,hk',ha⟩:=j4x.1 ha
  exact hk k hk' a ha
theorem v82{l:List Val}{b:Nat}(h: ∀v∈l,v.4.length<=b):wtV l<=l.length*(1+b):=by
 induction l with
 |nil=>simp[wtV]
 |cons v l ih=>
  have h1:=h v List.mem_cons_self
  have h2:=ih fun v hv=>h v (List.mem_cons_of_mem _ hv)
  simp only[wtV,List.length_cons,Nat.add_mul,Nat.one_mul] at*
  omega
theorem v83{l:List Ex}{b:Nat}(h: ∀e∈l,wt e<=b):wtL l<=l.length*b:=by
 induction l with
 |nil=>simp[wtL]
 |cons v l ih=>
  have h1:=h v List.mem_cons_self
  have h2:=ih fun v hv=>h v (List.mem_cons_of_mem _ hv)
  simp only[wtL,List.length_cons,Nat.add_mul,Nat.one_mul] at*
  omega
def lvl:Nat->Nat
 |0=>45
 |k+1=>4+3*lvl k
theorem v0l(k:Nat):45<=lvl k:=by
 induction k with
 |zero=>exact Nat.le_refl _
 |succ k ih=>simp only[lvl];omega
theorem v0m{segs:List ByteArray}:ClE segs fun k e=>DrE segs (lvl k) e:=by
 have leaf: ∀{e:Ex} {x:ByteArray},e.5=[]->x∈nms e->e.1=5/\e.3=x:=fun {e x} h5 hx=>by
  rw[j64,h5] at hx
  exact hx.elim id fun ⟨k,hk,_⟩=>by simp at hk
 refine⟨fun k=>⟨?_,fun x hx=> ?_,EvB.mk' (by simp) (by simp)⟩,fun k b hb=>⟨?_,fun x hx=> ?_,EvB.mk' (by simp) (by simp)⟩,fun k e he h6=>⟨?_,fun x hx=> ?_,EvB.mk' (fun w hw=> ?_) (by rw[he.2.2.2];simp)⟩,fun k e he=>⟨?_,fun x hx=> ?_,EvB.mk' (by simp) (by simpa using he.ev)⟩,fun k op l hop h3 hne he=>⟨?_,fun x hx=> ?_,EvB.mk' (by simp) fun e hm=> ?_⟩⟩
 ·have:=v0l k;simp only[wt,wtV,wtL];omega
 ·have:=(leaf rfl hx).1;simp at this
 ·have:=v0l k;simp only[wt,wtV,wtL];omega
 ·rw[←(leaf rfl hx).2];exact hb
 ·have h1:=v0l k
  have h2:=v82 (l:=e.4) (b:=10) fun v hv=>(he.vals.all v hv).len
  have h3:=he.vals.len
  rw[v81,he.2.2.2]
  simp only[wtL];omega
 ·have:=(leaf he.2.2.2 hx).1;omega
 ·exact⟨Nat.le_trans (he.vals.all w hw).txt (by decide),Nat.le_trans (he.vals.all w hw).len (by decide)⟩
 ·have:=he.wt;simp only[wt,wtV,wtL,lvl];omega
 ·rw[j64] at hx
  rcases hx with hx|⟨k,hk,hx⟩
  ·simp at hx
  ·have:k=e:=by simpa using hk
   rw[this] at hx;exact he.nms x hx
 ·rw[v81]
  have:wtL l<=l.length*(1+lvl k):=v83 fun e hm=>by
   rcases he e hm with h|⟨e',h,rfl⟩
   ·have:=h.wt;omega
   ·have:=h.wt;simp only[wt,wtV,wtL];omega
  have h4:l.length*(1+lvl k)<=3*(1+lvl k):=Nat.mul_le_mul_right _ h3
  simp only[wtV,lvl];omega
 ·rw[j64] at hx
  rcases hx with hx|⟨q,hq,hx⟩
  ·simp only at hx;omega
  ·rcases he q hq with h|⟨e',h,rfl⟩
   ·exact h.nms x hx
   ·rw[j64] at hx
    rcases hx with hx|⟨k,hk,hx⟩
    ·simp at hx
    ·have:k=e':=by simpa using hk
     rw[this] at hx;exact h.nms x hx
 ·rcases he e hm with h|⟨e',h,rfl⟩
  ·exact h.ev
  ·exact EvB.mk' (by simp) (by simpa using h.ev)
theorem w3o{segs:List ByteArray}(hs: ∀s∈segs,s.size<=100):ClE segs fun k e=>ExS (2*k) e:=
 ⟨fun k=>ExS.le (n:=0) ⟨.nil,⟨sz0,sz0⟩,opl (by simp),rfl⟩ (by omega),fun k b hb=>ExS.le (n:=0) ⟨.nil,⟨hs _ hb,sz0⟩,opl (by simp),rfl⟩ (by omega),fun k e he _=>he.le (by omega),fun k e he=>(v3b he sz0 sz0).le (by omega),
  fun k op l hop h3 hne he=>⟨.nil,⟨sz0,sz0⟩,⟨InI.mk (by simp only;omega) (by simp only;omega),fun _ _=>hne⟩,h3,fun e hm=>by
   rcases he e hm with h|⟨e',h,rfl⟩
   ·exact h.up
   ·exact v3b h sz0 sz0⟩⟩
def Byts(l:List Int):Prop:= ∀x∈l,0<=x/\x<256
theorem v3d{l:List Int}{most:Int}{K:List Int->Int->Prop}(hb:Byts l)(h0:0<=most)(h1:most<=1000)(h: ∀r,DS r 0->K r 0):j7q l most K:=by
 unfold j7q
 refine Jn1.mk (fun r=>DS r 0) ?_ h
 refine fun _=>Cnd.mk (fun hc=>⟨by omega,?_⟩) fun hc=>⟨by omega,by omega,by omega,hb⟩
 rw[show List.drop (Int.toNat 0) (List.take most.toNat l)=l.take most.toNat from rfl]
 exact⟨by rw[List.length_take];omega,by omega,by omega,fun x hx=>hb x (List.mem_of_mem_take hx)⟩
end Go.En
end
noncomputable section
set_option maxRecDepth 100000
namespace Go.En
open Go Go.Fl Go.Fl.Lk Go.Fx
theorem w47{α:Type}{l:List α}{p:α->Bool}{i:Nat}{y:α}(hy:l[i]? =some y)(hp:p y=true):(l.drop i).find? p=some y:=by
 have hlt:=Qe hy
 rw[List.drop_eq_getElem_cons hlt,List.find?_cons]
 have e:l[i]=y:=by rw[List.getElem?_eq_getElem hlt] at hy;exact Option.some.inj hy
 rw[e,hp]
theorem w01{α:Type}{l:List α}{p:α->Bool}{i:Nat}{y:α}(hy:l[i]? =some y)(hp:p y=false):(l.drop i).find? p=(l.drop (i+1)).find? p:=by
 have hlt:=Qe hy
 rw[List.drop_eq_getElem_cons hlt,List.find?_cons]
 have e:l[i]=y:=by rw[List.getElem?_eq_getElem hlt] at hy;exact Option.some.inj hy
 rw[e,hp]
theorem srch{α:Type}{l:List α}(p:α->Bool){G:Int->α->(Int->Prop)->Prop}{B:Prop}(hl:l.length<=1000000000)(hB:l.find? p=none->B)
  (hG: ∀(i:Nat) y Y,l[i]? =some y->i<l.length->(p y=true->l.find? p=some y)->(p y=false->InI ((i:Int)+1)/\Y ((i:Int)+1))->G (i:Int) y Y):
  Lp1 (fun x Y=>Cnd (x<(l.length:Int)) ((0<=x/\x<(l.length:Int))/\ ∀y,l[x.toNat]? =some y->G x y Y) B) 0:=by
 refine Lp1.ind (fun i=> ∃j:Nat,i=(j:Int)/\j<=l.length/\l.find? p=(l.drop j).find? p) (fun i=>(l.length - i).toNat) ?_ ⟨0,rfl,by omega,rfl⟩
 rintro i ⟨j,rfl,hj,hf⟩
 refine Cnd.mk (fun hc=>⟨by omega,fun y hy=> ?_⟩) fun hc=> ?_
 ·have hy:l[j]? =some y:=hy
  refine hG j y _ hy (by omega) (fun hp=>by rw[hf,w47 hy hp]) fun hp=>⟨by unfold InI;omega,⟨j+1,by omega,by omega,by rw[hf,w01 hy hp]⟩,by omega⟩
 ·refine hB ?_
  rw[hf,List.drop_eq_nil_of_le (by omega)];rfl
theorem y1a{α:Type}{l:List α}(p:α->Bool){G:Int->α->(Int->Prop)->Prop}{B:Prop}(hl:l.length<=1000000000)(hB:l.find? p=none->B)
  (hG: ∀(i:Nat) y Y,l[i]? =some y->i<l.length->(p y=true->l.find? p=some y)->(p y=false->InI ((i:Int)+1)/\Y ((i:Int)+1))->G (i:Int) y Y):
  Lp1 (fun x Y=>l.length<=(9223372036854775807:Nat)->Cnd (x<(l.length:Int)) ((0<=x/\x<(l.length:Int))/\ ∀y,l[x.toNat]? =some y->G x y Y) B) 0:=by
 refine Lp1.ind (fun i=> ∃j:Nat,i=(j:Int)/\j<=l.length/\l.find? p=(l.drop j).find? p) (fun i=>(l.length - i).toNat) ?_ ⟨0,rfl,by omega,rfl⟩
 rintro i ⟨j,rfl,hj,hf⟩ _
 refine Cnd.mk (fun hc=>⟨by omega,fun y hy=> ?_⟩) fun hc=> ?_
 ·have hy:l[j]? =some y:=hy
  refine hG j y _ hy (by omega) (fun hp=>by rw[hf,w47 hy hp]) fun hp=>⟨by unfold InI;omega,⟨j+1,by omega,by omega,by rw[hf,w01 hy hp]⟩,by omega⟩
 ·refine hB ?_
  rw[hf,List.drop_eq_nil_of_le (by omega)];rfl
def xof(v:Envt)(key:ByteArray):Option Exper:=v.6.find? fun x=>decide (x.1=key)
def insV(l:List Spn)(b:Int):Bool:=(l.find? fun r=>decide (r.1<=b) && decide (b<r.2)).isSome
def lof(v:Envt)(key:ByteArray):Option Lay_:=v.5.find? fun l=>decide (l.1=key)
theorem dt{p:Prop}[Decidable p](h:p):decide p=true:=decide_eq_true h
theorem df{p:Prop}[Decidable p](h: ¬p):decide p=false:=decide_eq_false h
end Go.En
end
noncomputable section
set_option maxRecDepth 100000
namespace Go.En
open Go Go.Fl Go.Fl.Lk Go.Fx
theorem V2{s:ByteArray}{K:Bool->Prop}(h: ∀r,K r):Gm s K:=by
 unfold Gm z9a
 refine Cnd.mk (fun _=>h _) fun hs=>⟨by omega,Cnd.mk (fun _=> ?_) fun _=>h _⟩
 refine Lp1.ind (fun (i:Int)=>0<=i/\i<=s.size) (fun (i:Int)=>(s.size - i).toNat) ?_ ⟨by omega,by omega⟩
 rintro i ⟨i0,i1⟩
 (repeat' (first|exact h _|assumption|(unfold InI;omega)|omega|refine Cnd.mk (fun _=> ?_) fun _=> ?_|refine⟨?_,?_⟩|intro _))
theorem j5z{K:List ByteArray->Prop}(h: ∀l:List ByteArray,l.length<=100->K l):q45 K:=by
 unfold q45
 exact h _ (by decide)
theorem Z8{s:ByteArray}{K:Bool->Prop}(hs:s.size<=1000)(h: ∀r,K r):Gu s K:=by
 unfold Gu j7y
 refine w6t hs fun r=>Cnd.mk (fun _=>Cnd.mk (fun _=>h _) fun _=>j5z fun l hl=> ?_) fun _=>h _
 refine Lp1.ind (fun (i:Int)=>0<=i/\i<=l.length) (fun (i:Int)=>(l.length - i).toNat) ?_ ⟨by omega,by omega⟩
 rintro i ⟨i0,i1⟩
 (repeat' (first|exact h _|assumption|(unfold InI;omega)|omega|refine Cnd.mk (fun _=> ?_) fun _=> ?_|refine⟨?_,?_⟩|intro _))
theorem z5n{s:Sett}{K:Int->Prop}(hs:s.holdoutKind.size<=1000)(h: ∀r,K r):q46 s K:=by
 unfold q46 z0g
 (repeat' (first|exact h _|refine V2 fun _=> ?_|refine Z8 hs fun _=> ?_|assumption|(unfold InI;omega)|omega|refine Cnd.mk (fun _=> ?_) fun _=> ?_|refine⟨?_,?_⟩|intro _))
theorem z5o{l:List Decl}{K:Int->Prop}(hl: ∀d∈l,d.kind.size<=1000/\d.name.size<=1000)(h: ∀r,K r):q47 l K:=by
 unfold q47 z0h
 refine fun _=>Cnd.mk (fun _=>h _) fun _=> ?_
 refine Lp1.ind (fun (i:Int)=>0<=i/\i<=l.length) (fun (i:Int)=>(l.length - i).toNat) ?_ ⟨by omega,by omega⟩
 rintro i ⟨i0,i1⟩ _
 refine Cnd.mk (fun hc=>⟨by omega,fun y hy=>Z8 (hl y (getm hy)).1 fun _=>Cnd.mk (fun _=>⟨by omega,fun y hy=>Z8 (hl y (getm hy)).2 fun _=> ?_⟩) fun _=>h _⟩) fun _=>h _
 (repeat' (first|exact h _|assumption|(unfold InI;omega)|omega|refine Cnd.mk (fun _=> ?_) fun _=> ?_|refine⟨?_,?_⟩|intro _))
theorem q5h{l:List ByteArray}{K:Int->Prop}(h: ∀r,K r):q32 l K:=by
 unfold q32 z2k
 refine fun _=>Cnd.mk (fun _=>h _) fun _=> ?_
 refine Lp1.ind (fun (i:Int)=>0<=i/\i<=l.length) (fun (i:Int)=>(l.length - i).toNat) ?_ ⟨by omega,by omega⟩
 rintro i ⟨i0,i1⟩
 (repeat' (first|exact h _|refine V2 fun _=> ?_|assumption|(unfold InI;omega)|omega|refine Cnd.mk (fun _=> ?_) fun _=> ?_|refine⟨?_,?_⟩|intro _))
theorem w6w{l:List ByteArray}{K:Int->Prop}(h: ∀r,K r):z7k l K:=by
 unfold z7k j3h
 refine fun _=>Cnd.mk (fun _=>h _) fun _=> ?_
 refine Lp1.ind (fun (i:Int)=>0<=i/\i<=l.length) (fun (i:Int)=>(l.length - i).toNat) ?_ ⟨by omega,by omega⟩
 rintro i ⟨i0,i1⟩ _
 refine Cnd.mk (fun hc=>⟨by omega,fun y hy=>V2 fun _=>Cnd.mk (fun _=>⟨by unfold InI;omega,⟨by omega,by omega⟩,by omega⟩) fun _=>h _⟩) fun _=> ?_
 refine Lp1.ind (fun (i:Int)=>1<=i/\i<=l.length+1) (fun (i:Int)=>(l.length+1 - i).toNat) ?_ ⟨by omega,by omega⟩
 rintro i ⟨i0,i1⟩
 (repeat' (first|exact h _|assumption|(unfold InI;omega)|omega|refine Cnd.mk (fun _=> ?_) fun _=> ?_|refine⟨?_,?_⟩|intro _))
theorem w3p{s:ByteArray}{K:A3->Bool->Prop}(hs:s.size<=1000)(h: ∀a r,K a r):z4a s K:=by
 unfold z4a z9b
 refine LpH.ind (fun x=>0<=x.1/\0<=x.2.1/\x.2.1<=3/\(x.2.1<3->x.1<=(s.size:Int))) (fun x=>(3 - x.2.1).toNat) ?_ ⟨by simp,by simp,by simp,by simp⟩
 rintro⟨a,i,x⟩ ⟨a0,i0,i1,a1⟩
 simp only at a0 a1 i0 i1⊢
 refine Cnd.mk (fun hc=> ?_) fun _=>h _ _
 have a1:=a1 hc
 have sz: ∀j:Int,(s.extract a.toNat j.toNat).size<=1000:=fun j=>by rw[ByteArray.size_extract];omega
 refine Lp1.ind (fun (j:Int)=>a<=j/\j<=s.size) (fun (j:Int)=>(s.size - j).toNat) ?_ ⟨by omega,by omega⟩
 rintro j ⟨j0,j1⟩
 (repeat' (first|exact h _ _|exact trivial|refine j0d (sz _) fun _ _ _ _ _=> ?_|(intro _;simp only[decide_eq_decide] at*;omega)|assumption|(unfold InI;omega)|omega|refine Cnd.mk (fun _=> ?_) fun _=> ?_|refine⟨?_,?_⟩|intro _))
theorem z09{v:Val}{K:Int->Prop}(hv:v.text.size<=1000)(h: ∀r,K r):q9g v K:=by
 unfold q9g z9c
 (repeat' (first|exact h _|refine w3k fun _=> ?_|refine V2 fun _=> ?_|refine w3p hv fun _ _=> ?_|refine w6w fun _=> ?_|assumption|(unfold InI;omega)|omega|refine Cnd.mk (fun _=> ?_) fun _=> ?_|refine⟨?_,?_⟩|intro _))
theorem w6x{n:Nat}{e:Ex}{K:Int->Prop}(he:ExS n e)(h: ∀r,K r):q33 e K:=by
 unfold q33 z7m
 have hv: ∀v∈e.values,v.text.size<=1000:=fun v hv=>by have:=(he.vals.all v hv).txt;omega
 have hn:=he.nm
 have hk:=he.kd
 rw[Ju]
 refine Cnd.mk (fun _=>h _) fun _=>Cnd.mk (fun _=>h _) fun _=>j00 fun r hr=>Cnd.mk (fun hc=> ?_) fun _=>h _
 have hne:=hr hc
 have z:e.op=9∨e.op=10∨e.op=11->(0:Int)<(e.values.length:Int):=fun ho=>by
  have:=List.length_pos_iff.2 (hne (by omega) (by omega));omega
 (repeat' (first|exact h _|refine q0k fun _ _=> ?_|refine Z8 (by omega) fun _=> ?_|(refine z09 (hv _ (getm (by assumption))) fun _=> ?_)|(refine Lp1.ind (fun (i:Int)=>0<=i/\i<=e.kids.length+e.values.length) (fun (i:Int)=>(e.kids.length+e.values.length - i).toNat) (fun i hi=> ?_) ⟨by omega,by omega⟩)|assumption|(unfold InI;omega)|omega|refine Cnd.mk (fun _=> ?_) fun _=> ?_|refine⟨?_,?_⟩|intro _))
theorem w6y: ∀(n:Nat) {e:Ex} {d m:Int} {K:Int->Int->Prop},ExS n e->0<=d->d<=11->0<=m->(∀r m,0<=m->K r m)->z2m e d m K:=by
 intro n e d m K he d0 d1 m0 h X hX
 induction n using Nat.strongRecOn generalizing e d m K with
 |_ n ih=>
 refine hX _ _ _ _ ?_
 unfold z7n
 rw[Ju]
 refine Cnd.mk (fun _=>h _ _ m0) fun _=>⟨by unfold InI;omega,Cnd.mk (fun _=>h _ _ (by omega)) fun _=>w6x he fun _=>Cnd.mk (fun _=> ?_) fun _=>h _ _ (by omega)⟩
 refine Lp2.ind (fun (i m:Int)=>0<=i/\i<=e.kids.length/\0<=m) (fun (i _:Int)=>(e.kids.length - i).toNat) ?_ ⟨by omega,by omega,by omega⟩
 rintro i m ⟨i0,i1,m0⟩ _
 refine Cnd.mk (fun hc=>⟨by omega,fun y hy=>⟨by unfold InI;omega,?_⟩⟩) fun _=>h _ _ m0
 obtain⟨q,hq,hk⟩:=he.kid (getm hy)
 rw[Ju]
 exact ih q (by omega) hk (by omega) (by omega) m0 fun r m m0=>Cnd.mk (fun _=>⟨by unfold InI;omega,⟨by omega,by omega,m0⟩,by omega⟩) fun _=>h _ _ m0
theorem j0f{n:Nat}{e:Ex}{K:Int->Prop}(he:ExS n e)(h: ∀r,K r):q34 e K:=by
 unfold q34 z7o
 rw[Ju]
 exact w6y n he (by decide) (by decide) (by decide) fun r _ _=>h r
theorem j8m{g:Seg}{K:Int->Prop}(hg:SegS g)(h: ∀r,K r):q0c g K:=by
 unfold q0c q7q
 have h1:=hg.key
 have h2:=hg.kind
 rw[Ju]
 (repeat' (first|exact h _|refine Z8 (by omega) fun _=> ?_|refine q5h fun _=> ?_|refine j63 fun _=> ?_|refine j0f hg.cond fun _=> ?_|assumption|(unfold InI;omega)|omega|refine Cnd.mk (fun _=> ?_) fun _=> ?_|refine⟨?_,?_⟩|intro _))
theorem j50{l:List Seg}{K:Int->Prop}(hl: ∀g∈l,SegS g)(h: ∀r,K r):H4 l K:=by
 unfold H4 q48
 refine fun _=>Cnd.mk (fun _=>h _) fun _=> ?_
 refine Lp1.ind (fun (i:Int)=>0<=i/\i<=l.length) (fun (i:Int)=>(l.length - i).toNat) ?_ ⟨by omega,by omega⟩
 rintro i ⟨i0,i1⟩ _
 refine Cnd.mk (fun hc=>⟨by omega,fun y hy=> ?_⟩) fun _=>h _
 dsimp only;rw[Ju]
 refine j8m (hl y (getm hy)) fun _=> ?_
 (repeat' (first|exact h _|assumption|(unfold InI;omega)|omega|refine Cnd.mk (fun _=> ?_) fun _=> ?_|refine⟨?_,?_⟩|intro _))
theorem j1u{f:Flg}{K:Int->Prop}(hf: ∀v∈f.variations,ValS v)(h: ∀r,K r):Ud f K:=by
 unfold Ud q02
 have hv: ∀v∈f.variations,v.text.size<=1000:=fun v hv=>by have:=(hf v hv).txt;omega
 (repeat' (first|exact h _|(refine z09 (hv _ (getm (by assumption))) fun _=> ?_)|(refine Lp1.ind (fun (i:Int)=>0<=i/\i<=f.variations.length) (fun (i:Int)=>(f.variations.length - i).toNat) (fun i hi=> ?_) ⟨by omega,by omega⟩)|assumption|(unfold InI;omega)|omega|refine Cnd.mk (fun _=> ?_) fun _=> ?_|refine⟨?_,?_⟩|intro _))
theorem z6s{l:List Prq}{K:Int->Prop}(hl: ∀q∈l,q.flag.size<=100)(h: ∀r,K r):Wd l K:=by
 unfold Wd Gv
 refine fun _=>Cnd.mk (fun _=>h _) fun _=> ?_
 refine Lp1.ind (fun (i:Int)=>0<=i/\i<=l.length) (fun (i:Int)=>(l.length - i).toNat) ?_ ⟨by omega,by omega⟩
 rintro i ⟨i0,i1⟩ _
 refine Cnd.mk (fun hc=>⟨by omega,fun y hy=>Z8 (by have:=hl y (getm hy);omega) fun _=> ?_⟩) fun _=>h _
 (repeat' (first|exact h _|assumption|(unfold InI;omega)|omega|refine Cnd.mk (fun _=> ?_) fun _=> ?_|refine⟨?_,?_⟩|intro _))
theorem j8n{l:List Tgt}{n:Int}{K:Int->Prop}(hl: ∀t∈l,t.kind.size<=100)(h: ∀r,K r):q0d l n K:=by
 unfold q0d q7r
 refine fun _=>Cnd.mk (fun _=>h _) fun _=> ?_
 refine Lp1.ind (fun (i:Int)=>0<=i/\i<=l.length) (fun (i:Int)=>(l.length - i).toNat) ?_ ⟨by omega,by omega⟩
 rintro i ⟨i0,i1⟩ _
 refine Cnd.mk (fun hc=>⟨by omega,fun y hy=>Z8 (by have:=hl y (getm hy);omega) fun _=> ?_⟩) fun _=>h _
 (repeat' (first|exact h _|refine q5h fun _=> ?_|assumption|(unfold InI;omega)|omega|refine Cnd.mk (fun _=> ?_) fun _=> ?_|refine⟨?_,?_⟩|intro _))
theorem j4z{m n:Int}{s:Srv}{K:Int->Prop}(hs:SrvS m s)(h: ∀r,K r):q2r s n K:=by
 unfold q2r z4b
 have h1:=hs.kind
 have h2:=hs.by_
 (repeat' (first|exact h _|refine Z8 (by omega) fun _=> ?_|refine V2 fun _=> ?_|refine z07 fun _ _ _=> ?_|assumption|(unfold InI;omega)|omega|refine Cnd.mk (fun _=> ?_) fun _=> ?_|refine⟨?_,?_⟩|intro _))
theorem w3q{m n:Int}{l:List Rul}{K:Int->Prop}(hl: ∀r∈l,RulS m r)(h: ∀r,K r):q5r l n K:=by
 unfold q5r z4c
 refine fun _=>Cnd.mk (fun _=>h _) fun _=> ?_
 refine Lp1.ind (fun (i:Int)=>0<=i/\i<=l.length) (fun (i:Int)=>(l.length - i).toNat) ?_ ⟨by omega,by omega⟩
 rintro i ⟨i0,i1⟩ _
 refine Cnd.mk (fun hc=>⟨by omega,fun y hy=>Z8 (by have:=(hl y (getm hy)).name;omega) fun _=>Cnd.mk (fun _=> ?_) fun _=>h _⟩) fun _=>h _
 refine Lp1.ind (fun (j:Int)=>0<=j/\j<=i) (fun (j:Int)=>(i - j).toNat) ?_ ⟨by omega,by omega⟩
 rintro j ⟨j0,j1⟩
 refine Cnd.mk (fun hc=>⟨by omega,fun y hy=>⟨by omega,fun z hz=>Cnd.mk (fun _=>h _) fun _=>⟨by unfold InI;omega,⟨by omega,by omega⟩,by omega⟩⟩⟩) fun _=>⟨by omega,fun y hy=> ?_⟩
 dsimp only;rw[Ju]
 refine j0f (hl y (getm hy)).cond fun _=>Cnd.mk (fun _=>⟨by omega,fun z hz=>j4z (hl z (getm hz)).serve fun _=> ?_⟩) fun _=>h _
 (repeat' (first|exact h _|assumption|(unfold InI;omega)|omega|refine Cnd.mk (fun _=> ?_) fun _=> ?_|refine⟨?_,?_⟩|intro _))
theorem w6z{f:Flg}{K:Int->Prop}(hf:FlgS f)(h: ∀r,K r):q9j f K:=by
 unfold q9j z7p
 have h1:=hf.key
 (repeat' (first|exact h _|refine Z8 (by omega) fun _=> ?_|refine j1u hf.vals fun _=> ?_|refine z6s hf.needs fun _=> ?_|refine j8n hf.tgts fun _=> ?_|refine w3q hf.rules fun _=> ?_|refine j4z hf.dflt fun _=> ?_|assumption|(unfold InI;omega)|omega|refine Cnd.mk (fun _=> ?_) fun _=> ?_|refine⟨?_,?_⟩|intro _))
theorem w3r{l:List Flg}{K:Int->Prop}(hl: ∀f∈l,FlgS f)(h: ∀r,K r):q5s l K:=by
 unfold q5s z4d
 refine fun _=>Cnd.mk (fun _=>h _) fun _=> ?_
 refine Lp1.ind (fun (i:Int)=>0<=i/\i<=l.length) (fun (i:Int)=>(l.length - i).toNat) ?_ ⟨by omega,by omega⟩
 rintro i ⟨i0,i1⟩ _
 refine Cnd.mk (fun hc=>⟨by omega,fun y hy=>w6z (hl y (getm hy)) fun _=> ?_⟩) fun _=>h _
 (repeat' (first|exact h _|assumption|(unfold InI;omega)|omega|refine Cnd.mk (fun _=> ?_) fun _=> ?_|refine⟨?_,?_⟩|intro _))
theorem w3s{l:Lay_}{K:Int->Prop}(hl:LayS l)(h: ∀r,K r):q5t l K:=by
 unfold q5t z4e
 have h1:=hl.key
 have h2:=hl.kind
 (repeat' (first|exact h _|refine Z8 (by omega) fun _=> ?_|refine V2 fun _=> ?_|(refine Lp1.ind (fun (i:Int)=>0<=i/\i<=l.cooling.length) (fun (i:Int)=>(l.cooling.length - i).toNat) (fun i hi=> ?_) ⟨by omega,by omega⟩)|assumption|(unfold InI;omega)|omega|refine Cnd.mk (fun _=> ?_) fun _=> ?_|refine⟨?_,?_⟩|intro _))
theorem w02{l:List Lay_}{K:Int->Prop}(hl: ∀f∈l,LayS f)(h: ∀r,K r):q2s l K:=by
 unfold q2s z0j
 refine fun _=>Cnd.mk (fun _=>h _) fun _=> ?_
 refine Lp1.ind (fun (i:Int)=>0<=i/\i<=l.length) (fun (i:Int)=>(l.length - i).toNat) ?_ ⟨by omega,by omega⟩
 rintro i ⟨i0,i1⟩ _
 refine Cnd.mk (fun hc=>⟨by omega,fun y hy=>w3s (hl y (getm hy)) fun _=> ?_⟩) fun _=>h _
 (repeat' (first|exact h _|assumption|(unfold InI;omega)|omega|refine Cnd.mk (fun _=> ?_) fun _=> ?_|refine⟨?_,?_⟩|intro _))
theorem j1v{x:Exper}{K:Int->Prop}(hx:ExpS x)(h: ∀r,K r):Ue x K:=by
 unfold Ue q03
 have h1:=hx.key
 have h2:=hx.layer
 have h3:=hx.flag
 rw[Ju]
 (repeat' (first|exact h _|refine Z8 (by omega) fun _=> ?_|refine V2 fun _=> ?_|refine j4v fun _ _ _=> ?_|refine z07 fun _ _ _=> ?_|refine j0f hx.cond fun _=> ?_|assumption|(unfold InI;omega)|omega|refine Cnd.mk (fun _=> ?_) fun _=> ?_|refine⟨?_,?_⟩|intro _))
theorem j0g{l:List Exper}{K:Int->Prop}(hl: ∀f∈l,ExpS f)(h: ∀r,K r):Vd l K:=by
 unfold Vd Be
 refine fun _=>Cnd.mk (fun _=>h _) fun _=> ?_
 refine Lp1.ind (fun (i:Int)=>0<=i/\i<=l.length) (fun (i:Int)=>(l.length - i).toNat) ?_ ⟨by omega,by omega⟩
 rintro i ⟨i0,i1⟩ _
 refine Cnd.mk (fun hc=>⟨by omega,fun y hy=> ?_⟩) fun _=>h _
 dsimp only;rw[Ju]
 refine j1v (hl y (getm hy)) fun _=> ?_
 (repeat' (first|exact h _|assumption|(unfold InI;omega)|omega|refine Cnd.mk (fun _=> ?_) fun _=> ?_|refine⟨?_,?_⟩|intro _))
theorem j0h{v:Envt}{K:Int->Prop}(hv:EnvS v)(h: ∀r,K r):Wo v K:=by
 unfold Wo Bf
 refine z5n (show v.settings.holdoutKind.size<=1000 by have:=hv.hkind;omega) fun _=>Cnd.mk (fun _=>z5o (fun d hd=>by have:=hv.attrs d hd;omega) fun _=> ?_) fun _=>h _
 (repeat' (first|exact h _|refine j50 hv.segs fun _=> ?_|refine w3r hv.flags fun _=> ?_|refine w02 hv.layers fun _=> ?_|refine j0g hv.exps fun _=> ?_|assumption|(unfold InI;omega)|omega|refine Cnd.mk (fun _=> ?_) fun _=> ?_|refine⟨?_,?_⟩|intro _))
end Go.En
end
noncomputable section
set_option maxRecDepth 100000
namespace Go.Dg
open Go.Fl
abbrev Nd:=Int×Int×Int
def nd(ns:List Nd)(id:Int):Nd:=ns.getD id.toNat (0,0,0)
def top(ns:List Nd)(id:Int):Int:=if id<0 then 1001 else (nd ns id).1
def Ok(ns:List Nd)(id:Int):Prop:= -1002<id/\id<ns.length
def evF(ns:List Nd)(h:Int->Bool):Nat->Int->Int
 |0,id=> -1 - id
 |n+1,id=>if id<0 then -1 - id else evF ns h n (if h (nd ns id).1=true then (nd ns id).2.1 else (nd ns id).2.2)
def ev(ns:List Nd)(h:Int->Bool)(id:Int):Int:=evF ns h (id.toNat+1) id
structure Nod(ns:List Nd):Prop where
 nod: ∀i:Int,0<=i->i<ns.length->0<=(nd ns i).1/\(nd ns i).1<=1000/\ -1002<(nd ns i).2.1/\(nd ns i).2.1<i/\ -1002<(nd ns i).2.2/\(nd ns i).2.2<i/\
  (nd ns i).2.1≠(nd ns i).2.2/\(nd ns i).1<top ns (nd ns i).2.1/\(nd ns i).1<top ns (nd ns i).2.2
 one: ∀i j:Int,0<=i->i<ns.length->0<=j->j<ns.length->nd ns i=nd ns j->i=j
structure Inv(ns:List Nd)(ids:Nd->Option Int):Prop where
 nod:Nod ns
 ids: ∀n (id:Int),ids n=some id↔0<=id/\id<ns.length/\nd ns id=n
theorem q1v{ns:List Nd}{h:Int->Bool}{id:Int}(hi:id<0):ev ns h id= -1 - id:=by
 simp[ev,evF,hi]
theorem w48{ns:List Nd}(hN:Nod ns){h:Int->Bool}: ∀(n m:Nat) (id:Int),id<ns.length->id<n->id<m->evF ns h n id=evF ns h m id:=by
 intro n
 induction n with
 |zero=>
  intro m id _ h1 _
  have:id<0:=by omega
  cases m with
  |zero=>rfl
  |succ m=>simp[evF,this]
 |succ n ih=>
  intro m id hl h1 h2
  cases m with
  |zero=>
   have:id<0:=by omega
   simp[evF,this]
  |succ m=>
   simp only[evF]
   by_cases hi:id<0
   ·simp[hi]
   ·simp only[hi,if_false]
    obtain⟨_,_,_,a,_,b,_⟩:=hN.nod id (by omega) hl
    cases ht:h (nd ns id).1 with
    |true=>simp only[if_true];exact ih m _ (by omega) (by omega) (by omega)
    |false=>simp only[Bool.false_eq_true,if_false];exact ih m _ (by omega) (by omega) (by omega)
theorem q7f{ns:List Nd}(hN:Nod ns){h:Int->Bool}{id:Int}(hi:0<=id)(hl:id<ns.length):
  ev ns h id=if h (nd ns id).1=true then ev ns h (nd ns id).2.1 else ev ns h (nd ns id).2.2:=by
 obtain⟨_,_,_,a,_,b,_⟩:=hN.nod id hi hl
 have hn: ¬id<0:=by omega
 show evF ns h (id.toNat+1) id=_
 simp only[evF,hn,if_false]
 cases ht:h (nd ns id).1 with
 |true=>simp only[if_true];exact w48 hN _ _ _ (by omega) (by omega) (by omega)
 |false=>simp only[Bool.false_eq_true,if_false];exact w48 hN _ _ _ (by omega) (by omega) (by omega)
theorem j65{ns:List Nd}(hN:Nod ns){id:Int}(hl:id<ns.length):0<=top ns id/\top ns id<=1001/\(0<=id->top ns id<=1000):=by
 by_cases hi:id<0
 ·simp only[top,hi,if_true];omega
 ·obtain⟨a,b,_⟩:=hN.nod id (by omega) hl
  simp only[top,hi,if_false];omega
theorem ind{ns:List Nd}(hN:Nod ns){p:Int->Prop}(h0: ∀id:Int, -1002<id->id<0->p id)
  (h1: ∀id:Int,0<=id->id<ns.length->p (nd ns id).2.1->p (nd ns id).2.2->p id){id:Int}(hi:Ok ns id):p id:=by
 have key: ∀(k:Nat) (id:Int),id<k->Ok ns id->p id:=by
  intro k
  induction k with
  |zero=>exact fun id hk hi=>h0 id hi.1 hk
  |succ k ih=>
   intro id hk hi
   by_cases hn:id<0
   ·exact h0 id hi.1 hn
   ·obtain⟨_,_,a,b,c,d,_⟩:=hN.nod id (by omega) hi.2
    have:=hi.2
    exact h1 id (by omega) hi.2 (ih _ (by omega) ⟨a,by omega⟩) (ih _ (by omega) ⟨c,by omega⟩)
 exact key (id.toNat+1) id (by omega) hi
theorem v84{ns:List Nd}(hN:Nod ns){h h':Int->Bool}{id:Int}(hi:Ok ns id):(∀t,top ns id<=t->h t=h' t)->ev ns h id=ev ns h' id:=by
 refine ind hN (p:=fun id=>(∀t,top ns id<=t->h t=h' t)->ev ns h id=ev ns h' id) ?_ ?_ hi
 ·intro id _ hn _
  rw[q1v hn,q1v hn]
 ·intro id hp hl ih1 ih2 he
  obtain⟨_,_,_,_,_,_,_,a,b⟩:=hN.nod id hp hl
  have ht:top ns id=(nd ns id).1:=by simp only[top,if_neg (show ¬id<0 by omega)]
  rw[q7f hN hp hl,q7f hN hp hl,←he _ (by omega),ih1 fun t h=>he t (by omega),ih2 fun t h=>he t (by omega)]
def setB(h:Int->Bool)(t:Int)(b:Bool):Int->Bool:=fun x=>if x=t then b else h x
theorem j66{ns:List Nd}(hN:Nod ns){h:Int->Bool}{t:Int}{b:Bool}{id:Int}(hi:Ok ns id)(ht:t<top ns id):ev ns (setB h t b) id=ev ns h id:=
 v84 hN hi fun x hx=>by simp only[setB,if_neg (show ¬x=t by omega)]
theorem w49{ns:List Nd}(hN:Nod ns){h:Int->Bool}{id:Int}(hi:0<=id)(hl:id<ns.length):ev ns (setB h (nd ns id).1 true) id=ev ns h (nd ns id).2.1:=by
 obtain⟨_,_,c,d,_,_,_,a,b⟩:=hN.nod id hi hl
 rw[q7f hN hi hl]
 simp only[setB,if_true]
 exact j66 hN ⟨c,by omega⟩ a
theorem v3e{ns:List Nd}(hN:Nod ns){h:Int->Bool}{id:Int}(hi:0<=id)(hl:id<ns.length):ev ns (setB h (nd ns id).1 false) id=ev ns h (nd ns id).2.2:=by
 obtain⟨_,_,_,_,c,d,_,a,b⟩:=hN.nod id hi hl
 rw[q7f hN hi hl]
 simp only[setB,if_true]
 exact j66 hN ⟨c,by omega⟩ b
theorem canon{ns:List Nd}(hN:Nod ns): ∀{a b:Int},Ok ns a->Ok ns b->(∀h,ev ns h a=ev ns h b)->a=b:=by
 have key: ∀(k:Nat) (a b:Int),a<k->b<k->Ok ns a->Ok ns b->(∀h,ev ns h a=ev ns h b)->a=b:=by
  intro k
  induction k with
  |zero=>
   intro a b hk hk' _ _ he
   have:=he fun _=>true
   rw[q1v (by omega),q1v (by omega)] at this
   omega
  |succ k ih=>
   intro a b hk hk' ha hb he
   have up: ∀a b:Int,a<((k+1:Nat):Int)->b<((k+1:Nat):Int)->Ok ns a->Ok ns b->(∀h,ev ns h a=ev ns h b)->0<=a->top ns a<top ns b->False:=by
    intro a b hk hk' ha hb he hp ht
    obtain⟨_,_,c1,c2,c3,c4,ne,a1,a2⟩:=hN.nod a hp ha.2
    have h1:=ha.2
    have e:top ns a=(nd ns a).1:=by simp only[top,if_neg (show ¬a<0 by omega)]
    refine ne (ih _ _ (by omega) (by omega) ⟨c1,by omega⟩ ⟨c3,by omega⟩ fun h=> ?_)
    rw[←w49 hN hp ha.2,←v3e hN hp ha.2,he,he,j66 hN hb (by omega),j66 hN hb (by omega)]
   by_cases ha0:a<0
   ·by_cases hb0:b<0
    ·have:=he fun _=>true
     rw[q1v ha0,q1v hb0] at this
     omega
    ·exact absurd (by
      have:=(j65 hN hb.2).2.2 (by omega)
      have h2:top ns a=1001:=by simp only[top,if_pos ha0]
      omega) (fun h=>up b a hk' hk hb ha (fun h=>(he h).symm) (by omega) h)
   ·by_cases hb0:b<0
    ·exact absurd (by
      have:=(j65 hN ha.2).2.2 (by omega)
      have h2:top ns b=1001:=by simp only[top,if_pos hb0]
      omega) (fun h=>up a b hk hk' ha hb he (by omega) h)
    ·have h1:=ha.2
     have h2:=hb.2
     rcases Int.lt_trichotomy (top ns a) (top ns b) with h|h|h
     ·exact (up a b hk hk' ha hb he (by omega) h).elim
     ·have ea:top ns a=(nd ns a).1:=by simp only[top,if_neg ha0]
      have eb:top ns b=(nd ns b).1:=by simp only[top,if_neg hb0]
      have et:(nd ns a).1=(nd ns b).1:=by omega
      obtain⟨_,_,c1,c2,c3,c4,_⟩:=hN.nod a (by omega) ha.2
      obtain⟨_,_,d1,d2,d3,d4,_⟩:=hN.nod b (by omega) hb.2
      have ey:(nd ns a).2.1=(nd ns b).2.1:=ih _ _ (by omega) (by omega) ⟨c1,by omega⟩ ⟨d1,by omega⟩ fun h=>by
       rw[←w49 hN (by omega) ha.2,←w49 hN (by omega) hb.2,←et,he]
      have en:(nd ns a).2.2=(nd ns b).2.2:=ih _ _ (by omega) (by omega) ⟨c3,by omega⟩ ⟨d3,by omega⟩ fun h=>by
       rw[←v3e hN (by omega) ha.2,←v3e hN (by omega) hb.2,←et,he]
      exact hN.one a b (by omega) ha.2 (by omega) hb.2 (Prod.ext et (Prod.ext ey en))
     ·exact (up b a hk' hk hb ha (fun h=>(he h).symm) (by omega) h).elim
 exact fun {a b} ha hb he=>key (ns.length+1) a b (by have:=ha.2;omega) (by have:=hb.2;omega) ha hb he
theorem v85{ns ms:List Nd}{id:Int}(h1:id<ns.length)(h0:0<=id):nd (ns++ms) id=nd ns id:=by
 simp only[nd,List.getD_eq_getElem?_getD]
 rw[List.getElem?_append_left (by omega)]
theorem z3m{ns ns':List Nd}(hp:ns<+:ns'){id:Int}(h1:id<ns.length)(h0:0<=id):nd ns' id=nd ns id:=by
 obtain⟨ms,rfl⟩:=hp
 exact v85 h1 h0
theorem z1a{ns ns':List Nd}(hp:ns<+:ns'){id:Int}(h1:id<ns.length):top ns' id=top ns id:=by
 by_cases h:id<0
 ·simp only[top,if_pos h]
 ·simp only[top,if_neg h,z3m hp h1 (by omega)]
theorem Ok.pre{ns ns':List Nd}(hp:ns<+:ns'){id:Int}(h:Ok ns id):Ok ns' id:=by
 have:=hp.length_le
 exact⟨h.1,by have:=h.2;omega⟩
theorem q4c{ns ns':List Nd}(hN:Nod ns)(hN':Nod ns')(hp:ns<+:ns'){h:Int->Bool}{id:Int}(hi:Ok ns id):ev ns' h id=ev ns h id:=by
 refine ind hN (p:=fun id=>ev ns' h id=ev ns h id) ?_ ?_ hi
 ·intro id _ hn
  rw[q1v hn,q1v hn]
 ·intro id h0 hl i1 i2
  have hl':=hp.length_le
  rw[q7f hN h0 hl,q7f hN' h0 (by omega),z3m hp hl h0,i1,i2]
def Tb(ns:List Nd)(b:Int):Prop:= ∀i:Int,0<=i->i<ns.length->(nd ns i).1<b
theorem z3n{ns:List Nd}{n:Nd}:nd (ns++[n]) ns.length=n:=by
 simp[nd,List.getD_eq_getElem?_getD]
theorem Nod.add{ns:List Nd}(hN:Nod ns){t y n:Int}(ht:0<=t)(ht':t<=1000)(hy:Ok ns y)(hn:Ok ns n)(hne:y≠n)(h1:t<top ns y)(h2:t<top ns n)
  (hnew: ∀i:Int,0<=i->i<ns.length->nd ns i≠(t,y,n)):Nod (ns++[(t,y,n)]):=by
 have hp:ns<+:ns++[(t,y,n)]:=List.prefix_append _ _
 have hlen:((ns++[(t,y,n)]).length:Int)=ns.length+1:=by simp
 refine⟨fun i h0 hl=> ?_,fun i j h0 hl k0 kl he=> ?_⟩
 ·by_cases hi:i<ns.length
  ·rw[z3m hp hi h0]
   obtain⟨a1,a2,a3,a4,a5,a6,a7,a8,a9⟩:=hN.nod i h0 hi
   rw[z1a hp (by omega),z1a hp (by omega)]
   exact⟨a1,a2,a3,a4,a5,a6,a7,a8,a9⟩
  ·have:i=ns.length:=by omega
   subst this
   rw[z3n]
   have hy2:=hy.2
   have hn2:=hn.2
   rw[z1a hp hy2,z1a hp hn2]
   exact⟨ht,ht',hy.1,hy2,hn.1,hn2,hne,h1,h2⟩
 ·by_cases hi:i<ns.length
  ·by_cases hj:j<ns.length
   ·rw[z3m hp hi h0,z3m hp hj k0] at he
    exact hN.one i j h0 hi k0 hj he
   ·have:j=ns.length:=by omega
    subst this
    rw[z3n,z3m hp hi h0] at he
    exact absurd he (hnew i h0 hi)
  ·have:i=ns.length:=by omega
   subst this
   by_cases hj:j<ns.length
   ·rw[z3n,z3m hp hj k0] at he
    exact absurd he.symm (hnew j k0 hj)
   ·omega
theorem Inv.add{ns:List Nd}{ids:Nd->Option Int}(hI:Inv ns ids){t y n:Int}(ht:0<=t)(ht':t<=1000)(hy:Ok ns y)(hn:Ok ns n)(hne:y≠n)(h1:t<top ns y)(h2:t<top ns n)
  (hnew:ids (t,y,n)=none):Inv (ns++[(t,y,n)]) (put ids (t,y,n) ns.length):=by
 have hnew': ∀i:Int,0<=i->i<ns.length->nd ns i≠(t,y,n):=fun i h0 hl he=>by
  rw[(hI.ids _ i).2 ⟨h0,hl,he⟩] at hnew
  cases hnew
 have hp:ns<+:ns++[(t,y,n)]:=List.prefix_append _ _
 have hlen:((ns++[(t,y,n)]).length:Int)=ns.length+1:=by simp
 refine⟨hI.nod.add ht ht' hy hn hne h1 h2 hnew',fun m id=> ?_⟩
 simp only[put]
 by_cases hm:m=(t,y,n)
 ·subst hm
  simp only[if_true,Option.some.injEq]
  constructor
  ·intro h
   subst h
   exact⟨by omega,by omega,z3n⟩
  ·rintro⟨a,b,c⟩
   by_cases hid:id<ns.length
   ·rw[z3m hp hid a] at c
    exact absurd c (hnew' id a hid)
   ·omega
 ·simp only[if_neg hm]
  rw[hI.ids]
  constructor
  ·rintro⟨a,b,c⟩
   exact⟨a,by omega,by rw[z3m hp b a];exact c⟩
  ·rintro⟨a,b,c⟩
   by_cases hid:id<ns.length
   ·exact⟨a,hid,by rw[z3m hp hid a] at c;exact c⟩
   ·have:id=ns.length:=by omega
    subst this
    rw[z3n] at c
    exact absurd c.symm hm
def j01(ns:List Nd)(t y n:Int):Prop:=0<=t/\t<=1000/\Ok ns y/\Ok ns n/\t<top ns y/\t<top ns n
instance (ns:List Nd)(id:Int):Decidable (Ok ns id):=by unfold Ok;infer_instance
instance (ns:List Nd)(t y n:Int):Decidable (j01 ns t y n):=by unfold j01;infer_instance
def node(ns:List Nd)(ids:Nd->Option Int)(full:Bool)(t y n:Int):Int×List Nd×(Nd->Option Int)×Bool:=
 if j01 ns t y n then
  if y=n then (y,ns,ids,full)
  else match ids (t,y,n) with
   |some id=>(id,ns,ids,full)
   |none=>if 4000<=ns.length then (-1002,ns,ids,true) else (ns.length,ns++[(t,y,n)],put ids (t,y,n) ns.length,full)
 else (-1002,ns,ids,full)
structure Grew(ns:List Nd)(ids:Nd->Option Int)(full:Bool)(k:Nat)(ns':List Nd)(ids':Nd->Option Int)(full':Bool):Prop where
 inv:Inv ns' ids'
 pre:ns<+:ns'
 len:ns'.length<=4000
 room:full'=full∨ns'.length=4000
 most:ns'.length<=ns.length+k
theorem Grew.refl{ns:List Nd}{ids:Nd->Option Int}{full:Bool}(hI:Inv ns ids)(hl:ns.length<=4000)(k:Nat):Grew ns ids full k ns ids full:=
 ⟨hI,List.prefix_refl _,hl,.inl rfl,by omega⟩
theorem Grew.trans{ns ns' ns'':List Nd}{ids ids' ids'':Nd->Option Int}{f f' f'':Bool}{k k' m:Nat}(h:Grew ns ids f k ns' ids' f')(h':Grew ns' ids' f' k' ns'' ids'' f'')(hm:k+k'<=m):
  Grew ns ids f m ns'' ids'' f'':=by
 refine⟨h'.inv,h.pre.trans h'.pre,h'.len,?_,?_⟩
 ·rcases h'.room with e|e
  ·rcases h.room with e'|e'
   ·exact .inl (e.trans e')
   ·have:=h'.pre.length_le
    have:=h'.len
    exact .inr (by omega)
  ·exact .inr e
 ·have:=h.most
  have:=h'.most
  omega
theorem v0n{ns:List Nd}{ids:Nd->Option Int}{full:Bool}(hI:Inv ns ids)(hl:ns.length<=4000){t y n:Int}(hO:j01 ns t y n){r:Int}{ns':List Nd}{ids':Nd->Option Int}{full':Bool}
  (he:node ns ids full t y n=(r,ns',ids',full')):Grew ns ids full 1 ns' ids' full'/\(∀b,Tb ns b->t<b->Tb ns' b)/\
   ((r= -1002/\ns'.length=4000/\full'=true)∨(full'=full/\Ok ns' r/\t<=top ns' r/\ ∀h,ev ns' h r=if h t=true then ev ns h y else ev ns h n)):=by
 obtain⟨h1,h2,hy,hn,h3,h4⟩:=hO
 rw[node,if_pos ⟨h1,h2,hy,hn,h3,h4⟩] at he
 by_cases hyn:y=n
 ·rw[if_pos hyn] at he
  cases he
  subst hyn
  exact⟨.refl hI hl 1,fun b h _=>h,.inr ⟨rfl,hy,by omega,fun h=>by simp⟩⟩
 ·rw[if_neg hyn] at he
  cases hid:ids (t,y,n) with
  |some id=>
   rw[hid] at he
   cases he
   obtain⟨a,b,c⟩:=(hI.ids _ _).1 hid
   refine⟨.refl hI hl 1,fun b h _=>h,.inr ⟨rfl,⟨by omega,b⟩,?_,fun h=> ?_⟩⟩
   ·simp only[top,if_neg (show ¬r<0 by omega),c];omega
   ·rw[q7f hI.nod a b,c]
  |none=>
   rw[hid] at he
   simp only at he
   by_cases hf:4000<=ns.length
   ·rw[if_pos hf] at he
    cases he
    exact⟨⟨hI,List.prefix_refl _,hl,.inr (by omega),by omega⟩,fun b h _=>h,.inl ⟨rfl,by omega,rfl⟩⟩
   ·rw[if_neg hf] at he
    cases he
    have hp:ns<+:ns++[(t,y,n)]:=List.prefix_append _ _
    have hI':=hI.add h1 h2 hy hn hyn h3 h4 hid
    have hlen:((ns++[(t,y,n)]).length:Int)=ns.length+1:=by simp
    refine⟨⟨hI',hp,by simp;omega,.inl rfl,by simp⟩,fun b hb ht i h0 hl=> ?_,.inr ⟨rfl,⟨by omega,by omega⟩,?_,fun h=> ?_⟩⟩
    ·by_cases hi:i<ns.length
     ·rw[z3m hp hi h0];exact hb i h0 hi
     ·have:i=ns.length:=by omega
      subst this
      rw[z3n];exact ht
    ·simp only[top,if_neg (show ¬(ns.length:Int)<0 by omega),z3n];omega
    ·rw[q7f hI'.nod (by omega) (by omega),z3n]
     simp only
     rw[q4c hI.nod hI'.nod hp hy,q4c hI.nod hI'.nod hp hn]
theorem w5a{ns:List Nd}{ids:Nd->Option Int}{full:Bool}{t y n:Int}(hO: ¬j01 ns t y n):node ns ids full t y n=(-1002,ns,ids,full):=by
 rw[node,if_neg hO]
def mtop(ns:List Nd)(f g h:Int):Int:=min (min (top ns f) (top ns g)) (top ns h)
def Cse(ns:List Nd)(f g h r:Int):Prop:= ∀v,ev ns v r=if ev ns v f=1 then ev ns v g else ev ns v h
def Cond(ns:List Nd)(f:Int):Prop:= ∀v,ev ns v f=0∨ev ns v f=1
def sd(ns:List Nd)(x t:Int):Int×Int:=if top ns x=t then ((nd ns x).2.1,(nd ns x).2.2) else (x,x)
theorem v6r{ns:List Nd}(hN:Nod ns){x t:Int}(hx:Ok ns x)(ht:t<=1000)(hl:t<=top ns x):
  Ok ns (sd ns x t).1/\Ok ns (sd ns x t).2/\t<top ns (sd ns x t).1/\t<top ns (sd ns x t).2/\ ∀v,ev ns v x=if v t=true then ev ns v (sd ns x t).1 else ev ns v (sd ns x t).2:=by
 unfold sd
 by_cases he:top ns x=t
 ·rw[if_pos he]
  have h0: ¬x<0:=fun hn=>by simp only[top,if_pos hn] at he;omega
  have hx2:=hx.2
  obtain⟨_,_,a,b,c,d,_,e,g⟩:=hN.nod x (by omega) hx.2
  have ht':(nd ns x).1=t:=by simp only[top,if_neg h0] at he;exact he
  refine⟨⟨a,by omega⟩,⟨c,by omega⟩,by rw[←ht'];exact e,by rw[←ht'];exact g,fun v=> ?_⟩
  rw[q7f hN (by omega) hx.2,ht']
 ·rw[if_neg he]
  refine⟨hx,hx,by show t<top ns x;omega,by show t<top ns x;omega,fun v=>by simp⟩
def Kn(ns:List Nd)(m:Nd->Option Int):Prop:= ∀f g h id,m (f,g,h)=some id->(id= -1002/\ns.length=4000)∨(Ok ns f/\Ok ns g/\Ok ns h/\Ok ns id/\Cse ns f g h id/\mtop ns f g h<=top ns id)
theorem Kn.nil(ns:List Nd):Kn ns fun _=>none:=fun _ _ _ _ h=>by cases h
theorem v0o{ns ns':List Nd}(hp:ns<+:ns'){f g h:Int}(hf:Ok ns f)(hg:Ok ns g)(hh:Ok ns h):mtop ns' f g h=mtop ns f g h:=by
 unfold mtop;rw[z1a hp hf.2,z1a hp hg.2,z1a hp hh.2]
theorem Cse.pre{ns ns':List Nd}(hN:Nod ns)(hN':Nod ns')(hp:ns<+:ns'){f g h r:Int}(hf:Ok ns f)(hg:Ok ns g)(hh:Ok ns h)(hr:Ok ns r)(hs:Cse ns f g h r):Cse ns' f g h r:=fun v=>by
 rw[q4c hN hN' hp hf,q4c hN hN' hp hg,q4c hN hN' hp hh,q4c hN hN' hp hr];exact hs v
theorem Kn.pre{ns ns':List Nd}(hN:Nod ns)(hN':Nod ns')(hp:ns<+:ns')(hl:ns'.length<=4000){m:Nd->Option Int}(hK:Kn ns m):Kn ns' m:=fun f g h id hm=>by
 rcases hK f g h id hm with ⟨h1,h2⟩|⟨h1,h2,h3,h4,h5,h6⟩
 ·have:=hp.length_le
  exact .inl ⟨h1,by omega⟩
 ·exact .inr ⟨h1.pre hp,h2.pre hp,h3.pre hp,h4.pre hp,h5.pre hN hN' hp h1 h2 h3 h4,by rw[v0o hp h1 h2 h3,z1a hp h4.2];exact h6⟩
theorem Kn.put{ns:List Nd}{m:Nd->Option Int}(hK:Kn ns m){f g h r:Int}(hr:(r= -1002/\ns.length=4000)∨(Ok ns f/\Ok ns g/\Ok ns h/\Ok ns r/\Cse ns f g h r/\mtop ns f g h<=top ns r)):Kn ns (put m (f,g,h) r):=fun f' g' h' id hm=>by
 unfold Fl.put at hm
 split at hm
 ·rename_i he
  cases hm
  simp only[Prod.mk.injEq] at he
  obtain⟨rfl,rfl,rfl⟩:=he
  exact hr
 ·exact hK f' g' h' id hm
structure Cho(ns:List Nd)(ids:Nd->Option Int)(full:Bool)(f g h:Int)(r:Int)(ns':List Nd)(ids':Nd->Option Int)(full':Bool):Prop where
 grew:Grew ns ids full 4000 ns' ids' full'
 few: ∀b,Tb ns b->Tb ns' b/\ns'.length+1<=ns.length+2 ^ (b - mtop ns f g h).toNat
 res:(r= -1002/\ns'.length=4000)∨(Ok ns' r/\Cse ns' f g h r/\mtop ns f g h<=top ns' r)
end Go.Dg
end
noncomputable section
set_option maxRecDepth 100000
namespace Go.En
open Go Go.Fl Go.Fx Go.Dg
theorem v0p{ns:List Nd}{id:Int}{y:Nd}(h:ns[id.toNat]? =some y):nd ns id=y:=by
 simp[nd,List.getD_eq_getElem?_getD,h]
theorem z5p{ns:List Nd}{ids:Nd->Option Int}{full:Bool}{id:Int}{K:Bool->List Nd->(Nd->Option Int)->Bool->Prop}(h:K (decide (Ok ns id)) ns ids full):Uw ns ids full id K:=by
 unfold Uw
 refine⟨fun h1 _=> ?_,fun h1=> ?_⟩
 ·have:decide (id<(ns.length:Int))=decide (Ok ns id):=decide_eq_decide.2 ⟨fun a=>⟨h1,a⟩,fun a=>a.2⟩
  rw[this];exact h
 ·have:decide (Ok ns id)=false:=decide_eq_false fun a=>h1 a.1
  rw[this] at h;exact h
theorem z3o{ns:List Nd}{ids:Nd->Option Int}{full:Bool}{id:Int}{K:Int->List Nd->(Nd->Option Int)->Bool->Prop}(hi:Ok ns id)(h:K (top ns id) ns ids full):Jz ns ids full id K:=by
 unfold Jz
 refine⟨fun hn=> ?_,fun hn=>⟨⟨by omega,hi.2⟩,fun y hy=> ?_⟩⟩
 ·simp only[top,if_pos hn] at h;exact h
 ·simp only[top,if_neg hn,v0p hy] at h;exact h
theorem j40{ns:List Nd}{ids:Nd->Option Int}{full:Bool}{id t:Int}{K:Int->Int->List Nd->(Nd->Option Int)->Bool->Prop}(hi:Ok ns id)(ht:t<=1000)(h:K (sd ns id t).1 (sd ns id t).2 ns ids full):Wk ns ids full id t K:=by
 unfold Wk
 refine z3o hi ⟨fun he=> ?_,fun he=> ?_⟩
 ·have h0: ¬id<0:=fun hn=>by simp only[top,if_pos hn] at he;omega
  refine⟨⟨by omega,hi.2⟩,fun y hy=>⟨⟨by omega,hi.2⟩,fun z hz=> ?_⟩⟩
  rw[hy] at hz
  cases hz
  simp only[sd,if_pos he,v0p hy] at h
  exact h
 ·simp only[sd,if_neg he] at h;exact h
theorem w5b{ns:List Nd}{ids:Nd->Option Int}{full:Bool}{t y n:Int}{K:Int->List Nd->(Nd->Option Int)->Bool->Prop}(hl:ns.length<=4000)
  (h:K (node ns ids full t y n).1 (node ns ids full t y n).2.1 (node ns ids full t y n).2.2.1 (node ns ids full t y n).2.2.2):Z7 ns ids full t y n K:=by
 unfold Z7
 by_cases hO:j01 ns t y n
 ·obtain⟨h1,h2,h3,h4,h5,h6⟩:=hO
  refine Cnd.no (by omega) (Cnd.no (by omega) (z5p (Cnd.yes (decide_eq_true h3) (z5p (Cnd.yes (decide_eq_true h4) (z3o h3 (Cnd.no (by omega) (z3o h4 (Cnd.no (by omega) ?_)))))))))
  rw[node,if_pos ⟨h1,h2,h3,h4,h5,h6⟩] at h
  refine⟨fun he=> ?_,fun he=> ?_⟩
  ·rw[if_pos he] at h;exact h
  rw[if_neg he] at h
  cases hid:ids (t,y,n) with
  |some id=>rw[hid] at h;exact Cnd.yes rfl h
  |none=>
   rw[hid] at h
   refine Cnd.no (by simp) fun _=>⟨fun hf=> ?_,fun hf=> ?_⟩
   ·rw[if_pos (by omega)] at h;exact h
   rw[if_neg (by omega)] at h
   have hlen:((ns++[(t,y,n)]).length:Int)=ns.length+1:=by simp
   have e1:((ns++[(t,y,n)]).length:Int) - 1=ns.length:=by omega
   have hs:Sml (ns++[(t,y,n)]).length:=by unfold Sml;simp;omega
   have hi:InI (((ns++[(t,y,n)]).length:Int) - 1):=by constructor<;>omega
   exact fun _=>⟨hs,fun _=>⟨hi,by rw[e1];exact h⟩⟩
 ·rw[w5a hO] at h
  refine⟨fun _=>h,fun h1=>⟨fun _=>h,fun h2=>z5p ⟨fun h3=>z5p ⟨fun h4=>z3o (of_decide_eq_true h3) ⟨fun _=>h,fun h5=>z3o (of_decide_eq_true h4) ⟨fun _=>h,fun h6=> ?_⟩⟩,fun _=>h⟩,fun _=>h⟩⟩⟩
  exact absurd ⟨by omega,by omega,of_decide_eq_true h3,of_decide_eq_true h4,by omega,by omega⟩ hO
theorem w03{X:List Nd->(Nd->Option Int)->Bool->Int->Int->Int->(Nd->Option Int)->(Int->List Nd->(Nd->Option Int)->Bool->(Nd->Option Int)->Prop)->Prop}{ns:List Nd}{ids:Nd->Option Int}{full:Bool}{f g h:Int}{m:Nd->Option Int}{K:Int->List Nd->(Nd->Option Int)->Bool->(Nd->Option Int)->Prop}(hI:Inv ns ids)(hl:ns.length<=4000)(_:Ok ns f)(hg:Ok ns g)(hh:Ok ns h)(hc:Cond ns f)(hm:Kn ns m)(hn:f<0)
  (hK: ∀r ns' ids' full' m',Cho ns ids full f g h r ns' ids' full'->Kn ns' m'->K r ns' ids' full' m'):Ub Jz Wk Z7 X ns ids full f g h m K:=by
 have hc0:=hc fun _=>true
 rw[q1v hn] at hc0
 have mk: ∀r,((f= -2/\r=g)∨(f= -1/\r=h))->Cho ns ids full f g h r ns ids full:=by
  rintro r hr
  refine⟨.refl hI hl _,fun b hb=>⟨hb,by have:=Nat.two_pow_pos ((b - mtop ns f g h).toNat);omega⟩,.inr ?_⟩
  rcases hr with ⟨h1,rfl⟩|⟨h1,rfl⟩
  ·exact⟨hg,fun v=>by rw[q1v (id:=f) hn,if_pos (by omega)],by unfold mtop;omega⟩
  ·exact⟨hh,fun v=>by rw[q1v (id:=f) hn,if_neg (by omega)],by unfold mtop;omega⟩
 unfold Ub
 refine⟨fun he=>hK _ _ _ _ _ (mk g (.inl ⟨he,rfl⟩)) hm,fun he=>⟨fun hgh=> ?_,fun hgh=>⟨fun he'=>hK _ _ _ _ _ (mk h (.inr ⟨he',rfl⟩)) hm,fun he'=>absurd hc0 (by omega)⟩⟩⟩
 exact hK _ _ _ _ _ (mk g (.inr ⟨by omega,hgh⟩)) hm
theorem w60: ∀(ns:List Nd) (ids:Nd->Option Int) (full:Bool) (f g h:Int) (m:Nd->Option Int) (K:Int->List Nd->(Nd->Option Int)->Bool->(Nd->Option Int)->Prop),Inv ns ids->ns.length<=4000->Ok ns f->Ok ns g->Ok ns h->Cond ns f->Kn ns m->
  (∀r ns' ids' full' m',Cho ns ids full f g h r ns' ids' full'->Kn ns' m'->K r ns' ids' full' m')->H2 ns ids full f g h m K:=by
 intro ns ids full f g h m K hI hl hf hg hh hc hm hK X hX
 have key: ∀(k:Nat) (ns:List Nd) (ids:Nd->Option Int) (full:Bool) (f g h:Int) (m:Nd->Option Int) (K:Int->List Nd->(Nd->Option Int)->Bool->(Nd->Option Int)->Prop),(1001 - mtop ns f g h).toNat<=k->Inv ns ids->ns.length<=4000->Ok ns f->Ok ns g->Ok ns h->Cond ns f->Kn ns m->
   (∀r ns' ids' full' m',Cho ns ids full f g h r ns' ids' full'->Kn ns' m'->K r ns' ids' full' m')->X ns ids full f g h m K:=by
  intro k
  induction k with
  |zero=>
   intro ns ids full f g h m K hk hI hl hf hg hh hc hm hK
   refine hX _ _ _ _ _ _ _ _ ?_
   have ht:=(j65 hI.nod hf.2)
   have hn:f<0:=by
    refine Int.not_le.1 fun h0=> ?_
    have:=ht.2.2 h0
    unfold mtop at hk;omega
   exact w03 hI hl hf hg hh hc hm hn hK
  |succ k ih=>
   intro ns ids full f g h m K hk hI hl hf hg hh hc hm hK
   refine hX _ _ _ _ _ _ _ _ ?_
   by_cases hn:f<0
   ·exact w03 hI hl hf hg hh hc hm hn hK
   have same: ∀r,(g=h/\r=g)->Cho ns ids full f g h r ns ids full:=by
    rintro r ⟨rfl,rfl⟩
    exact⟨.refl hI hl _,fun b hb=>⟨hb,by have:=Nat.two_pow_pos ((b - mtop ns f r r).toNat);omega⟩,.inr ⟨hg,fun v=>by simp,by unfold mtop;omega⟩⟩
   unfold Ub
   refine Cnd.no (by omega) ⟨fun hgh=>hK _ _ _ _ _ (same g ⟨hgh,rfl⟩) hm,fun hgh=>Cnd.no (by omega) ⟨fun hs=> ?_,fun _=> ?_⟩⟩
   ·obtain⟨id,hid⟩:=Option.isSome_iff_exists.1 hs
    rw[hid]
    refine hK _ _ _ _ _ ⟨.refl hI hl _,fun b hb=>⟨hb,by have:=Nat.two_pow_pos ((b - mtop ns f g h).toNat);omega⟩,?_⟩ hm
    rcases hm f g h id hid with h1|⟨_,_,_,h4,h5,h6⟩
    ·exact .inl h1
    ·exact .inr ⟨h4,h5,h6⟩
   have t0:=j65 hI.nod hf.2
   have t1:=j65 hI.nod hg.2
   have t2:=j65 hI.nod hh.2
   have hft:=t0.2.2 (by omega)
   have ht:mtop ns f g h<=1000:=by unfold mtop;omega
   have ht0:0<=mtop ns f g h:=by unfold mtop;omega
   refine z3o hf (z3o hg (z3o hh ?_))
   rw[show min (min (top ns f) (top ns g)) (top ns h)=mtop ns f g h from rfl]
   refine j40 hf ht (j40 hg ht (j40 hh ht ?_))
   obtain⟨fa,fb,fc,fd,fe⟩:=v6r hI.nod hf ht (by unfold mtop;omega)
   obtain⟨ga,gb,gc,gd,ge⟩:=v6r hI.nod hg ht (by unfold mtop;omega)
   obtain⟨ha,hb,hc',hd,he⟩:=v6r hI.nod hh ht (by unfold mtop;omega)
   have cy:Cond ns (sd ns f (mtop ns f g h)).1:=fun v=>by
    have:=hc (setB v (mtop ns f g h) true)
    rw[fe] at this
    simp only[setB,if_true] at this
    rw[j66 hI.nod fa fc] at this
    exact this
   have cn:Cond ns (sd ns f (mtop ns f g h)).2:=fun v=>by
    have:=hc (setB v (mtop ns f g h) false)
    rw[fe] at this
    simp only[setB,if_true,Bool.false_eq_true,if_false] at this
    rw[j66 hI.nod fb fd] at this
    exact this
   have hty:mtop ns f g h<mtop ns (sd ns f (mtop ns f g h)).1 (sd ns g (mtop ns f g h)).1 (sd ns h (mtop ns f g h)).1:=by
    show _<min (min _ _) _;omega
   have htn:mtop ns f g h<mtop ns (sd ns f (mtop ns f g h)).2 (sd ns g (mtop ns f g h)).2 (sd ns h (mtop ns f g h)).2:=by
    show _<min (min _ _) _;omega
   refine ih _ _ _ _ _ _ _ _ (by omega) hI hl fa ga ha cy hm fun r1 ns1 ids1 full1 m1 C1 hm1=> ?_
   have hp1:=C1.grew.pre
   have hN1:=C1.grew.inv.nod
   have htn1:mtop ns1 (sd ns f (mtop ns f g h)).2 (sd ns g (mtop ns f g h)).2 (sd ns h (mtop ns f g h)).2=mtop ns (sd ns f (mtop ns f g h)).2 (sd ns g (mtop ns f g h)).2 (sd ns h (mtop ns f g h)).2:=v0o hp1 fb gb hb
   refine ih _ _ _ _ _ _ _ _ (by rw[htn1];omega) C1.grew.inv C1.grew.len (fb.pre hp1) (gb.pre hp1) (hb.pre hp1) (fun v=>by rw[q4c hI.nod hN1 hp1 fb];exact cn v) hm1 fun r2 ns2 ids2 full2 m2 C2 hm2=> ?_
   have hp2:=C2.grew.pre
   have hN2:=C2.grew.inv.nod
   have hp:=hp1.trans hp2
   have few2: ∀b,Tb ns b->Tb ns2 b/\ns2.length+2<=ns.length+2 ^ (b - mtop ns f g h).toNat:=fun b hb0=>by
    obtain⟨a1,a2⟩:=C1.few b hb0
    obtain⟨a3,a4⟩:=C2.few b a1
    rw[htn1] at a4
    have hlt:mtop ns f g h<b:=by
     have hq:=hb0 f (by omega) hf.2
     have:top ns f=(nd ns f).1:=by simp only[top,if_neg hn]
     unfold mtop;omega
    refine⟨a3,?_⟩
    have e:2 ^ (b - mtop ns f g h).toNat=2*2 ^ (b - mtop ns f g h - 1).toNat:=by
     rw[show (b - mtop ns f g h).toNat=(b - mtop ns f g h - 1).toNat+1 by omega,Nat.pow_succ];omega
    have p1:=Nat.pow_le_pow_right (show 0<2 by omega) (show (b - mtop ns (sd ns f (mtop ns f g h)).1 (sd ns g (mtop ns f g h)).1 (sd ns h (mtop ns f g h)).1).toNat<=(b - mtop ns f g h - 1).toNat by omega)
    have p2:=Nat.pow_le_pow_right (show 0<2 by omega) (show (b - mtop ns (sd ns f (mtop ns f g h)).2 (sd ns g (mtop ns f g h)).2 (sd ns h (mtop ns f g h)).2).toNat<=(b - mtop ns f g h - 1).toNat by omega)
    omega
   have gr2:Grew ns ids full 4000 ns2 ids2 full2:=by
    have:=C1.grew.trans C2.grew (Nat.le_refl _)
    exact⟨this.inv,this.pre,this.len,this.room,by have:=this.len;omega⟩
   have bad:ns2.length=4000->Cho ns ids full f g h (-1002) ns2 ids2 full2:=fun hb0=>⟨gr2,fun b hb1=>⟨(few2 b hb1).1,by have:=(few2 b hb1).2;omega⟩,.inl ⟨rfl,hb0⟩⟩
   have full1:r1= -1002->ns2.length=4000:=fun e=>by
    rcases C1.res with h1|h1
    ·have:=hp2.length_le
     have:=C2.grew.len
     omega
    ·have:=h1.1.1;omega
   have full2':r2= -1002->ns2.length=4000:=fun e=>by
    rcases C2.res with h1|h1
    ·exact h1.2
    ·have:=h1.1.1;omega
   have hbad:ns2.length=4000->Kn ns2 (Fl.put m2 (f,g,h) (-1002)):=fun hb0=>hm2.put (.inl ⟨rfl,hb0⟩)
   refine Jn4.mk (fun a b c d=>K a b d c (put m2 (f,g,h) a)) ?_ fun _ _ _ _ h=>h
   refine⟨fun e1=>hK _ _ _ _ _ (bad (full1 e1)) (hbad (full1 e1)),fun e1=>⟨fun e2=>hK _ _ _ _ _ (bad (full2' e2)) (hbad (full2' e2)),fun e2=> ?_⟩⟩
   have o1:Ok ns1 r1/\Cse ns1 (sd ns f (mtop ns f g h)).1 (sd ns g (mtop ns f g h)).1 (sd ns h (mtop ns f g h)).1 r1/\mtop ns (sd ns f (mtop ns f g h)).1 (sd ns g (mtop ns f g h)).1 (sd ns h (mtop ns f g h)).1<=top ns1 r1:=by
    rcases C1.res with h1|h1
    ·exact absurd h1.1 e1
    ·exact h1
   have o2:Ok ns2 r2/\Cse ns2 (sd ns f (mtop ns f g h)).2 (sd ns g (mtop ns f g h)).2 (sd ns h (mtop ns f g h)).2 r2/\mtop ns1 (sd ns f (mtop ns f g h)).2 (sd ns g (mtop ns f g h)).2 (sd ns h (mtop ns f g h)).2<=top ns2 r2:=by
    rcases C2.res with h1|h1
    ·exact absurd h1.1 e2
    ·exact h1
   have o1t:top ns2 r1=top ns1 r1:=z1a hp2 o1.1.2
   have hO:j01 ns2 (mtop ns f g h) r1 r2:=⟨ht0,ht,o1.1.pre hp2,o2.1,by rw[o1t];have:=o1.2.2;omega,by have:=o2.2.2;rw[htn1] at this;omega⟩
   refine w5b C2.grew.len ?_
   obtain⟨hg3,htb,hres⟩:=v0n C2.grew.inv C2.grew.len hO (r:=(node ns2 ids2 full2 (mtop ns f g h) r1 r2).1) (ns':=(node ns2 ids2 full2 (mtop ns f g h) r1 r2).2.1) (ids':=(node ns2 ids2 full2 (mtop ns f g h) r1 r2).2.2.1) (full':=(node ns2 ids2 full2 (mtop ns f g h) r1 r2).2.2.2) rfl
   generalize (node ns2 ids2 full2 (mtop ns f g h) r1 r2).1=r3 at hg3 htb hres
   generalize (node ns2 ids2 full2 (mtop ns f g h) r1 r2).2.1=ns3 at hg3 htb hres
   generalize (node ns2 ids2 full2 (mtop ns f g h) r1 r2).2.2.1=ids3 at hg3 htb hres
   generalize (node ns2 ids2 full2 (mtop ns f g h) r1 r2).2.2.2=full3 at hg3 htb hres
   have hp3:=hp.trans hg3.pre
   have hN3:=hg3.inv.nod
   have hr3:(r3= -1002/\ns3.length=4000)∨(Ok ns3 r3/\Cse ns3 f g h r3/\mtop ns f g h<=top ns3 r3):=by
    rcases hres with h1|⟨_,h1,h2,h3⟩
    ·exact .inl ⟨h1.1,h1.2.1⟩
    ·refine .inr ⟨h1,fun v=> ?_,h2⟩
     rw[h3,q4c hI.nod hN3 hp3 hf,q4c hI.nod hN3 hp3 hg,q4c hI.nod hN3 hp3 hh,fe,ge,he]
     cases v (mtop ns f g h) with
     |true=>
      simp only[if_true]
      rw[q4c hN1 hN2 hp2 o1.1,o1.2.1,q4c hI.nod hN1 hp1 fa,q4c hI.nod hN1 hp1 ga,q4c hI.nod hN1 hp1 ha]
     |false=>
      simp only[Bool.false_eq_true,if_false]
      rw[o2.2.1,q4c hI.nod hN2 hp fb,q4c hI.nod hN2 hp gb,q4c hI.nod hN2 hp hb]
   have hcho:Cho ns ids full f g h r3 ns3 ids3 full3:=by
    refine⟨?_,fun b hb0=>⟨?_,?_⟩,hr3⟩
    ·have:=gr2.trans hg3 (Nat.le_refl _)
     exact⟨this.inv,this.pre,this.len,this.room,by have:=this.len;omega⟩
    ·have hlt:mtop ns f g h<b:=by
      have hq:=hb0 f (by omega) hf.2
      have:top ns f=(nd ns f).1:=by simp only[top,if_neg hn]
      unfold mtop;omega
     exact htb b (few2 b hb0).1 hlt
    ·have:=(few2 b hb0).2
     have:=hg3.most
     omega
   refine hK _ _ _ _ _ hcho (Kn.put (hm2.pre hN2 hN3 hg3.pre hg3.len) ?_)
   rcases hr3 with h1|⟨h1,h2,h3⟩
   ·exact .inl h1
   ·exact .inr ⟨hf.pre hp3,hg.pre hp3,hh.pre hp3,h1,h2,by rw[v0o hp3 hf hg hh];exact h3⟩
 exact key _ ns ids full f g h m K (Nat.le_refl _) hI hl hf hg hh hc hm hK
inductive Rch(ns:List Nd):Int->Int->Prop
 |self (a:Int):Rch ns a a
 |yes {a x:Int}:0<=a->Rch ns (nd ns a).2.1 x->Rch ns a x
 |no {a x:Int}:0<=a->Rch ns (nd ns a).2.2 x->Rch ns a x
theorem Rch.step{ns:List Nd}{a b c:Int}(h:Rch ns a b)(k:Rch ns b c):Rch ns a c:=by
 induction h with
 |self=>exact k
 |yes h0 _ ih=>exact .yes h0 (ih k)
 |no h0 _ ih=>exact .no h0 (ih k)
theorem kids{ns:List Nd}(hN:Nod ns){a:Int}(h:Ok ns a)(h0:0<=a):Ok ns (nd ns a).2.1/\Ok ns (nd ns a).2.2/\(nd ns a).2.1<a/\(nd ns a).2.2<a:=by
 have h2:=h.2
 obtain⟨_,_,a1,a2,a3,a4,_⟩:=hN.nod a h0 h.2
 exact⟨⟨a1,by omega⟩,⟨a3,by omega⟩,a2,a4⟩
theorem Rch.ok{ns:List Nd}(hN:Nod ns){a x:Int}(h:Rch ns a x):Ok ns a->Ok ns x:=by
 induction h with
 |self=>exact id
 |yes h0 _ ih=>exact fun h=>ih (kids hN h h0).1
 |no h0 _ ih=>exact fun h=>ih (kids hN h h0).2.1
def Tr(F:Int->Option Bool):Prop:= ∀x,F x=none∨F x=some true
theorem Tr.get{F:Int->Option Bool}(h:Tr F){x:Int}:(F x).getD false=true↔(F x).isSome=true:=by
 rcases h x with e|e<;>simp[e]
theorem Tr.nil:Tr fun _=>none:=fun _=> .inl rfl
theorem Tr.put{F:Int->Option Bool}(h:Tr F)(x:Int):Tr (put F x true):=fun y=>by
 unfold Fl.put
 split
 ·exact .inr rfl
 ·exact h y
theorem Bm{F:Int->Option Bool}{x y:Int}:(put F x true y).isSome=true↔y=x∨(F y).isSome=true:=by
 unfold Fl.put
 split
 ·rename_i h;simp[h]
 ·rename_i h;simp[h]
theorem Rch.sub{ns:List Nd}{F:Int->Option Bool}{id x:Int}(h:Rch ns id x)(i:(F id).isSome=true)(c: ∀x,(F x).isSome=true->0<=x->(F (nd ns x).2.1).isSome=true/\(F (nd ns x).2.2).isSome=true):(F x).isSome=true:=by
 induction h with
 |self=>exact i
 |yes h0 _ ih=>exact ih (c _ i h0).1
 |no h0 _ ih=>exact ih (c _ i h0).2
def Rc(ns:List Nd)(id:Int)(F:Int->Option Bool):Prop:=Tr F/\ ∀x,(F x).isSome=true↔Rch ns id x
def univ(ns:List Nd):List Int:=(List.range (ns.length+1001)).map fun (i:Nat)=>(i:Int) - 1001
def left(ns:List Nd)(F:Int->Option Bool):Nat:=(univ ns).countP fun x=>(F x).isNone
theorem v3f{ns:List Nd}{x:Int}(h:Ok ns x):x∈univ ns:=by
 obtain⟨h1,h2⟩:=h
 exact List.mem_map.2 ⟨(x+1001).toNat,List.mem_range.2 (by omega),by omega⟩
theorem v0q{l:List Int}{F:Int->Option Bool}{x:Int}(hx:x∈l)(hn:F x=none):(l.countP fun y=>(put F x true y).isNone)<l.countP fun y=>(F y).isNone:=by
 induction l with
 |nil=>cases hx
 |cons a l ih=>
  have le:(l.countP fun y=>(put F x true y).isNone)<=l.countP fun y=>(F y).isNone:=by
   refine List.countP_mono_left fun y _ h=> ?_
   unfold Fl.put at h
   split at h
   ·cases h
   ·exact h
  rw[List.countP_cons,List.countP_cons]
  by_cases ha:a=x
  ·subst ha
   simp only[Fl.put,if_true,Option.isNone_some,Bool.false_eq_true,if_false,hn,Option.isNone_none]
   simp only[Fl.put] at le
   omega
  ·have:=ih ((List.mem_cons.1 hx).resolve_left fun e=>ha e.symm)
   have e:put F x true a=F a:=by simp[Fl.put,ha]
   rw[e]
   omega
theorem v3g{ns:List Nd}{F:Int->Option Bool}{x:Int}(h:Ok ns x)(hn:F x=none):left ns (put F x true)<left ns F:=v0q (v3f h) hn
theorem v6s{ns:List Nd}{F:Int->Option Bool}:left ns F<=ns.length+1001:=by
 have:=List.countP_le_length (p:=fun x=>(F x).isNone) (l:=univ ns)
 simpa [left,univ] using this
theorem v0r{ns:List Nd}{ids:Nd->Option Int}{full:Bool}{id:Int}{K:(Int->Option Bool)->List Nd->(Nd->Option Int)->Bool->Prop}(hN:Nod ns)(hl:ns.length<=4000)(hid:Ok ns id)(h: ∀F,Rc ns id F->K F ns ids full):
  Ba ns ids full id K:=by
 unfold Ba
 refine Lp2.ind (fun todo F=>Tr F/\(∀x∈todo,Ok ns x/\Rch ns id x)/\(∀x,(F x).isSome=true->Ok ns x/\Rch ns id x)/\((F id).isSome=true∨id∈todo)/\
  (∀x,(F x).isSome=true->0<=x->((F (nd ns x).2.1).isSome=true∨(nd ns x).2.1∈todo)/\((F (nd ns x).2.2).isSome=true∨(nd ns x).2.2∈todo))/\todo.length+3*left ns F<=15004)
  (fun todo F=>todo.length+3*left ns F) (fun todo F hI _=> ?_) ⟨Tr.nil,by simpa using ⟨hid,.self _⟩,by simp,.inr (by simp),by simp,by have:=v6s (ns:=ns) (F:=fun _=>none);simp;omega⟩
 obtain⟨i1,i2,i3,i4,i5,i6⟩:=hI
 refine⟨fun hpos=>fun _=>⟨⟨by omega,by omega⟩,⟨by omega,by omega⟩,fun y hy _=>⟨⟨by omega,by omega⟩,⟨by omega,by omega⟩,?_⟩⟩,fun hpos=> ?_⟩
 ·have ht:((todo.length:Int) - 1).toNat=todo.length - 1:=by omega
  rw[ht] at hy⊢
  have hne:todo≠[]:=fun e=>by subst e;simp at hpos
  have hsp:todo=todo.take (todo.length - 1)++[y]:=by
   have h1:todo.getLast hne=y:=by
    rw[List.getLast_eq_getElem]
    rw[List.getElem?_eq_getElem (by omega)] at hy
    exact Option.some.inj hy
   rw[←h1,←List.dropLast_eq_take,List.dropLast_concat_getLast]
  generalize hA:todo.take (todo.length - 1)=A at hsp⊢
  have hlen:todo.length=A.length+1:=by rw[hsp];simp
  obtain⟨hy1,hy2⟩:=i2 y (by rw[hsp];simp)
  have sub: ∀x,x∈todo->x∈A∨x=y:=fun x hx=>by rw[hsp] at hx;simpa using hx
  refine⟨fun hs=>⟨⟨i1,fun x hx=>i2 x (by rw[hsp];simp[hx]),i3,?_,fun x hx h0=> ?_,by omega⟩,by omega⟩,fun hs=> ?_⟩
  ·have hs:=(i1.get).1 hs
   rcases i4 with h|h
   ·exact .inl h
   ·rcases sub _ h with h|rfl
    ·exact .inr h
    ·exact .inl hs
  ·have hs:=(i1.get).1 hs
   obtain⟨a,b⟩:=i5 x hx h0
   refine⟨a.elim .inl fun h=> ?_,b.elim .inl fun h=> ?_⟩
   ·rcases sub _ h with h|h
    ·exact .inr h
    ·exact .inl (by rw[h];exact hs)
   ·rcases sub _ h with h|h
    ·exact .inr h
    ·exact .inl (by rw[h];exact hs)
  ·have hn:F y=none:=by
    rcases i1 y with e|e
    ·exact e
    ·rw[e] at hs;simp at hs
   have hlt:=v3g hy1 hn
   refine⟨fun h0=>⟨⟨h0,hy1.2⟩,fun z hz=>⟨⟨h0,hy1.2⟩,fun z' hz'=> ?_⟩⟩,fun h0=>⟨⟨i1.put y,fun x hx=>i2 x (by rw[hsp];simp[hx]),fun x hx=> ?_,?_,fun x hx hx0=> ?_,by omega⟩,by omega⟩⟩
   ·rw[hz] at hz'
    cases hz'
    have ez:=v0p hz
    obtain⟨k1,k2,_⟩:=kids hN hy1 h0
    rw[ez] at k1 k2
    refine⟨by unfold Sml;simp;omega,⟨i1.put y,fun x hx=> ?_,fun x hx=> ?_,?_,fun x hx hx0=> ?_,by simp;omega⟩,by simp;omega⟩
    ·simp only[List.mem_append,List.mem_cons,List.not_mem_nil,or_false] at hx
     rcases hx with hx|rfl|rfl
     ·exact i2 x (by rw[hsp];simp[hx])
     ·exact⟨k1,hy2.step (.yes h0 (by rw[ez];exact .self _))⟩
     ·exact⟨k2,hy2.step (.no h0 (by rw[ez];exact .self _))⟩
    ·rcases Bm.1 hx with rfl|hx
     ·exact⟨hy1,hy2⟩
     ·exact i3 x hx
    ·rcases i4 with h|h
     ·exact .inl (Bm.2 (.inr h))
     ·rcases sub _ h with h|rfl
      ·exact .inr (by simp[h])
      ·exact .inl (Bm.2 (.inl rfl))
    ·have mv: ∀q,(F q).isSome=true∨q∈todo->(put F y true q).isSome=true∨q∈A++[z.2.1,z.2.2]:=fun q hq=>by
      rcases hq with h|h
      ·exact .inl (Bm.2 (.inr h))
      ·rcases sub _ h with h|rfl
       ·exact .inr (by simp[h])
       ·exact .inl (Bm.2 (.inl rfl))
     rcases Bm.1 hx with rfl|hx
     ·rw[ez];exact⟨.inr (by simp),.inr (by simp)⟩
     ·obtain⟨a,b⟩:=i5 x hx hx0
      exact⟨mv _ a,mv _ b⟩
   ·rcases Bm.1 hx with rfl|hx
    ·exact⟨hy1,hy2⟩
    ·exact i3 x hx
   ·rcases i4 with h|h
    ·exact .inl (Bm.2 (.inr h))
    ·rcases sub _ h with h|rfl
     ·exact .inr h
     ·exact .inl (Bm.2 (.inl rfl))
   ·have mv: ∀q,(F q).isSome=true∨q∈todo->(put F y true q).isSome=true∨q∈A:=fun q hq=>by
     rcases hq with h|h
     ·exact .inl (Bm.2 (.inr h))
     ·rcases sub _ h with h|rfl
      ·exact .inr h
      ·exact .inl (Bm.2 (.inl rfl))
    rcases Bm.1 hx with rfl|hx
    ·exact absurd hx0 h0
    ·obtain⟨a,b⟩:=i5 x hx hx0
     exact⟨mv _ a,mv _ b⟩
 ·have hnil:todo=[]:=List.eq_nil_of_length_eq_zero (by omega)
  subst hnil
  refine h F ⟨i1,fun x=>⟨fun hx=>(i3 x hx).2,fun hx=> ?_⟩⟩
  have i4:(F id).isSome=true:=i4.resolve_right (by simp)
  exact hx.sub i4 fun x hx h0=>⟨(i5 x hx h0).1.resolve_right (by simp),(i5 x hx h0).2.resolve_right (by simp)⟩
theorem w5c{α:Type}[DecidableEq α]{l l':List α}(h:l.Nodup)(hs: ∀x∈l,x∈l'):l.length<=l'.length:=by
 induction l generalizing l' with
 |nil=>simp
 |cons a l ih=>
  rw[List.nodup_cons] at h
  have:=ih (l':=l'.erase a) h.2 fun x hx=>by
   have hne:x≠a:=fun e=>h.1 (e▸hx)
   exact (List.mem_erase_of_ne hne).2 (hs x (by simp[hx]))
  rw[List.length_erase_of_mem (hs a (by simp))] at this
  have hp:=List.length_pos_of_mem (hs a (by simp))
  simp only[List.length_cons]
  omega
def Lvs(ns:List Nd)(id:Int)(l:List Int):Prop:=l.Pairwise (· < ·)/\ ∀n,n∈l↔Ok ns id/\0<=n/\Rch ns id (-1 - n)
theorem w61{ns:List Nd}{ids:Nd->Option Int}{full:Bool}{id:Int}{K:List Int->List Nd->(Nd->Option Int)->Bool->Prop}(hN:Nod ns)(hl:ns.length<=4000)(h: ∀l,Lvs ns id l->K l ns ids full):H1 ns ids full id K:=by
 unfold H1
 by_cases hid:Ok ns id
 ·refine z5p (Cnd.yes (decide_eq_true hid) (v0r hN hl hid fun F hF=> ?_))
  refine Lp2.ind (fun l n=>0<=n/\n<=1001/\l.length<=n/\l.Pairwise (· < ·)/\ ∀x,x∈l↔0<=x/\x<n/\Rch ns id (-1 - x)) (fun _ n=>(1001 - n).toNat) (fun l n hI=> ?_) ⟨by omega,by omega,by simp,by simp,fun x=>by simp;omega⟩
  obtain⟨h0,h1,h2,h3,h4⟩:=hI
  refine⟨fun hn=>⟨⟨by omega,by omega⟩,fun hs=> ?_,fun hs=> ?_⟩,fun hn=> ?_⟩
  ·have hs:=(hF.2 _).1 ((hF.1.get).1 hs)
   refine⟨by unfold Sml;simp;omega,⟨by omega,by omega⟩,⟨by omega,by omega,by simp;omega,?_,fun x=> ?_⟩,by omega⟩
   ·rw[List.pairwise_append]
    exact⟨h3,by simp,fun a ha b hb=>by simp at hb;subst hb;exact ((h4 a).1 ha).2.1⟩
   ·simp only[List.mem_append,List.mem_singleton,h4]
    constructor
    ·rintro (⟨a,b,c⟩|rfl)
     ·exact⟨a,by omega,c⟩
     ·exact⟨h0,by omega,hs⟩
    ·rintro⟨a,b,c⟩
     by_cases hx:x=n
     ·exact .inr hx
     ·exact .inl ⟨a,by omega,c⟩
  ·have hs: ¬Rch ns id (-1 - n):=fun hr=>hs ((hF.1.get).2 ((hF.2 _).2 hr))
   refine⟨⟨by omega,by omega⟩,⟨by omega,by omega,by omega,h3,fun x=> ?_⟩,by omega⟩
   rw[h4]
   constructor
   ·rintro⟨a,b,c⟩;exact⟨a,by omega,c⟩
   ·rintro⟨a,b,c⟩
    refine⟨a,?_,c⟩
    by_cases hx:x=n
    ·subst hx;exact absurd c hs
    ·omega
  ·refine h l ⟨h3,fun x=> ?_⟩
   rw[h4]
   constructor
   ·rintro⟨a,_,c⟩;exact⟨hid,a,c⟩
   ·rintro⟨_,a,c⟩
    have:=(c.ok hN hid).1
    exact⟨a,by omega,c⟩
 ·exact z5p (Cnd.no (by simpa using hid) (h [] ⟨by simp,fun n=>by simp[hid]⟩))
theorem w5d{ns:List Nd}(hN:Nod ns){id:Int}(hid:Ok ns id)(n:Int)(hn:0<=n):Rch ns id (-1 - n)↔ ∃v,ev ns v id=n:=by
 constructor
 ·intro h
  generalize hx: -1 - n=x at h
  induction h with
  |self a=>exact⟨fun _=>true,by rw[q1v (by omega)];omega⟩
  | @yes a x h0 _ ih=>
   obtain⟨v,hv⟩:=ih (kids hN hid h0).1 hx
   exact⟨setB v (nd ns a).1 true,by rw[w49 hN h0 hid.2];exact hv⟩
  | @no a x h0 _ ih=>
   obtain⟨v,hv⟩:=ih (kids hN hid h0).2.1 hx
   exact⟨setB v (nd ns a).1 false,by rw[v3e hN h0 hid.2];exact hv⟩
 ·rintro⟨v,hv⟩
  revert hv
  refine ind hN (p:=fun id=>ev ns v id=n->Rch ns id (-1 - n)) (fun id h1 h2 he=> ?_) (fun id h1 h2 i1 i2 he=> ?_) hid
  ·rw[q1v h2] at he
   rw[show -1 - n=id by omega];exact .self _
  ·rw[q7f hN h1 h2] at he
   split at he
   ·exact .yes h1 (i1 he)
   ·exact .no h1 (i2 he)
theorem v0s{ns:List Nd}(hN:Nod ns){id:Int}(hid:Ok ns id)(v:Int->Bool):0<=ev ns v id:=by
 refine ind hN (p:=fun id=>0<=ev ns v id) (fun id h1 h2=> ?_) (fun id h1 h2 i1 i2=> ?_) hid
 ·rw[q1v h2];omega
 ·rw[q7f hN h1 h2];split<;>assumption
theorem v3h{ns:List Nd}(hN:Nod ns){id:Int}(hid:Ok ns id){l:List Int}(hl:Lvs ns id l):Cond ns id↔ ∀n∈l,n<=1:=by
 constructor
 ·intro h n hn
  obtain⟨_,h0,hr⟩:=(hl.2 n).1 hn
  obtain⟨v,hv⟩:=(w5d hN hid n h0).1 hr
  have:=h v
  omega
 ·intro h v
  have h0:=v0s hN hid v
  have:=h (ev ns v id) ((hl.2 _).2 ⟨hid,h0,(w5d hN hid _ h0).2 ⟨v,rfl⟩⟩)
  omega
def OpR(p:Prop)(ns:List Nd)(ids:Nd->Option Int)(full:Bool)(f g h r:Int)(ns':List Nd)(ids':Nd->Option Int)(full':Bool):Prop:=
 (p/\Cho ns ids full f g h r ns' ids' full')∨(¬p/\r= -1002/\ns'=ns/\ids'=ids/\full'=full)
def ChR(ns:List Nd)(ids:Nd->Option Int)(full:Bool)(f g h r:Int)(ns':List Nd)(ids':Nd->Option Int)(full':Bool):Prop:=
 (Ok ns f/\Cond ns f/\Ok ns g/\Ok ns h/\Cho ns ids full f g h r ns' ids' full')∨(¬(Ok ns f/\Cond ns f/\Ok ns g/\Ok ns h)/\r= -1002/\ns'=ns/\ids'=ids/\full'=full)
theorem j8o{ns:List Nd}{ids:Nd->Option Int}{full:Bool}{id:Int}{K:Bool->List Nd->(Nd->Option Int)->Bool->Prop}(hN:Nod ns)(hl:ns.length<=4000)(h: ∀b,(b=true↔Ok ns id/\Cond ns id)->K b ns ids full):Jt ns ids full id K:=by
 unfold Jt
 by_cases hid:Ok ns id
 ·refine z5p (Cnd.yes (decide_eq_true hid) (w61 hN hl fun l hL=> ?_))
  have hc:=v3h hN hid hL
  refine Lp1.ind (fun i:Int=>0<=i/\i<=l.length/\ ∀j:Nat,j<i.toNat-> ∀n,l[j]? =some n->n<=1) (fun i:Int=>l.length - i.toNat) (fun i hi hlen=> ?_) ⟨by omega,by omega,fun j hj=>by omega⟩
  obtain⟨h0,h1,h2⟩:=hi
  refine⟨fun hlt=>⟨⟨h0,hlt⟩,fun y hy=>⟨fun h3=>h false ⟨fun e=>(by cases e),fun a=> ?_⟩,fun h3=>⟨⟨by omega,by omega⟩,⟨by omega,by omega,fun j hj n hn=> ?_⟩,by omega⟩⟩⟩,fun hlt=>h true ⟨fun _=>⟨hid,hc.2 fun n hn=> ?_⟩,fun _=>rfl⟩⟩
  ·have:=hc.1 a.2 y (List.mem_of_getElem? hy);omega
  ·by_cases hji:j=i.toNat
   ·subst hji;rw[hy] at hn;cases hn;omega
   ·exact h2 j (by omega) n hn
  ·obtain⟨j,hj⟩:=List.mem_iff_getElem?.1 hn
   exact h2 j (by have:=(List.getElem?_eq_some_iff.1 hj).1;omega) n hj
 ·exact z5p (Cnd.no (by simpa using hid) (h false ⟨fun e=>(by cases e),fun a=>absurd a.1 hid⟩))
theorem j0i{ns:List Nd}{ids:Nd->Option Int}{full:Bool}{f g h:Int}{K:Int->List Nd->(Nd->Option Int)->Bool->Prop}(hI:Inv ns ids)(hl:ns.length<=4000)
  (hK: ∀r ns' ids' full',ChR ns ids full f g h r ns' ids' full'->K r ns' ids' full'):Ww ns ids full f g h K:=by
 unfold Ww
 refine j8o hI.nod hl fun b hb=>⟨fun hbt=> ?_,fun hbt=> ?_⟩
 ·obtain⟨hf,hc⟩:=hb.1 hbt
  refine z5p ⟨fun hg=>z5p ⟨fun hh=> ?_,fun hh=> ?_⟩,fun hg=> ?_⟩
  ·exact w60 _ _ _ _ _ _ _ _ hI hl hf (of_decide_eq_true hg) (of_decide_eq_true hh) hc (Kn.nil ns) fun r ns' ids' full' m' C _=>hK _ _ _ _ (.inl ⟨hf,hc,of_decide_eq_true hg,of_decide_eq_true hh,C⟩)
  ·exact hK _ _ _ _ (.inr ⟨fun a=>hh (decide_eq_true a.2.2.2),rfl,rfl,rfl,rfl⟩)
  ·exact hK _ _ _ _ (.inr ⟨fun a=>hg (decide_eq_true a.2.2.1),rfl,rfl,rfl,rfl⟩)
 ·exact hK _ _ _ _ (.inr ⟨fun a=>hbt (hb.2 ⟨a.1,a.2.1⟩),rfl,rfl,rfl,rfl⟩)
theorem v6t{ns:List Nd}{ids:Nd->Option Int}{full:Bool}{f g:Int}{K:Int->List Nd->(Nd->Option Int)->Bool->Prop}(hI:Inv ns ids)(hl:ns.length<=4000)
  (hK: ∀r ns' ids' full',OpR (Ok ns f/\Cond ns f/\Ok ns g/\Cond ns g) ns ids full f g (-1) r ns' ids' full'->K r ns' ids' full'):Gl ns ids full f g K:=by
 unfold Gl
 refine j8o hI.nod hl fun b hb=>⟨fun hbt=> ?_,fun hbt=> ?_⟩
 ·refine j0i hI hl fun r ns' ids' full' C=>hK _ _ _ _ ?_
  rcases C with ⟨a1,a2,a3,a4,a5⟩|⟨a1,a2⟩
  ·exact .inl ⟨⟨a1,a2,hb.1 hbt⟩,a5⟩
  ·exact .inr ⟨fun a=>a1 ⟨a.1,a.2.1,a.2.2.1,⟨by omega,by omega⟩⟩,a2⟩
 ·exact hK _ _ _ _ (.inr ⟨fun a=>hbt (hb.2 a.2.2),rfl,rfl,rfl,rfl⟩)
theorem v4p{ns:List Nd}{ids:Nd->Option Int}{full:Bool}{f g:Int}{K:Int->List Nd->(Nd->Option Int)->Bool->Prop}(hI:Inv ns ids)(hl:ns.length<=4000)
  (hK: ∀r ns' ids' full',OpR (Ok ns f/\Cond ns f/\Ok ns g/\Cond ns g) ns ids full f (-2) g r ns' ids' full'->K r ns' ids' full'):Ux ns ids full f g K:=by
 unfold Ux
 refine j8o hI.nod hl fun b hb=>⟨fun hbt=> ?_,fun hbt=> ?_⟩
 ·refine j0i hI hl fun r ns' ids' full' C=>hK _ _ _ _ ?_
  rcases C with ⟨a1,a2,a3,a4,a5⟩|⟨a1,a2⟩
  ·exact .inl ⟨⟨a1,a2,hb.1 hbt⟩,a5⟩
  ·exact .inr ⟨fun a=>a1 ⟨a.1,a.2.1,⟨by omega,by omega⟩,a.2.2.1⟩,a2⟩
 ·exact hK _ _ _ _ (.inr ⟨fun a=>hbt (hb.2 a.2.2),rfl,rfl,rfl,rfl⟩)
theorem v6u{ns:List Nd}{ids:Nd->Option Int}{full:Bool}{f:Int}{K:Int->List Nd->(Nd->Option Int)->Bool->Prop}(hI:Inv ns ids)(hl:ns.length<=4000)
  (hK: ∀r ns' ids' full',OpR (Ok ns f/\Cond ns f) ns ids full f (-1) (-2) r ns' ids' full'->K r ns' ids' full'):Gk ns ids full f K:=by
 unfold Gk
 refine j0i hI hl fun r ns' ids' full' C=>hK _ _ _ _ ?_
 rcases C with ⟨a1,a2,a3,a4,a5⟩|⟨a1,a2⟩
 ·exact .inl ⟨⟨a1,a2⟩,a5⟩
 ·exact .inr ⟨fun a=>a1 ⟨a.1,a.2,⟨by omega,by omega⟩,⟨by omega,by omega⟩⟩,a2⟩
end Go.En
end
noncomputable section
set_option maxRecDepth 100000
namespace Go.En
open Go Go.Fl Go.Fl.Lk Go.Fx Go.Dg
theorem w04{v:Envt}{layer but:ByteArray}{now:Int}{K:List Spn->Prop}(h: ∀l,l.length<=10000->K l):Bz v layer but now K:=by
 unfold Bz z0d
 refine q8z fun r hr=>Cnd.mk (fun _=>h _ (by simp)) fun hn=> ?_
 refine Jn1.mk (fun l=>SpsS l) ?_ fun l hl=> ?_
 ·rcases hr with ⟨e,_⟩|⟨a,b,_⟩
  ·omega
  refine⟨⟨a,b⟩,fun y hy=>⟨⟨a,b⟩,fun z hz=> ?_⟩⟩
  refine⟨z1w fun u hu=>z3l (by omega) fun l _=>q75 fun l hl=>hl,z1w fun u hu=>⟨z3l (by omega) fun l _=>q75 fun l hl=>hl,z3l (by omega) fun l _=>q75 fun l hl=>hl⟩⟩
 ·refine Lp2.ind (fun (l:List Spn) (i:Int)=>0<=i/\i<=v.experiments.length/\SpsS l) (fun _ (i:Int)=>(v.experiments.length - i).toNat) ?_ ⟨by omega,by omega,hl⟩
  rintro l i ⟨i0,i1,hl⟩
  have hlen:=hl.len
  (repeat' (first|exact h _ (by omega)|refine q75 fun l hl=> ?_|assumption|(unfold InI;omega)|omega|refine Cnd.mk (fun _=> ?_) fun _=> ?_|refine⟨?_,?_⟩|intro _))
theorem w3t{v:Envt}{layer:ByteArray}{now:Int}{K:List Spn->Int->Prop}(h: ∀l e,SpsS l->K l e):q2o v layer now K:=by
 unfold q2o z37
 have nil:SpsS []:=⟨by simp,by simp⟩
 exact z06 fun _ _=>Cnd.mk (fun _=>q8z fun _ _=>Cnd.mk (fun _=>h _ _ nil) fun _=>w04 fun _ _=>j0y fun l hl=>h _ _ hl) fun _=>h _ _ nil
def lim:Nat->Nat
 |0=>1
 |n+1=>1+3*lim n
theorem j41: ∀(n:Nat) {l:List Ex} {e:Ex} {K:List Ex->Prop},n<=5->ExS n e->(∀x∈l,ExS 5 x)->l.length+lim n<=1000000->(∀r,(∀x∈r,ExS 5 x)->r.length<=l.length+lim n->K r)->q3e l e K:=by
 intro n l e K hn he hl hB h X hX
 induction n using Nat.strongRecOn generalizing l e K with
 |_ n ih=>
 refine hX _ _ _ ?_
 unfold q8f
 rw[Ju]
 have lp:1<=lim n:=by cases n<;>simp[lim]
 refine Jn1.mk (fun r=>(∀x∈r,ExS 5 x)/\r.length<=l.length+1) ?_ fun r hr=> ?_
 ·have same:(∀x∈l,ExS 5 x)/\l.length<=l.length+1:=⟨hl,by omega⟩
  have more:Sml ([]++l).length/\Sml ([]++l++[e]).length/\((∀x∈[]++l++[e],ExS 5 x)/\([]++l++[e]).length<=l.length+1):=by
   refine⟨by unfold Sml;simp;omega,by unfold Sml;simp;omega,?_,by simp⟩
   rw[List.nil_append]
   exact Jc hl (he.le hn)
  have ix:Vx l e fun x=>Cnd (x<0) ((Sml ([]++l).length/\Sml ([]++l++[e]).length/\((∀x∈[]++l++[e],ExS 5 x)/\([]++l++[e]).length<=l.length+1))/\Sml ([]++l).length/\Sml ([]++l++[e]).length/\((∀x∈[]++l++[e],ExS 5 x)/\([]++l++[e]).length<=l.length+1)) ((∀x∈l,ExS 5 x)/\l.length<=l.length+1):=
   j0x hl fun r _=>Cnd.mk (fun _=>⟨more,more⟩) fun _=>same
  exact Cnd.mk (fun _=>ix) fun _=>q0k fun r _=>Cnd.mk (fun _=>ix) fun _=>same
 ·obtain⟨hr,hlen⟩:=hr
  have hk:=he.kids
  cases n with
  |zero=>
   have hk0:e.kids=[]:=he.2.2.2
   refine Lp2.ind (fun (q:List Ex) (i:Int)=>q=r/\0<=i) (fun _ _=>0) ?_ ⟨rfl,by omega⟩
   rintro q i ⟨rfl,i0⟩ _
   refine Cnd.mk (fun hc=> ?_) fun _=>h _ hr (by simp[lim];omega)
   rw[hk0]
   exact⟨by rw[hk0] at hc;simp at hc;omega,fun y hy=>by simp at hy⟩
  |succ n=>
  refine Lp2.ind (fun (q:List Ex) (i:Int)=>0<=i/\i<=e.kids.length/\(∀x∈q,ExS 5 x)/\q.length<=r.length+i.toNat*lim n) (fun _ (i:Int)=>(e.kids.length - i).toNat) ?_ ⟨by omega,by omega,hr,by simp⟩
  rintro q i ⟨i0,i1,hq,hql⟩ _
  have hle:i.toNat*lim n<=3*lim n:=Nat.mul_le_mul_right _ (by omega)
  have hB:l.length+(1+3*lim n)<=1000000:=hB
  refine Cnd.mk (fun hc=>⟨by omega,fun y hy=> ?_⟩) fun _=>h _ hq (by show q.length<=l.length+(1+3*lim n);omega)
  obtain⟨m,hm,hk⟩:=he.kid (getm hy)
  obtain rfl:m=n:=by omega
  rw[Ju]
  have hle2:i.toNat*lim m<=2*lim m:=Nat.mul_le_mul_right _ (by omega)
  refine ih m (by omega) (by omega) hk hq (by omega) fun s hs hsl=>⟨by unfold InI;omega,⟨by omega,by omega,hs,?_⟩,by omega⟩
  ·rw[show (i+1).toNat=i.toNat+1 by omega,Nat.add_mul,Nat.one_mul];omega
theorem lim4:lim 4=121:=rfl
theorem j1w{l:List Rul}{K:List Ex->Prop}(hl:l.length<=100)(hr: ∀r∈l,ExS 4 r.cond)(h: ∀r,(∀x∈r,ExS 5 x)->r.length<=100000->K r):q0u l K:=by
 unfold q0u q58
 refine Lp2.ind (fun (q:List Ex) (i:Int)=>0<=i/\i<=l.length/\(∀x∈q,ExS 5 x)/\q.length<=i.toNat*121) (fun _ (i:Int)=>(l.length - i).toNat) ?_ ⟨by omega,by omega,by simp,by simp⟩
 rintro q i ⟨i0,i1,hq,hql⟩ _
 refine Cnd.mk (fun hc=>⟨by omega,fun y hy=> ?_⟩) fun _=>h _ hq (by omega)
 dsimp only;rw[Ju]
 refine j41 4 (by omega) (hr y (getm hy)) hq (by rw[lim4];omega) fun s hs hsl=>⟨by unfold InI;omega,⟨by omega,by omega,hs,?_⟩,by omega⟩
 rw[lim4] at hsl;omega
def StS(ns:List Nd)(ids:Nd->Option Int):Prop:=Inv ns ids/\ns.length<=4000
theorem OpR.st{p:Prop}{ns:List Nd}{ids:Nd->Option Int}{full:Bool}{f g h r:Int}{ns':List Nd}{ids':Nd->Option Int}{full':Bool}(h:OpR p ns ids full f g h r ns' ids' full')(hS:StS ns ids):StS ns' ids':=by
 rcases h with ⟨_,C⟩|⟨_,_,e1,e2,_⟩
 ·exact⟨C.grew.inv,C.grew.len⟩
 ·rw[e1,e2];exact hS
theorem v6v{ns:List Nd}{ids:Nd->Option Int}{full:Bool}{t y n:Int}(hS:StS ns ids):StS (node ns ids full t y n).2.1 (node ns ids full t y n).2.2.1:=by
 by_cases hO:j01 ns t y n
 ·obtain⟨h1,_⟩:=v0n (full:=full) hS.1 hS.2 hO (he:=rfl)
  exact⟨h1.inv,h1.len⟩
 ·rw[w5a hO];exact hS
theorem v6w:Inv [] fun _=>none:=⟨⟨fun i h0 hl=>by simp at hl;omega,fun i j h0 hl=>by simp at hl;omega⟩,fun n id=>by simp;omega⟩
theorem j1x: ∀(n:Nat) {ns:List Nd} {ids:Nd->Option Int} {full:Bool} {atoms:List Ex} {e:Ex} {K:Int->List Nd->(Nd->Option Int)->Bool->Prop},ExS n e->(∀x∈atoms,ExS 5 x)->StS ns ids->(∀r ns ids full,StS ns ids->K r ns ids full)->q0v ns ids full atoms e K:=by
 intro n ns ids full atoms e K he ha hS h X hX
 induction n using Nat.strongRecOn generalizing ns ids full e K with
 |_ n ih=>
 refine hX _ _ _ _ _ _ ?_
 unfold q59
 rw[Ju]
 have hop:=he.opK
 have zero:2<=e.op->e.op<=4->(0:Int)<(e.kids.length:Int):=fun a b=>by have:=List.length_pos_iff.2 (hop a b);omega
 have kid: ∀{y:Ex} {ns ids full} {K:Int->List Nd->(Nd->Option Int)->Bool->Prop},y∈e.kids->StS ns ids->(∀r ns ids full,StS ns ids->K r ns ids full)->X ns ids full atoms (Ex.mk y.1 y.2 y.3 y.4 y.5) K:=fun hy hS hK=>by
  obtain⟨m,hm,hk⟩:=he.kid hy
  rw[Ju]
  exact ih m (by omega) hk hS hK
 refine Cnd.mk (fun _=>h _ _ _ _ hS) fun _=>Cnd.mk (fun h4=>⟨⟨by omega,zero (by omega) (by omega)⟩,fun y hy=>kid (getm hy) hS fun r ns ids full hS=>v6u hS.1 hS.2 fun r ns ids full C=>h _ _ _ _ (C.st hS)⟩) fun _=> ?_
 refine Jn1.mk (fun b=>b=true->2<=e.op/\e.op<=4) (Cnd.mk (fun hc _=>by omega) fun _ hd=>by have:=of_decide_eq_true hd;omega) fun b hb=>Cnd.mk (fun hc=>⟨⟨by omega,zero (hb hc).1 (hb hc).2⟩,fun y hy=>kid (getm hy) hS fun r ns ids full hS=> ?_⟩) fun _=> ?_
 ·refine Lp5.ind (fun (_ i:Int) ns _ ids=>1<=i/\i<=e.kids.length+1/\StS ns ids) (fun _ (i:Int) _ _ _=>(e.kids.length+1 - i).toNat) ?_ ⟨by omega,by omega,hS⟩
  rintro f i ns full ids ⟨i0,i1,hS⟩ _
  refine Cnd.mk (fun hc=>⟨by omega,fun y hy=>kid (getm hy) hS fun r ns ids full hS=> ?_⟩) fun _=>h _ _ _ _ hS
  exact Cnd.mk (fun _=>v6t hS.1 hS.2 fun r ns ids full C=>⟨by unfold InI;omega,⟨by omega,by omega,C.st hS⟩,by omega⟩) fun _=>v4p hS.1 hS.2 fun r ns ids full C=>⟨by unfold InI;omega,⟨by omega,by omega,C.st hS⟩,by omega⟩
 ·exact j0x ha fun r hr=>Cnd.mk (fun _=>h _ _ _ _ hS) fun _=>w5b hS.2 (h _ _ _ _ (v6v hS))
theorem q1w{l:List Rul}{K:List Int->Int->Bool->Prop}(hl:l.length<=100)(hr: ∀r∈l,ExS 4 r.cond)(h: ∀o n b,o.length<=100->K o n b):Jw l K:=by
 unfold Jw q2m
 refine j1w hl hr fun atoms ha _=> ?_
 refine LpH.ind (fun (x:Int×List Int×Int×List Nd×Bool×(Nd->Option Int)×Unit)=>0<=x.2.2.1/\x.2.2.1<=(l.length:Int)/\(x.2.1.length:Int)<=x.2.2.1/\StS x.2.2.2.1 x.2.2.2.2.2.1) (fun x=>((l.length:Int) - x.2.2.1).toNat) ?_ ⟨by simp,by simp,by simp,v6w,by simp⟩
 rintro⟨some_,out,i,ns,full,ids,u⟩ ⟨i0,i1,ho,hS⟩
 simp only at i0 i1 ho hS⊢
 refine fun _=>Cnd.mk (fun hc=>⟨by omega,fun y hy=> ?_⟩) fun _ _=>h _ _ _ (by omega)
 dsimp only;rw[Ju]
 refine j1x 4 (hr y (getm hy)) ha hS fun r ns ids full hS=>v4p hS.1 hS.2 fun r ns ids full C=>Cnd.mk (fun _ _=>h _ _ _ (by simp)) fun _=>Cnd.mk (fun _=> ?_) fun _=> ?_
 ·exact⟨by unfold InI;omega,by unfold Sml;simp;omega,by unfold InI;omega,⟨by omega,by omega,by simp;omega,C.st hS⟩,by omega⟩
 ·exact⟨by unfold InI;omega,⟨by omega,by omega,by omega,C.st hS⟩,by omega⟩
theorem w3u{l m:List ByteArray}(hl:Asc l)(hs: ∀x∈l,x∈m):l.length<=m.length:=w5c (j89 hl) hs
theorem w3v{edges:List Edg}{node:ByteArray}{K:List ByteArray->Prop}(hE:edges.length<=100000)(h: ∀r,Asc r->(∀x∈r,x∈edges.map Edg.dst)->K r):z4h edges node K:=by
 unfold z4h z9d
 have len: ∀{o:List ByteArray},Asc o->(∀x∈o,x∈edges.map Edg.dst)->o.length<=edges.length:=fun a b=>by have:=w3u a b;simpa using this
 refine Lp2.ind (fun (o t:List ByteArray)=>Asc o/\(∀x∈o,x∈edges.map Edg.dst)/\t.length<=o.length+1) (fun o t=>2*(edges.length - o.length)+t.length) ?_ ⟨w3m,by simp,by simp⟩
 rintro o t ⟨ho,hs,ht⟩ _
 refine Cnd.mk (fun hc=>⟨by omega,fun n hn=>⟨by omega,?_⟩⟩) fun _=>h o ho hs
 have hlo:=len ho hs
 refine Lp3.ind (fun (o' t':List ByteArray) (i:Int)=>0<=i/\i<=edges.length/\Asc o'/\(∀x∈o',x∈edges.map Edg.dst)/\t'.length<=o'.length/\2*(edges.length - o'.length)+t'.length<2*(edges.length - o.length)+t.length) (fun _ _ (i:Int)=>(edges.length - i).toNat) ?_ ⟨by omega,by omega,ho,hs,by simp;omega,by simp;omega⟩
 rintro o' t' i ⟨i0,i1,ho',hs',ht',hm⟩ _
 have hlo':=len ho' hs'
 refine Cnd.mk (fun hc=>⟨by omega,fun e he=>Cnd.mk (fun _=>⟨by omega,fun e he=>j4u fun r hr=>Cnd.mk (fun _=>⟨by unfold InI;omega,⟨by omega,by omega,ho',hs',ht',hm⟩,by omega⟩) fun hn=>⟨by omega,fun e2 he2=> ?_⟩⟩) fun _=>⟨by unfold InI;omega,⟨by omega,by omega,ho',hs',ht',hm⟩,by omega⟩⟩) fun _=>⟨⟨ho',hs',by omega⟩,hm⟩
 rw[he] at he2;cases he2
 refine j4y ho' (by omega) fun q hq hmem=>⟨by omega,fun e3 he3=> ?_⟩
 rw[he] at he3;cases he3
 have hin:e.dst∈edges.map Edg.dst:=List.mem_map.2 ⟨e,getm he,rfl⟩
 have hq2: ∀x∈q,x∈edges.map Edg.dst:=fun x hx=>by
  rcases (hmem x).1 hx with hx|rfl
  ·exact hs' x hx
  ·exact hin
 have hlq:=len hq hq2
 have hne:e.dst∉o':=fun hx=>hn (hr.2 hx)
 have hlen:o'.length+1<=q.length:=by
  have h1:(e.dst::o').Nodup:=List.nodup_cons.2 ⟨hne,j89 ho'⟩
  exact w5c h1 fun x hx=>(hmem x).2 (by rcases List.mem_cons.1 hx with rfl|hx<;>simp[*])
 have goal:Sml ([]++t').length/\Sml ([]++t'++[e.dst]).length/\InI (i+1)/\((0<=i+1/\i+1<=edges.length/\Asc q/\(∀x∈q,x∈edges.map Edg.dst)/\([]++t'++[e.dst]).length<=q.length/\2*(edges.length - q.length)+([]++t'++[e.dst]).length<2*(edges.length - o.length)+t.length)/\(edges.length - (i+1)).toNat<(edges.length - i).toNat):=
  ⟨by unfold Sml;simp;omega,by unfold Sml;simp;omega,by unfold InI;omega,⟨by omega,by omega,hq,hq2,by simp;omega,by simp;omega⟩,by omega⟩
 exact⟨goal,goal⟩
end Go.En
end
noncomputable section
set_option maxRecDepth 100000
namespace Go.En
open Go Go.Fl Go.Fl.Lk Go.Fx Go.Dg
theorem w05{nodes:List ByteArray}{edges:List Edg}{K:List ByteArray->Prop}(hN:nodes.length<=100000)(hE:edges.length<=100000)(h: ∀r,Asc r->(∀x∈r,x∈nodes)->K r):z0n nodes edges K:=by
 unfold z0n z54
 refine Lp2.ind (fun (o:List ByteArray) (i:Int)=>0<=i/\i<=nodes.length/\Asc o/\ ∀x∈o,x∈nodes) (fun _ (i:Int)=>(nodes.length - i).toNat) ?_ ⟨by omega,by omega,w3m,by simp⟩
 rintro o i ⟨i0,i1,ho,hs⟩ _
 have hlo:=w3u ho hs
 refine Cnd.mk (fun hc=>⟨by omega,fun n hn=>⟨by omega,fun m hm=>w3v hE fun q _ _=>j4u fun r _=>Cnd.mk (fun _=>⟨by omega,fun p hp=>j4y ho (by omega) fun o' ho' hmem=>⟨by unfold InI;omega,⟨by omega,by omega,ho',fun x hx=> ?_⟩,by omega⟩⟩) fun _=>⟨by unfold InI;omega,⟨by omega,by omega,ho,hs⟩,by omega⟩⟩⟩) fun _=>h o ho hs
 rcases (hmem x).1 hx with hx|rfl
 ·exact hs x hx
 ·exact getm hp
theorem j02{nodes:List ByteArray}{edges:List Edg}{K:ByteArray->Bool->Prop}(hN:nodes.length<=100000)(hE:edges.length<=100000)(hs: ∀x∈nodes,x.size<=100)(h: ∀s b,s.size<=100->K s b):z0o nodes edges K:=by
 unfold z0o z55
 exact w05 hN hE fun r _ hr _=>Cnd.mk (fun _=>h _ _ sz0) fun hc=>⟨by omega,fun y hy=>h _ _ (hs y (hr y (getm hy)))⟩
theorem j8p: ∀(n:Nat) {l:List ByteArray} {e:Ex} {K:List ByteArray->Prop},ExS n e->Asc l->l.length+lim n<=1000000->(∀r,Asc r->r.length<=l.length+lim n->K r)->q7u l e K:=by
 intro n l e K he hl hB h X hX
 induction n using Nat.strongRecOn generalizing l e K with
 |_ n ih=>
 refine hX _ _ _ ?_
 unfold z2p
 have lp:1<=lim n:=by cases n<;>simp[lim]
 refine Jn1.mk (fun r=>Asc r/\r.length<=l.length+1) (Cnd.mk (fun _=>j4y hl (by omega) fun r hr hmem=>⟨hr,?_⟩) fun _=>⟨hl,by omega⟩) fun r hr=> ?_
 ·have:=w3u hr (m:=e.3::l) fun x hx=>by rcases (hmem x).1 hx with hx|rfl<;>simp[*]
  simpa using this
 ·obtain⟨hr,hlen⟩:=hr
  have hk:=he.kids
  cases n with
  |zero=>
   have hk0:e.kids=[]:=he.2.2.2
   refine Lp2.ind (fun (q:List ByteArray) (i:Int)=>q=r/\0<=i) (fun _ _=>0) ?_ ⟨rfl,by omega⟩
   rintro q i ⟨rfl,i0⟩ _
   refine Cnd.mk (fun hc=> ?_) fun _=>h _ hr (by simp[lim];omega)
   rw[hk0]
   exact⟨by rw[hk0] at hc;simp at hc;omega,fun y hy=>by simp at hy⟩
  |succ n=>
  refine Lp2.ind (fun (q:List ByteArray) (i:Int)=>0<=i/\i<=e.kids.length/\Asc q/\q.length<=r.length+i.toNat*lim n) (fun _ (i:Int)=>(e.kids.length - i).toNat) ?_ ⟨by omega,by omega,hr,by simp⟩
  rintro q i ⟨i0,i1,hq,hql⟩ _
  have hle:i.toNat*lim n<=3*lim n:=Nat.mul_le_mul_right _ (by omega)
  have hB:l.length+(1+3*lim n)<=1000000:=hB
  refine Cnd.mk (fun hc=>⟨by omega,fun y hy=> ?_⟩) fun _=>h _ hq (by show q.length<=l.length+(1+3*lim n);omega)
  obtain⟨m,hm,hk⟩:=he.kid (getm hy)
  obtain rfl:m=n:=by omega
  rw[Ju]
  have hle2:i.toNat*lim m<=2*lim m:=Nat.mul_le_mul_right _ (by omega)
  refine ih m (by omega) hk hq (by omega) fun s hs hsl=>⟨by unfold InI;omega,⟨by omega,by omega,hs,?_⟩,by omega⟩
  rw[show (i+1).toNat=i.toNat+1 by omega,Nat.add_mul,Nat.one_mul];omega
theorem j8q{e:Ex}{K:List ByteArray->Prop}(he:ExS 4 e)(h: ∀r,Asc r->r.length<=121->K r):q7v e K:=by
 unfold q7v z2q
 rw[Ju]
 exact j8p 4 he w3m (by decide) fun r hr hl=>h r hr (by rw[lim4] at hl;simpa using hl)
theorem w06{l:List Seg}{K:List Edg->Prop}(hl:l.length<=100)(hs: ∀g∈l,SegS g)(h: ∀r,r.length<=100000->K r):z0m l K:=by
 unfold z0m z52
 refine Lp2.ind (fun (r:List Edg) (i:Int)=>0<=i/\i<=l.length/\r.length<=i.toNat*121) (fun _ (i:Int)=>(l.length - i).toNat) ?_ ⟨by omega,by omega,by simp⟩
 rintro r i ⟨i0,i1,hr⟩ _
 refine Cnd.mk (fun hc=>⟨by omega,fun g hg=> ?_⟩) fun _=>h _ (by omega)
 dsimp only;rw[Ju]
 refine j8q (hs g (getm hg)).cond fun q _ hq=> ?_
 refine Lp2.ind (fun (p:List Edg) (j:Int)=>0<=j/\j<=q.length/\p.length<=r.length+j.toNat) (fun _ (j:Int)=>(q.length - j).toNat) ?_ ⟨by omega,by omega,by simp⟩
 rintro p j ⟨j0,j1,hp⟩ _
 exact Cnd.mk (fun hc=>⟨by omega,fun _ _=>⟨by omega,fun _ _=>⟨by unfold Sml;simp;omega,by unfold InI;omega,⟨by omega,by omega,by simp;omega⟩,by omega⟩⟩⟩) fun _=>⟨by unfold InI;omega,⟨by omega,by omega,by omega⟩,by omega⟩
theorem j67{l:List Decl}{kind name:ByteArray}{K:Int->Prop}(h: ∀r,K r):q37 l kind name K:=by
 unfold q37
 refine Lp1.ind (fun (i:Int)=>0<=i/\i<=l.length) (fun (i:Int)=>(l.length - i).toNat) ?_ ⟨by omega,by omega⟩
 rintro i ⟨i0,i1⟩
 (repeat' (first|exact h _|assumption|(unfold InI;omega)|omega|refine Cnd.mk (fun _=> ?_) fun _=> ?_|refine⟨?_,?_⟩|intro _))
theorem j0j: ∀(n:Nat) {l:List Decl} {segs:List ByteArray} {e:Ex} {K:Int->Prop},ExS n e->(∀r,K r)->q9n l segs e K:=by
 intro n l segs e K he h X hX
 induction n using Nat.strongRecOn generalizing e K with
 |_ n ih=>
 refine hX _ _ _ _ ?_
 unfold j3j
 have lp:Lp1 (fun (Qa:Int) Gy=>e.5.length<=(9223372036854775807:Nat)->Cnd (Qa<(↑e.5.length:Int)) (((0:Int)<=Qa/\Qa<(↑e.5.length:Int))/\ ∀y2,e.5[Qa.toNat]? =some y2->X l segs (Ex.mk y2.1 y2.2 y2.3 y2.4 y2.5) fun Qw=>Cnd (Qw=(0:Int)) (InI (Qa+(1:Int))/\Gy (Qa+(1:Int))) (K Qw)) (K (0:Int))) (0:Int):=by
  refine Lp1.ind (fun (i:Int)=>0<=i/\i<=e.kids.length) (fun (i:Int)=>(e.kids.length - i).toNat) ?_ ⟨by omega,by omega⟩
  rintro i ⟨i0,i1⟩ _
  refine Cnd.mk (fun hc=>⟨by omega,fun y hy=> ?_⟩) fun _=>h _
  obtain⟨m,hm,hk⟩:=he.kid (getm hy)
  rw[Ju]
  exact ih m (by omega) hk fun r=>Cnd.mk (fun _=>⟨by unfold InI;omega,⟨by omega,by omega⟩,by omega⟩) fun _=>h _
 have jn:Jn0 (Lp1 (fun (Qa:Int) Gy=>e.5.length<=(9223372036854775807:Nat)->Cnd (Qa<(↑e.5.length:Int)) (((0:Int)<=Qa/\Qa<(↑e.5.length:Int))/\ ∀y2,e.5[Qa.toNat]? =some y2->X l segs (Ex.mk y2.1 y2.2 y2.3 y2.4 y2.5) fun Qw=>Cnd (Qw=(0:Int)) (InI (Qa+(1:Int))/\Gy (Qa+(1:Int))) (K Qw)) (K (0:Int))) (0:Int)) fun Qa=>Wj e.1 fun Qh=>Cnd (Qh=true) (q37 l e.2 e.3 fun Ql=>Cnd (Ql=(0:Int)) (K (11:Int)) (q6f Ql (Ex.mk e.1 e.2 e.3 e.4 e.5) fun Qn=>Cnd (Qn=true) Qa (K (8:Int)))) Qa:=
  ⟨True,fun _=>lp,q0k fun _ _=>Cnd.mk (fun _=>j67 fun _=>Cnd.mk (fun _=>h _) fun _=>w6u fun _=>Cnd.mk (fun _=>trivial) fun _=>h _) fun _=>trivial⟩
 exact Cnd.mk (fun _=>j4u fun _ _=>Cnd.mk (fun _=>jn) fun _=>h _) fun _=>jn
theorem j42{l:List Decl}{s:Srv}{K:Int->Prop}(h: ∀r,K r):z4i l s K:=by
 unfold z4i z9e
 (repeat' (first|exact h _|refine j67 fun _=> ?_|assumption|(unfold InI;omega)|omega|refine Cnd.mk (fun _=> ?_) fun _=> ?_|refine⟨?_,?_⟩|intro _))
theorem j1y{v:Envt}{f:Flg}{K:Int->Prop}(hv:EnvS v)(hf:FlgS f)(h: ∀r,K r):q04 v f K:=by
 unfold q04 q6j
 have ev:Envt.mk (Sett.mk v.1.1 v.1.2 v.1.3) v.2 v.3 v.4 v.5 v.6=v:=rfl
 rw[ev]
 have hsl:=hv.slen
 have hrl:=hf.rlen
 refine z6r (by omega) ?_
 refine Lp2.ind (fun (i:Int) (_:List ByteArray)=>0<=i/\i<=f.needs.length) (fun (i:Int) _=>(f.needs.length - i).toNat) ?_ ⟨by omega,by omega⟩
 rintro i ks ⟨i0,i1⟩ _
 refine Cnd.mk (fun hc=>⟨by omega,fun q hq=>z8c fun r hr=>Cnd.mk (fun _=>h _) fun hn=>⟨by omega,fun q hq=>⟨?_,fun g hg _=>Cnd.mk (fun _=>h _) fun _=>⟨by unfold InI;omega,⟨by omega,by omega⟩,by omega⟩⟩⟩⟩) fun _=> ?_
 ·rcases hr with ⟨a,_⟩|⟨a,b,_⟩<;>omega
 refine Lp2.ind (fun (i:Int) (_:List ByteArray)=>0<=i/\i<=f.rules.length) (fun (i:Int) _=>(f.rules.length - i).toNat) ?_ ⟨by omega,by omega⟩
 rintro i ks ⟨i0,i1⟩ _
 refine Cnd.mk (fun hc=>⟨by omega,fun r hr=> ?_⟩) fun _=> ?_
 ·dsimp only;rw[Ju]
  exact j0j 4 (hf.rules r (getm hr)).cond fun _=>Cnd.mk (fun _=>⟨by omega,fun r hr=>j42 fun _=>Cnd.mk (fun _=>⟨by unfold InI;omega,⟨by omega,by omega⟩,by omega⟩) fun _=>h _⟩) fun _=>h _
 ·exact j42 fun _=>Cnd.mk (fun _=>q1w (by omega) (fun r hr=>(hf.rules r hr).cond) fun o n b ho=>Cnd.mk (fun _ _=>Cnd.mk (fun _=>h _) fun _=>h _) fun _=>h _) fun _=>h _
theorem z11{v:Envt}{i:Int}{K:Int->Prop}(hv:EnvS v)(i0:0<=i)(i1:i<v.experiments.length)(h: ∀r,K r):Vl v i K:=by
 unfold Vl Hk
 have ev:Envt.mk (Sett.mk v.1.1 v.1.2 v.1.3) v.2 v.3 v.4 v.5 v.6=v:=rfl
 rw[ev]
 have hsl:=hv.slen
 have hxl:=hv.xlen
 refine⟨⟨i0,i1⟩,fun x hx=>q8z fun k hk=>z8c fun g hg=>Cnd.mk (fun _=>h _) fun hk0=>Cnd.mk (fun _=>h _) fun hg0=> ?_⟩
 have hX:=hv.exps x (getm hx)
 have kb:0<=k/\k<(v.layers.length:Int):=by rcases hk with ⟨a,_⟩|⟨a,b,_⟩<;>omega
 have gb:0<=g/\g<(v.flags.length:Int):=by rcases hg with ⟨a,_⟩|⟨a,b,_⟩<;>omega
 refine Lp1.ind (fun (j:Int)=>0<=j/\j<=x.arms.length) (fun (j:Int)=>(x.arms.length - j).toNat) ?_ ⟨by omega,by omega⟩
 rintro j ⟨j0,j1⟩ _
 refine Cnd.mk (fun hc=>⟨by omega,fun _ _=>⟨gb,fun _ _ _=>Cnd.mk (fun _=>h _) fun _=>⟨by unfold InI;omega,⟨by omega,by omega⟩,by omega⟩⟩⟩) fun _=> ?_
 refine z6r (by omega) ?_
 rw[Ju]
 refine j0j 4 hX.cond fun _=>Cnd.mk (fun _=>Cnd.mk (fun _=>h _) fun _=>⟨kb,fun l hl=> ?_⟩) fun _=>h _
 refine Lp3.ind (fun (t:List Spn) (j:Int) (_:List ByteArray)=>0<=j/\j<=v.experiments.length/\(t.length:Int)<=1+j*10000) (fun _ (j:Int) _=>(v.experiments.length - j).toNat) ?_ ⟨by omega,by omega,by simp⟩
 rintro t j ks ⟨j0,j1,ht⟩
 refine Cnd.mk (fun hc=>⟨by omega,fun y hy=> ?_⟩) fun _=>j8l fun c _ _=>Cnd.mk (fun _=>h _) fun _=> ?_
 ·have hcl:=(hv.exps y (getm hy)).claims.len
  exact Cnd.mk (fun _=>Cnd.mk (fun _=>⟨by unfold InI;omega,⟨by omega,by omega,by omega⟩,by omega⟩) fun _=>⟨by unfold Sml;simp;omega,by unfold InI;omega,⟨by omega,by omega,by simp;omega⟩,by omega⟩) fun _=>⟨by unfold InI;omega,⟨by omega,by omega,by omega⟩,by omega⟩
 ·refine Lp4.ind (fun (j:Int) (_ _:List Spn) (_:List ByteArray)=>0<=j/\j<=v.experiments.length) (fun (j:Int) _ _ _=>(v.experiments.length - j).toNat) ?_ ⟨by omega,by omega⟩
  rintro j a b c ⟨j0,j1⟩
  (repeat' (first|exact h _|assumption|(unfold InI;omega)|omega|refine Cnd.mk (fun _=> ?_) fun _=> ?_|refine⟨?_,?_⟩|intro _))
theorem z8d{v:Envt}{K:ByteArray->Int->Prop}(hv:EnvS v)(h: ∀s r,K s r):H5 v K:=by
 unfold H5 q2t
 have hsl:=hv.slen
 have hfl:=hv.flen
 have hxl:=hv.xlen
 have ev:Envt.mk (Sett.mk v.1.1 v.1.2 v.1.3) v.2 v.3 v.4 v.5 v.6=v:=rfl
 rw[ev]
 have s8:(ByteArray.mk (Array.mk [115,101,103,109,101,110,116,32])).size=8:=rfl
 have s5:(ByteArray.mk (Array.mk [102,108,97,103,32])).size=5:=rfl
 have s11:(ByteArray.mk (Array.mk [101,120,112,101,114,105,109,101,110,116,32])).size=11:=rfl
 have sk: ∀x∈v.segments.map Seg.key,x.size<=100:=fun x hx=>by obtain⟨g,hg,rfl⟩:=List.mem_map.1 hx;exact (hv.segs g hg).key
 have fk: ∀x∈v.flags.map Flg.key,x.size<=100:=fun x hx=>by obtain⟨g,hg,rfl⟩:=List.mem_map.1 hx;exact (hv.flags g hg).key
 have nlen:(v.flags.flatMap z08).length<=4*v.flags.length:=by
  have: ∀l:List Flg,(∀f∈l,FlgS f)->(l.flatMap z08).length<=4*l.length:=by
   intro l
   induction l with
   |nil=>simp
   |cons f l ih=>intro hf;have h1:=(hf f (by simp)).nlen;have h2:=ih fun g hg=>hf g (by simp[hg]);simp only[List.flatMap_cons,List.length_append,z08,List.length_map,List.length_cons] at*;omega
  exact this _ hv.flags
 refine j0h hv fun _=>Cnd.mk (fun _=>z6r (by omega) ?_) fun _=>h _ _
 refine Lp2.ind (fun (i:Int) (ks:List ByteArray)=>0<=i/\i<=v.segments.length/\ks=v.segments.map Seg.key) (fun (i:Int) _=>(v.segments.length - i).toNat) ?_ ⟨by omega,by omega,rfl⟩
 rintro i ks ⟨i0,i1,rfl⟩ _
 refine Cnd.mk (fun hc=>⟨by omega,fun g hg=>Cnd.mk (fun _=>⟨by unfold InI;omega,⟨by omega,by omega,rfl⟩,by omega⟩) fun _=>⟨by omega,fun g hg=> ?_⟩⟩) fun _=> ?_
 ·dsimp only;rw[Ju]
  refine j0j 4 (hv.segs g (getm hg)).cond fun _=>Cnd.mk (fun _=>⟨by unfold InI;omega,⟨by omega,by omega,rfl⟩,by omega⟩) fun _=>⟨by omega,fun g hg=>⟨?_,h _ _⟩⟩
  have:=(hv.segs g (getm hg)).key
  rw[s8];omega
 refine w06 (by omega) hv.segs fun es hes=>j02 (by simp;omega) hes sk fun s b hs=>Cnd.mk (fun _=>⟨by rw[s8];omega,h _ _⟩) fun _=> ?_
 refine Lp3.ind (fun (i:Int) (_:List ByteArray) (_:List Edg)=>0<=i/\i<=v.flags.length) (fun (i:Int) _ _=>(v.flags.length - i).toNat) ?_ ⟨by omega,by omega⟩
 rintro i ks es ⟨i0,i1⟩ _
 refine Cnd.mk (fun hc=>⟨by omega,fun f hf=>j1y hv (hv.flags f (getm hf)) fun _=>Cnd.mk (fun _=>⟨by unfold InI;omega,⟨by omega,by omega⟩,by omega⟩) fun _=>⟨by omega,fun g hg=>⟨?_,h _ _⟩⟩⟩) fun _=> ?_
 ·have:=(hv.flags g (getm hg)).key
  rw[s5];omega
 refine j4w (by omega) (j1t (by omega) (fun f hf=>by have:=(hv.flags f hf).nlen;omega) (j02 (by simp;omega) (by omega) fk fun s b hs=>Cnd.mk (fun _=>⟨by rw[s5];omega,h _ _⟩) fun _=> ?_))
 refine Lp5.ind (fun (i:Int) (_:List ByteArray) (_ _:List Edg) (_:List ByteArray)=>0<=i/\i<=v.experiments.length) (fun (i:Int) _ _ _ _=>(v.experiments.length - i).toNat) ?_ ⟨by omega,by omega⟩
 rintro i a b c d ⟨i0,i1⟩ _
 refine Cnd.mk (fun hc=>z11 hv i0 hc fun _=>Cnd.mk (fun _=>⟨by unfold InI;omega,⟨by omega,by omega⟩,by omega⟩) fun _=>⟨by omega,fun x hx=>⟨?_,h _ _⟩⟩) fun _=>h _ _
 have:=(hv.exps x (getm hx)).key
 rw[s11];omega
theorem j03{v:Envt}{K:Bool->Prop}(hv:EnvS v)(h: ∀r,K r):q2u v K:=by
 unfold q2u z56
 exact z8d hv fun _ _=>h _
end Go.En
end
noncomputable section
set_option maxRecDepth 100000
namespace Go.En
open Go Go.Fl Go.Fl.Lk Go.Fx Go.Sg
def sgK:List ByteArray:=[ByteArray.mk (Array.mk [97,108,112,104,97]),ByteArray.mk (Array.mk [98,101,116,97]),ByteArray.mk (Array.mk [103,97,109,109,97])]
structure GS(l:List Seg):Prop where
 keys:l.map Seg.key=sgK.take l.length
 cond: ∀(i:Nat) g,l[i]? =some g->DrE (sgK.take i) 20000 g.5
theorem DrE.le{segs:List ByteArray}{a b:Nat}{e:Ex}(h:DrE segs a e)(hab:a<=b):DrE segs b e:=⟨Nat.le_trans h.wt hab,h.nms,h.ev⟩
theorem DrE.eta{segs:List ByteArray}{w:Nat}{e:Ex}(h:DrE segs w e):DrE segs w (Ex.mk e.1 e.2 e.3 e.4 e.5):=by rw[Ju];exact h
theorem v4q:GS []:=⟨rfl,by simp⟩
theorem v3i{segs:List ByteArray}:DrE segs 20000 (Ex.mk 0 (ByteArray.mk (Array.mk [])) (ByteArray.mk (Array.mk [])) [] []):=
 ⟨by simp[wt,wtV,wtL],fun x hx=>by rw[j64] at hx;rcases hx with ⟨h,_⟩|⟨k,hk,_⟩<;>simp at*,EvB.mk' (by simp) (by simp)⟩
theorem j8r{list:List Int}{at_ hold:Int}{salt hkind:ByteArray}{attrs:List Decl}{flags:List Flg}{layers:List Lay_}{expers:List Exper}
  {K:Int->ByteArray->ByteArray->Int->List Decl->List Seg->List Flg->List Lay_->List Exper->Prop}(hD:DS list at_)
  (h: ∀a segs,DS list a->segs.length<=3->(∀g∈segs,SegS g)->GS segs->K a salt hkind hold attrs segs flags layers expers):q7p list at_ salt hkind hold attrs [] flags layers expers K:=by
 unfold q7p z2h
 refine Qf hD (by decide) fun n a n0 n1 hD=>z8a n0 (by simp only[List.length_cons,List.length_nil];omega) ?_
 rw[show ([ByteArray.mk (Array.mk [97,108,112,104,97]),ByteArray.mk (Array.mk [98,101,116,97]),ByteArray.mk (Array.mk [103,97,109,109,97])]:List ByteArray)=sgK from rfl]
 have nms: ∀s∈List.take n.toNat sgK,s.size<=100:=fun s hs=>by
  have:=List.mem_of_mem_take hs
  have k: ∀s∈sgK,s.size<=100:=by decide
  exact k s this
 have hlen:(List.take n.toNat sgK).length<=3:=by
  rw[List.length_take];have:sgK.length=3:=rfl;omega
 have hfst: ∀i,i<=(List.take n.toNat sgK).length->(List.take n.toNat sgK).take i=sgK.take i:=fun i hi=>by
  rw[List.take_take,Nat.min_eq_left]
  rw[List.length_take] at hi;omega
 generalize List.take n.toNat _=l at nms hlen hfst
 refine Lp3.ind (fun (i a:Int) (gs:List Seg)=>DS list a/\0<=i/\i<=l.length/\(gs.length:Int)=i/\(∀g∈gs,SegS g)/\GS gs) (fun (i:Int) _ _=>(3 - i).toNat) ?_ ⟨hD,Int.le_refl 0,by omega,rfl,by simp,v4q⟩
 rintro i a gs ⟨hD,i0,i1,hl,hg,hgs⟩ _
 refine Cnd.mk (fun hc=>⟨by omega,fun y hy=>z3k hD fun inc a hi1 _ hD=>z3k hD fun exc a he1 _ hD=> ?_⟩) fun _=>h _ _ hD (by omega) hg hgs
 refine Jn2.mk (fun k a=>k.size<=100/\DS list a) (Qf hD (by decide) fun r a r0 r1 hD=>Cnd.mk (fun _=>⟨by decide,hD⟩) fun _=>⟨by decide,hD⟩) fun kind a hx=> ?_
 obtain⟨hkd,hD⟩:=hx
 refine Jn1.mk (fun x=>(ExS 4 (Ex.mk x.1 x.2.1 x.2.2.1 x.2.2.2.1 x.2.2.2.2.1)/\DrE (l.take i.toNat) 20000 (Ex.mk x.1 x.2.1 x.2.2.1 x.2.2.2.1 x.2.2.2.2.1))/\DS list x.2.2.2.2.2.1) (Qf hD (by decide) fun r a r0 r1 hD=>Cnd.mk (fun _=>⟨by omega,?_⟩) fun _=>⟨⟨ExS.le (n:=0) ⟨.nil,⟨sz0,sz0⟩,opl (by simp),rfl⟩ (by omega),v3i⟩,hD⟩) fun x hx=> ?_
 ·exact j0e ((w3o fun s hs=>nms s (List.mem_of_mem_take (List.mem_of_mem_drop hs))).and v0m) 2 (by omega) (by decide) (by decide) hD fun e a he hD=>⟨⟨he.1.eta,(he.2.le (by decide)).eta⟩,hD⟩
 ·have hk:l[i.toNat]? =some y:=hy
  refine⟨by unfold Sml;simp;omega,by unfold InI;omega,⟨hx.2,by omega,by omega,by simp;omega,Jc hg ⟨nms _ (getm hy),hkd,hi1,he1,hx.1.1⟩,?_,fun j g hj=> ?_⟩,by omega⟩
  ·rw[List.map_append,hgs.keys,List.length_append,List.length_singleton,←hfst _ (by omega),←hfst _ (by omega),List.take_add_one,show l[gs.length]? =some y by rw[←hk];congr 1;omega]
   rfl
  ·rcases Nat.lt_or_ge j gs.length with hlt|hge
   ·rw[List.getElem?_append_left hlt] at hj;exact hgs.cond j g hj
   ·rw[List.getElem?_append_right hge] at hj
    have hj0:j=gs.length:=by
     rcases Nat.eq_zero_or_pos (j - gs.length) with h0|h0
     ·omega
     ·rw[List.getElem?_eq_none (by simp;omega)] at hj;cases hj
    subst hj0
    simp only[Nat.sub_self,List.getElem?_cons_zero,Option.some.injEq] at hj
    subst hj
    rw[←hfst _ (by omega),show gs.length=i.toNat by omega]
    exact hx.1.2
end Go.En
end
noncomputable section
set_option maxRecDepth 100000
namespace Go.En
open Go Go.Fl Go.Fl.Lk Go.Fx Go.Dg
theorem j8s{l:List ByteArray}{n:Nat}{p:ByteArray->Prop}(h: ∀x∈l,p x): ∀x∈l.take n,p x:=fun x hx=>h x (List.mem_of_mem_take hx)
theorem w62{ds:List Decl}(hd: ∀d∈ds,d.kind.size<=100/\d.name.size<=100):EnvS (Envt.mk (Sett.mk (ByteArray.mk (Array.mk [])) (ByteArray.mk (Array.mk [])) 0) ds [] [] [] []):=
 ⟨sz0,hd,by simp,by simp,by simp,by simp,by simp,by simp,by simp,by simp⟩
theorem y1b:ExS 4 (Ex.mk 1 (ByteArray.mk (Array.mk [])) (ByteArray.mk (Array.mk [])) [] []):=ExS.le (n:=0) ⟨VsS.nil,⟨sz0,sz0⟩,opl (by simp),rfl⟩ (by decide)
end Go.En
end
noncomputable section
set_option maxRecDepth 100000
namespace Go.En
open Go Go.Fl Go.Fl.Lk Go.Fx Go.Dg
def Cov(l:List Rng):Prop:= ∀b:Int,0<=b->b<10000-> ∃r∈l,r.1<=b/\b<r.2
theorem j04{list:List Int}{at_ n:Int}{K:List Rng->Int->Prop}(hD:DS list at_)(hn:1<=n)(hn':n<=100)(h: ∀l a,SplS n l->Cov l->DS list a->K l a):q54 list at_ n K:=by
 unfold q54 z7b
 have cv1: ∀{l:List Rng} {x y z:Int},(∀b:Int,0<=b->b<x-> ∃r∈l,r.1<=b/\b<r.2)-> ∀b:Int,0<=b->b<y-> ∃r∈l++[Rng.mk x y z],r.1<=b/\b<r.2:=fun {l x y z} hc b h0 h1=>by
  by_cases hb:b<x
  ·obtain⟨r,hr,hh⟩:=hc b h0 hb
   exact⟨r,List.mem_append_left _ hr,hh⟩
  ·exact⟨_,List.mem_append_right _ List.mem_cons_self,by simp only;omega,h1⟩
 refine Jn4.mk (fun l at_ last a=>DS list a/\l.length<=3/\0<=at_/\(∀b:Int,0<=b->b<at_-> ∃r∈l,r.1<=b/\b<r.2)/\ ∀r∈l,0<=r.lo/\r.hi<=10000/\1<=r.variation/\r.variation<=n) ?_ ?_
 ·refine Lp5.ind (fun l at_ last i a=>DS list a/\0<=i/\i<=3/\(l.length:Int)=i/\0<=at_/\at_<=10000/\0<=last/\last<=n/\(∀b:Int,0<=b->b<at_-> ∃r∈l,r.1<=b/\b<r.2)/\ ∀r∈l,0<=r.lo/\r.hi<=10000/\1<=r.variation/\r.variation<=n) (fun _ _ _ i _=>(3 - i).toNat) ?_ ⟨hD,by omega,by omega,rfl,by omega,by omega,by omega,by omega,fun b h0 h1=>by omega,by simp⟩
  rintro l at_ last i a ⟨hD,i0,i1,hl,a0,a1,l0,l1,hcv,hr⟩
  refine Qf hD (by decide) fun q a q0 q1 hD=>Cnd.mk (fun _=>Cnd.mk (fun _=>⟨by unfold InI;omega,Hw hD (by decide) fun w a w0 w1 hD=>⟨by unfold InI;omega,Qf hD hn fun v a v0 v1 hD=>⟨by unfold InI;omega,?_⟩⟩⟩) fun _=> ?_) fun _=> ?_
  ·have m0:=Int.tmod_nonneg n (show 0<=1+v by omega);have m1:=Int.tmod_lt_of_pos (1+v) (b:=n) (by omega)
   refine Jn1.mk (fun v=>1<=v/\v<=n) (Cnd.mk (fun _=>⟨by omega,by unfold InI;omega,by omega,by omega⟩) fun _=>⟨by omega,by omega⟩) fun v hv=>Cnd.mk (fun _=>⟨hD,by omega,a0,hcv,hr⟩) fun _=> ?_
   exact⟨by unfold Sml;simp;omega,by unfold InI;omega,⟨hD,by omega,by omega,by simp;omega,by omega,by omega,by omega,by omega,cv1 hcv,Jc hr ⟨by simp only;omega,by simp only;omega,by simp only;omega,by simp only;omega⟩⟩,by omega⟩
  ·exact⟨hD,by omega,a0,hcv,hr⟩
  ·exact⟨hD,by omega,a0,hcv,hr⟩
 ·rintro l at_ last a ⟨hD,hl,a0,hcv,hr⟩
  refine Qf hD hn fun v a v0 v1 hD=>⟨by unfold InI;omega,?_⟩
  have m0:=Int.tmod_nonneg n (show 0<=1+v by omega);have m1:=Int.tmod_lt_of_pos (1+v) (b:=n) (by omega)
  refine Jn1.mk (fun v=>1<=v/\v<=n) (Cnd.mk (fun _=>⟨by omega,by unfold InI;omega,by omega,by omega⟩) fun _=>⟨by omega,by omega⟩) fun v hv=> ?_
  exact⟨by unfold Sml;simp;omega,h _ _ ⟨by simp;omega,Jc hr ⟨a0,by simp,hv.1,hv.2⟩⟩ (cv1 hcv) hD⟩
structure SrvD(n:Int)(s:Srv):Prop where
 ok:SrvS n s
 cov:s.variation=0->Cov s.split
theorem j05{list:List Int}{at_ n:Int}{K:Srv->Int->Prop}(hD:DS list at_)(hn:1<=n)(hn':n<=100)(h: ∀s a,SrvD n s->DS list a->K s a):q0t list at_ n K:=by
 unfold q0t z7c
 have tt: ∀s∈z2f,s.size<=100:=by decide
 have key:(ByteArray.mk (Array.mk [107,101,121])).size<=100:=by decide
 refine Qf hD (by decide) fun r a r0 r1 hD=>Cnd.mk (fun _=>Qf hD hn fun v a v0 v1 hD=>⟨by unfold InI;omega,h _ _ ⟨⟨sz0,⟨by simp only;omega,by simp only;omega⟩,⟨by simp,by simp⟩,sz0,sz0⟩,fun h0=>by simp only at h0;omega⟩ hD⟩) fun _=> ?_
 refine q4a hD fun t a ht hD=>j04 hD hn hn' fun l a hl hcv hD=>q1t fun ds _ hds=>Qf hD (by decide) fun q a q0 q1 hD _=> ?_
 have usr:(ByteArray.mk (Array.mk [117,115,101,114])).size<=100:=by decide
 have ok: ∀{k b:ByteArray},k.size<=100->b.size<=100->SrvD n (Srv.mk 0 k b t l):=fun hk hb=>⟨⟨hk,⟨by simp,by simp only;omega⟩,hl,hb,tt _ ht⟩,fun _=>hcv⟩
 refine Cnd.mk (fun _=>⟨by omega,fun y hy=>Cnd.mk (fun _=>h _ _ (ok usr key) hD) fun _=>⟨by omega,fun z hz=>⟨by omega,fun u hu=>h _ _ (ok (hds z (getm hz)).1 (hds u (getm hu)).2.1) hD⟩⟩⟩) fun _=>h _ _ (ok usr key) hD
theorem w07{list:List Int}{at_ kind:Int}{K:Val->Int->Prop}(hk0:1<=kind)(hk1:kind<=5)(hD:DS list at_)(h: ∀r a,ValS r->r.kind=kind->DS list a->K r a):G6 list at_ kind K:=by
 unfold G6 z7a
 have tt: ∀s∈z2f,s.size<=100:=by decide
 have tv: ∀s∈z2g,s.size<=100:=by decide
 have tl: ∀l∈j3a,l.length<=10/\ ∀s∈l,s.size<=100:=by decide
 refine Cnd.mk (fun _=> ?_) fun _=>Cnd.mk (fun _=>fun _=> ?_) fun _=>Cnd.mk (fun _=> ?_) fun _=>Cnd.mk (fun _=> ?_) fun _=> ?_
 ·exact Qf hD (by decide) fun r a r0 r1 hD=>h _ _ ⟨by unfold InI;simp only;omega,sz0,by simp,by simp⟩ rfl hD
 ·refine Qf hD (by decide) fun r a r0 r1 hD=>⟨⟨r0,r1⟩,fun y hy=>h _ _ ⟨?_,sz0,by simp,by simp⟩ rfl hD⟩
  have:=getm hy
  have k: ∀y∈[(0:Int),(1:Int),(17:Int),(18:Int),(19:Int),(-5:Int),(64:Int),(1099511627776:Int),(-1099511627776:Int)], -9223372036854775808<=y/\y<=9223372036854775807:=by decide
  exact k y this
 ·exact q4a hD fun r a hr hD=>h _ _ ⟨by unfold InI;simp,tt _ hr,by simp,by simp⟩ rfl hD
 ·exact Qf hD (by decide) fun r a r0 r1 hD=>⟨⟨r0,r1⟩,fun y hy=>h _ _ ⟨by unfold InI;simp,tv _ (getm hy),by simp,by simp⟩ rfl hD⟩
 ·refine Qf hD (by decide) fun r a r0 r1 hD=>⟨⟨r0,r1⟩,fun y hy=> ?_⟩
  obtain⟨a1,a2⟩:=tl _ (getm hy)
  exact⟨by unfold Sml;simp;omega,h _ _ ⟨by unfold InI;simp,sz0,by simpa using a1,by simpa using a2⟩ (by simp only;omega) hD⟩
def flK:List ByteArray:=[ByteArray.mk (Array.mk [102,97]),ByteArray.mk (Array.mk [102,98]),ByteArray.mk (Array.mk [102,99]),ByteArray.mk (Array.mk [102,100])]
def lyK:List ByteArray:=[ByteArray.mk (Array.mk [108,97]),ByteArray.mk (Array.mk [108,98])]
def exK:List ByteArray:=[ByteArray.mk (Array.mk [120,97]),ByteArray.mk (Array.mk [120,98]),ByteArray.mk (Array.mk [120,99])]
structure RulD(n:Int)(r:Rul):Prop where
 cond:DrE sgK 20000 r.cond
 serve:SrvD n r.serve
structure FlgD(prev:List Flg)(f:Flg):Prop where
 kind:1<=f.kind/\f.kind<=5
 kinds: ∀v∈f.variations,v.kind=f.kind
 off:1<=f.off/\f.off<=f.variations.length
 needs: ∀q∈f.needs,∃g∈prev,q.flag=g.key/\1<=q.variation/\q.variation<=g.variations.length
 nsub:(f.needs.map Prq.flag).Sublist (prev.map Flg.key)
 tgts: ∀t∈f.targets,(1<=t.variation/\t.variation<=f.variations.length)/\t.keys.length<=3
 rules: ∀r∈f.rules,RulD f.variations.length r
 dflt:SrvD f.variations.length f.dflt
theorem v3j{l a:List ByteArray}{j:Nat}{k:ByteArray}(h:a.Sublist (l.take j))(hk:l[j]? =some k):(a++[k]).Sublist (l.take (j+1)):=by
 rw[List.take_add_one,hk];exact h.append (List.Sublist.refl _)
theorem v3k{l a:List ByteArray}{j:Nat}(h:a.Sublist (l.take j)):a.Sublist (l.take (j+1)):=by
 rw[List.take_add_one];exact h.trans (List.sublist_append_left _ _)
structure FlgsD(l:List Flg):Prop where
 keys:l.map Flg.key=flK.take l.length
 all: ∀(i:Nat) f,l[i]? =some f->FlgD (l.take i) f
structure ExpD(layers:List Lay_)(flags:List Flg)(x:Exper):Prop where
 cov:Cov x.arms
 cond:DrE sgK 20000 x.cond
 layer: ∃l∈layers,x.layer=l.key
 flag: ∃f∈flags,x.flag=f.key/\ ∀r∈x.arms,1<=r.variation/\r.variation<=f.variations.length
 salt:x.salt.size<=100
structure EnvD(v:Envt):Prop where
 salt:v.settings.salt.size<=100
 gs:GS v.segments
 flags:FlgsD v.flags
 layers:v.layers.map Lay_.key=lyK.take v.layers.length
 exps:(v.experiments.map Exper.key).Sublist exK
 exp: ∀x∈v.experiments,ExpD v.layers v.flags x
 al:v.attributes.length<=100
theorem w08:FlgsD []:=⟨rfl,by simp⟩
theorem w63{l:List Flg}{f:Flg}(h:FlgsD l)(hk:flK[l.length]? =some f.key)(hf:FlgD l f):FlgsD (l++[f]):=by
 refine⟨?_,fun i g hi=> ?_⟩
 ·rw[List.map_append,h.keys,List.length_append,List.length_singleton,List.take_add_one,hk];rfl
 ·rcases Nat.lt_or_ge i l.length with hlt|hge
  ·rw[List.getElem?_append_left hlt] at hi
   rw[List.take_append_of_le_length (by omega)]
   exact h.all i g hi
  ·have:=Qe hi
   rw[List.length_append,List.length_singleton] at this
   have e:i=l.length:=by omega
   subst e
   rw[List.getElem?_append_right (Nat.le_refl _),Nat.sub_self] at hi
   cases hi
   rw[List.take_left' rfl];exact hf
theorem v0t{a b:List ByteArray}{w:Nat}{e:Ex}(h:DrE a w e)(hs: ∀x∈a,x∈b):DrE b w e:=⟨h.wt,fun x hx=>hs x (h.nms x hx),h.ev⟩
theorem w64{ds:List Decl}(hl:ds.length<=100):EnvD (Envt.mk (Sett.mk (ByteArray.mk (Array.mk [])) (ByteArray.mk (Array.mk [])) 0) ds [] [] [] []):=
 ⟨sz0,v4q,w08,rfl,by simp,by simp,hl⟩
theorem v0u{l:List Seg}(h:GS l): ∀s∈l.map Seg.key,s∈sgK:=fun s hs=>by rw[h.keys] at hs;exact List.mem_of_mem_take hs
theorem v6x:DrE sgK 20000 (Ex.mk 1 (ByteArray.mk (Array.mk [])) (ByteArray.mk (Array.mk [])) [] []):=
 ⟨by simp[wt,wtV,wtL],fun x hx=>by rw[j64] at hx;rcases hx with ⟨h,_⟩|⟨k,hk,_⟩<;>simp at*,EvB.mk' (by simp) (by simp)⟩
theorem v4r{l:List ByteArray}{n i:Nat}{y:ByteArray}(h:(l.take n)[i]? =some y):l[i]? =some y:=by
 rw[List.getElem?_take] at h
 split at h
 ·exact h
 ·cases h
theorem j0k{V:Envt->Prop}(hV: ∀(v:Envt) (K:Bool->Prop),EnvS v->(∀b,(b=true->V v)->K b)->q2u v K)(hV0: ∀ds,V (Envt.mk (Sett.mk (ByteArray.mk (Array.mk [])) (ByteArray.mk (Array.mk [])) 0) ds [] [] [] []))
  {list:List Int}{at_ now:Int}{K:Envt->Int->Prop}(hD:DS list at_)(h: ∀v a,EnvS v->EnvD v->V v->DS list a->K v a):Hm list at_ now K:=by
 unfold Hm q6l
 have tt: ∀s∈z2f,s.size<=100:=by decide
 refine q1t fun attrs hal had=> ?_
 have hat: ∀d∈attrs,d.kind.size<=100/\d.name.size<=100:=fun d hd=>⟨(had d hd).1,(had d hd).2.1⟩
 refine Jn1.mk (fun x=>(x.1.size<=100/\x.2.1.size<=100)/\DS list x.2.2.2.1/\x.2.2.2.2.1=attrs) (Qf hD (by decide) fun r a _ _ hD=>Cnd.mk (fun _=>q4a hD fun t a ht hD=>Hw hD (by decide) fun w a _ _ hD=>⟨⟨tt _ ht,(by decide:(ByteArray.mk (Array.mk [117,115,101,114])).size<=100)⟩,hD,rfl⟩) fun _=>⟨⟨sz0,sz0⟩,hD,rfl⟩) ?_
 rintro⟨salt,hkind,hold,a,ds,u⟩ ⟨⟨hslt,hhk⟩,hD,hds⟩
 simp only at hslt hhk hD hds⊢
 subst hds
 refine j8r hD fun a segs hD hsl hsegs hgs=>Qf hD (by decide) fun n a n0 n1 hD=>z8a n0 (by simp only[List.length_cons,List.length_nil];omega) ?_
 have fin: ∀{flags:List Flg} {layers:List Lay_} {exps:List Exper} {a:Int},DS list a->flags.length<=4->(∀f∈flags,FlgS f)->layers.length<=2->(∀l∈layers,LayS l)->exps.length<=3->(∀x∈exps,ExpS x)->FlgsD flags->layers.map Lay_.key=lyK.take layers.length->(exps.map Exper.key).Sublist exK->(∀x∈exps,ExpD layers flags x)->
   q2u (Envt.mk (Sett.mk salt hkind hold) ds segs flags layers exps) fun b=>Cnd (b=true) (K (Envt.mk (Sett.mk salt hkind hold) ds segs flags layers exps) a) (G5 fun ds=>K (Envt.mk (Sett.mk (ByteArray.mk (Array.mk [])) (ByteArray.mk (Array.mk [])) 0) ds [] [] [] []) a):=fun hD h1 h2 h3 h4 h5 h6 e1 e2 e3 e4=>by
  have hv:EnvS (Envt.mk (Sett.mk salt hkind hold) ds segs _ _ _):=⟨hhk,hat,hsl,hsegs,h1,h2,h3,h4,h5,h6⟩
  exact hV _ _ hv fun b hb=>Cnd.mk (fun ht=>h _ _ hv ⟨hslt,hgs,e1,e2,e3,e4,by show ds.length<=100;omega⟩ (hb ht) hD) fun _=>q1t fun ds hal2 had=>h _ _ (w62 fun d hd=>⟨(had d hd).1,(had d hd).2.1⟩) (w64 (by omega)) (hV0 ds) hD
 have nms: ∀s∈List.take n.toNat [ByteArray.mk (Array.mk [102,97]),ByteArray.mk (Array.mk [102,98]),ByteArray.mk (Array.mk [102,99]),ByteArray.mk (Array.mk [102,100])],s.size<=100:=j8s (by decide)
 have hlen:(List.take n.toNat [ByteArray.mk (Array.mk [102,97]),ByteArray.mk (Array.mk [102,98]),ByteArray.mk (Array.mk [102,99]),ByteArray.mk (Array.mk [102,100])]).length<=4:=by
  rw[List.length_take];simp only[List.length_cons,List.length_nil];omega
 have hget: ∀(i:Nat) y,(List.take n.toNat [ByteArray.mk (Array.mk [102,97]),ByteArray.mk (Array.mk [102,98]),ByteArray.mk (Array.mk [102,99]),ByteArray.mk (Array.mk [102,100])])[i]? =some y->flK[i]? =some y:=fun i y hy=>v4r hy
 generalize List.take n.toNat _=l at nms hlen hget
 refine LpH.ind (fun (x:Int×Int×List Flg×List Seg×List Lay_×List Exper×Unit)=>0<=x.1/\x.1<=(l.length:Int)/\DS list x.2.1/\(x.2.2.1.length:Int)=x.1/\(∀f∈x.2.2.1,FlgS f)/\FlgsD x.2.2.1/\x.2.2.2=(segs,[],[],())) (fun x=>((l.length:Int) - x.1).toNat) ?_ ⟨Int.le_refl 0,by simp,hD,rfl,by simp,w08,rfl⟩
 rintro⟨i,a,flags,rest⟩ ⟨i0,i1,hD,hfl,hfs,hfd,hr⟩
 simp only at i0 i1 hD hfl hfs hfd hr⊢
 subst hr
 simp only
 intro _
 refine Cnd.mk (fun hc=>⟨by omega,fun key hkey=> ?_⟩) fun _=> ?_
 ·
  refine Qf hD (by decide) fun kind a k0 k1 hD=>⟨by unfold InI;omega,Qf hD (by decide) fun on a _ _ hD=>Qf hD (by decide) fun m a m0 m1 hD=>⟨by unfold InI;omega,?_⟩⟩
  refine LpH.ind (fun (x:Int×Int×List Val×List Exper×List Lay_×List Flg×List Seg×Unit)=>0<=x.1/\x.1<=1+m/\DS list x.2.1/\(x.2.2.1.length:Int)=x.1/\(∀v∈x.2.2.1,ValS v/\v.kind=1+kind)/\x.2.2.2=([],[],flags,segs,())) (fun x=>(1+m - x.1).toNat) ?_ ⟨Int.le_refl 0,by simp only;omega,hD,rfl,by simp,rfl⟩
  rintro⟨j,a,vals,rest⟩ ⟨j0,j1,hD,hvl,hvs,hr⟩
  simp only at j0 j1 hD hvl hvs hr⊢
  subst hr
  simp only
  refine Cnd.mk (fun hc=>w07 (by omega) (by omega) hD fun v a hv hvk hD=>⟨by unfold Sml;simp;omega,by unfold InI;omega,⟨by omega,by omega,hD,by simp;omega,Jc hvs ⟨hv,hvk⟩,trivial⟩,by omega⟩) fun hc=> ?_
  refine Qf hD (by omega) fun off a o0 o1 hD=>⟨by unfold InI;omega,?_⟩
  have hlv:vals.length=(1+m).toNat:=by omega
  refine LpH.ind (fun (x:Int×List Prq×Int×List Seg×List Flg×List Lay_×List Exper×List Val×Unit)=>0<=x.1/\x.1<=(flags.length:Int)/\((x.2.1.length:Int)<=x.1/\(x.2.1.map Prq.flag).Sublist ((flags.map Flg.key).take x.1.toNat))/\(∀q∈x.2.1,q.flag.size<=100/\ ∃g∈flags,q.flag=g.key/\1<=q.variation/\q.variation<=g.variations.length)/\DS list x.2.2.1/\x.2.2.2=(segs,flags,[],[],vals,())) (fun x=>((flags.length:Int) - x.1).toNat) ?_ ⟨Int.le_refl 0,by simp,⟨by simp,List.nil_sublist _⟩,by simp,hD,rfl⟩
  rintro⟨j,needs,a,rest⟩ ⟨j0,j1,⟨hnl,hsb⟩,hns,hD,hr⟩
  simp only at j0 j1 hnl hsb hns hD hr⊢
  have hj1:(j+1).toNat=j.toNat+1:=by omega
  subst hr
  simp only
  intro _
  refine Cnd.mk (fun hc=>Qf hD (by decide) fun q a _ _ hD=>Cnd.mk (fun _=>⟨by omega,fun y hy=>⟨by omega,fun z hz _=>Qf hD (by have:=(hfs z (getm hz)).vlen;omega) fun w a w0 w1 hD=> ?_⟩⟩) fun _=>⟨by unfold InI;omega,⟨by omega,by omega,⟨by omega,by rw[hj1];exact v3k hsb⟩,hns,hD,trivial⟩,by omega⟩) fun _=> ?_
  ·have:=(hfs z (getm hz)).vlen
   exact⟨by unfold InI;omega,by unfold Sml;simp;omega,by unfold InI;omega,⟨by omega,by omega,⟨by simp;omega,by rw[hj1,List.map_append];exact v3j hsb (by rw[List.getElem?_map,hy];rfl)⟩,Jc hns ⟨(hfs y (getm hy)).key,z,getm hz,by rw[hy] at hz;rw[Option.some.inj hz],by simp only;omega,by simp only;omega⟩,hD,trivial⟩,by omega⟩
  have hnl4:needs.length<=4:=by omega
  have hsb:=hsb.trans (List.take_sublist _ _)
  refine LpH.ind (fun (x:Int×List Tgt×Int×List Val×List Exper×List Lay_×List Flg×List Seg×List Prq×Unit)=>0<=x.1/\x.1<=3/\(x.2.1.length:Int)<=x.1/\(∀t∈x.2.1,t.kind.size<=100/\(1<=t.variation/\t.variation<=1+m)/\t.keys.length<=3)/\DS list x.2.2.1/\x.2.2.2=(vals,[],[],flags,segs,needs,())) (fun x=>(3 - x.1).toNat) ?_ ⟨Int.le_refl 0,by simp,by simp,by simp,hD,rfl⟩
  rintro⟨j,tgts,a,rest⟩ ⟨j0,j1,htl,hts,hD,hr⟩
  simp only at j0 j1 htl hts hD hr⊢
  subst hr
  simp only
  refine Qf hD (by decide) fun q a q0 q1 hD=>Cnd.mk (fun hc=>Qf hD (by omega) fun w a w0 w1 hD=>⟨by unfold InI;omega,z3k hD fun ks a hks _ hD=> ?_⟩) fun _=> ?_
  ·refine Jn1.mk (fun x=>x.1.size<=100/\DS list x.2.1/\x.2.2=(ks,needs,segs,flags,[],[],vals,tgts,())) (Qf hD (by decide) fun r a _ _ hD=>Cnd.mk (fun _=>⟨(by decide:(ByteArray.mk (Array.mk [100,101,118,105,99,101])).size<=100),hD,rfl⟩) fun _=>⟨(by decide:(ByteArray.mk (Array.mk [117,115,101,114])).size<=100),hD,rfl⟩) ?_
   rintro⟨kd,a,rest⟩ ⟨hkd,hD,hr⟩
   simp only at hkd hD hr⊢
   subst hr
   simp only
   exact fun _=>Cnd.mk (fun _=>⟨by unfold Sml;simp;omega,by unfold InI;omega,⟨by omega,by omega,by simp;omega,Jc hts ⟨hkd,⟨by simp only;omega,by simp only;omega⟩,hks⟩,hD,trivial⟩,by omega⟩) fun _=>⟨by unfold InI;omega,⟨by omega,by omega,by omega,hts,hD,trivial⟩,by omega⟩
  refine Jn1.mk (fun (x:Int×List Rul×List ByteArray×List Prq×List Seg×List Flg×List Lay_×List Exper×List Val×List Tgt×Unit)=>DS list x.1/\x.2.1.length<=4/\(∀r∈x.2.1,RulS (1+m) r/\RulD (1+m) r)/\x.2.2.2=(needs,segs,flags,[],[],vals,tgts,())) ?_ ?_
  case refine_2=>
   rintro⟨a,rules,names,rest⟩ ⟨hD,hrl,hrs,hr⟩
   simp only at hD hrl hrs hr⊢
   subst hr
   simp only
   refine j05 hD (by omega) (by omega) fun s a hs hD=>⟨by unfold Sml;simp;omega,by unfold InI;omega,⟨by omega,by omega,hD,by simp;omega,Jc hfs ?_,w63 hfd ?_ ?_,trivial⟩,by omega⟩
   all_goals have hvm:(vals.length:Int)=1+m:=by omega
   ·exact⟨nms key (getm hkey),⟨by simp only;omega,by simp only;omega⟩,fun v hv=>(hvs v hv).1,hnl4,fun q hq=>(hns q hq).1,by simp only;omega,fun t ht=>(hts t ht).1,hrl,by rw[hvm];exact fun r hr=>(hrs r hr).1,by rw[hvm];exact hs.ok⟩
   ·rw[←hget _ _ hkey];congr 1;omega
   ·exact⟨⟨by simp only;omega,by simp only;omega⟩,fun v hv=>(hvs v hv).2,⟨by simp only;omega,by simp only;omega⟩,fun q hq=>(hns q hq).2,hsb,fun t ht=>by simp only;rw[hvm];exact (hts t ht).2,fun r hr=>by simp only;rw[hvm];exact (hrs r hr).2,by simp only;rw[hvm];exact hs⟩
  have nm4: ∀s∈([ByteArray.mk (Array.mk [102,105,114,115,116]),ByteArray.mk (Array.mk [115,101,99,111,110,100]),ByteArray.mk (Array.mk [116,104,105,114,100]),ByteArray.mk (Array.mk [102,111,117,114,116,104])]:List ByteArray),s.size<=100:=by decide
  have nl4:([ByteArray.mk (Array.mk [102,105,114,115,116]),ByteArray.mk (Array.mk [115,101,99,111,110,100]),ByteArray.mk (Array.mk [116,104,105,114,100]),ByteArray.mk (Array.mk [102,111,117,114,116,104])]:List ByteArray).length=4:=rfl
  generalize ([ByteArray.mk (Array.mk [102,105,114,115,116]),ByteArray.mk (Array.mk [115,101,99,111,110,100]),ByteArray.mk (Array.mk [116,104,105,114,100]),ByteArray.mk (Array.mk [102,111,117,114,116,104])]:List ByteArray)=ns4 at nm4 nl4⊢
  refine LpH.ind (fun (x:Int×Int×List Rul×List ByteArray×List Prq×List Seg×List Flg×List Lay_×List Exper×List Val×List Tgt×Unit)=>0<=x.1/\x.1<=4/\DS list x.2.1/\(x.2.2.1.length:Int)=x.1/\(∀r∈x.2.2.1,RulS (1+m) r/\RulD (1+m) r)/\x.2.2.2=(ns4,needs,segs,flags,[],[],vals,tgts,())) (fun x=>(4 - x.1).toNat) ?_ ⟨Int.le_refl 0,by simp,hD,rfl,by simp,rfl⟩
  rintro⟨j,a,rules,rest⟩ ⟨j0,j1,hD,hrl,hrs,hr⟩
  simp only at j0 j1 hD hrl hrs hr⊢
  subst hr
  simp only
  refine Qf hD (by decide) fun q a q0 q1 hD=>Cnd.mk (fun hc=>⟨by rw[nl4];omega,fun y hy=> ?_⟩) fun _=>⟨hD,by omega,hrs,trivial⟩
  refine q4q (by simp only;omega) (j0e ((w3o fun s hs=> ?_).and v0m) 2 (by omega) (by decide) (by decide) hD fun e a he hD=>j05 hD (by omega) (by omega) fun s a hs hD=>⟨by unfold Sml;simp;omega,?_⟩)
  ·obtain⟨g,hg,rfl⟩:=List.mem_map.1 hs;exact (hsegs g hg).key
  have hrs':=Jc hrs (x:=Rul.mk y (Ex.mk e.1 e.2 e.3 e.4 e.5) s) ⟨⟨nm4 y (getm hy),he.1.eta,hs.ok⟩,v0t (he.2.le (by decide)).eta (v0u hgs),hs⟩
  have hl':(rules++[Rul.mk y (Ex.mk e.1 e.2 e.3 e.4 e.5) s]).length=rules.length+1:=by simp
  have cut: ∀r∈List.take (((rules++[Rul.mk y (Ex.mk e.1 e.2 e.3 e.4 e.5) s]).length:Int) - 1).toNat (rules++[Rul.mk y (Ex.mk e.1 e.2 e.3 e.4 e.5) s]),RulS (1+m) r/\RulD (1+m) r:=fun r hr=>hrs' r (List.mem_of_mem_take hr)
  generalize rules++[Rul.mk y (Ex.mk e.1 e.2 e.3 e.4 e.5) s]=rs at hrs' hl' cut⊢
  refine q1w (by omega) (fun r hr=>(hrs' r hr).1.cond) fun o n b ho=>Cnd.mk (fun _ _=>Cnd.mk (fun _ _=>⟨by unfold InI;omega,by omega,hD,by simp only[List.length_take];omega,cut,trivial⟩) fun _=>⟨by unfold InI;omega,⟨by omega,by omega,hD,by omega,hrs',trivial⟩,by omega⟩) fun _ _=>⟨by unfold InI;omega,by omega,hD,by simp only[List.length_take];omega,cut,trivial⟩
 ·
  refine Qf hD (by decide) fun n a n0 n1 hD=>z8a n0 (by simp only[List.length_cons,List.length_nil];omega) ?_
  have nms: ∀s∈List.take n.toNat [ByteArray.mk (Array.mk [108,97]),ByteArray.mk (Array.mk [108,98])],s.size<=100:=j8s (by decide)
  have hlen:(List.take n.toNat [ByteArray.mk (Array.mk [108,97]),ByteArray.mk (Array.mk [108,98])]).length<=2:=by
   rw[List.length_take];simp only[List.length_cons,List.length_nil];omega
  have hgetl: ∀(i:Nat) y,(List.take n.toNat [ByteArray.mk (Array.mk [108,97]),ByteArray.mk (Array.mk [108,98])])[i]? =some y->lyK[i]? =some y:=fun i y hy=>v4r hy
  generalize List.take n.toNat _=ls at nms hlen hgetl
  have hf4:flags.length<=4:=by omega
  refine LpH.ind (fun (x:Int×Int×List Lay_×List Exper×List Seg×List Flg×Unit)=>0<=x.1/\x.1<=(ls.length:Int)/\DS list x.2.1/\(x.2.2.1.length:Int)=x.1/\(∀f∈x.2.2.1,LayS f)/\x.2.2.1.map Lay_.key=lyK.take x.2.2.1.length/\x.2.2.2=([],segs,flags,())) (fun x=>((ls.length:Int) - x.1).toNat) ?_ ⟨Int.le_refl 0,by simp,hD,rfl,by simp,rfl,rfl⟩
  rintro⟨j,a,layers,rest⟩ ⟨j0,j1,hD,hll,hls,hlk,hr⟩
  simp only at j0 j1 hD hll hls hlk hr⊢
  subst hr
  simp only
  intro _
  refine Cnd.mk (fun hc=>⟨by omega,fun y hy=>w6s hD (nms y (getm hy)) fun l a hl hky hD=>⟨by unfold Sml;simp;omega,by unfold InI;omega,⟨by omega,by omega,hD,by simp;omega,Jc hls hl,by rw[List.map_append,hlk,List.length_append,List.length_singleton,List.take_add_one,←show j.toNat=layers.length by omega,hgetl _ _ hy,←hky];rfl,trivial⟩,by omega⟩⟩) fun _=> ?_
  refine Qf hD (by decide) fun n a n0 n1 hD=>z8a n0 (by simp only[List.length_cons,List.length_nil];omega) ?_
  have nmx: ∀s∈List.take n.toNat [ByteArray.mk (Array.mk [120,97]),ByteArray.mk (Array.mk [120,98]),ByteArray.mk (Array.mk [120,99])],s.size<=100:=j8s (by decide)
  have hxen:(List.take n.toNat [ByteArray.mk (Array.mk [120,97]),ByteArray.mk (Array.mk [120,98]),ByteArray.mk (Array.mk [120,99])]).length<=3:=by
   rw[List.length_take];simp only[List.length_cons,List.length_nil];omega
  have hgetx:List.take n.toNat [ByteArray.mk (Array.mk [120,97]),ByteArray.mk (Array.mk [120,98]),ByteArray.mk (Array.mk [120,99])]|>.Sublist exK:=List.take_sublist _ _
  generalize List.take n.toNat _=xs at nmx hxen hgetx
  have hl2:layers.length<=2:=by omega
  refine LpH.ind (fun (x:Int×Int×List Exper×List Flg×List Seg×List Lay_×Unit)=>0<=x.1/\x.1<=(xs.length:Int)/\DS list x.2.1/\(x.2.2.1.length:Int)<=x.1/\(∀f∈x.2.2.1,ExpS f)/\(x.2.2.1.map Exper.key).Sublist (xs.take x.1.toNat)/\(∀f∈x.2.2.1,ExpD layers flags f)/\x.2.2.2=(flags,segs,layers,())) (fun x=>((xs.length:Int) - x.1).toNat) ?_ ⟨Int.le_refl 0,by simp,hD,by simp,by simp,by simp,by simp,rfl⟩
  rintro⟨k,a,exps,rest⟩ ⟨k0,k1,hD,hxl,hxs,hxk,hxd,hr⟩
  simp only at k0 k1 hD hxl hxs hxk hxd hr⊢
  subst hr
  simp only
  intro _
  have hfin:=fun {a:Int} (hD:DS list a)=>fin (flags:=flags) (layers:=layers) (exps:=exps) hD hf4 hfs hl2 hls (by omega) hxs hfd hlk ((hxk.trans (List.take_sublist _ _)).trans hgetx) hxd
  refine Cnd.mk (fun hc _=>Cnd.mk (fun hfl0 _=>Cnd.mk (fun hll0=>⟨by omega,fun y hy _=> ?_⟩) fun _=>hfin hD) fun _=>hfin hD) fun _=>hfin hD
  refine Qf hD (by omega) fun q a q0 q1 hD=>⟨by omega,fun f hf _ hfv=>Qf hD (by omega) fun q' a q0' q1' hD=>⟨by omega,fun l hl=>q4a hD fun t a ht hD=>Qf hD (by decide) fun u a u0 u1 hD=>⟨by unfold InI;omega,?_⟩⟩⟩
  have hF:=hfs f (getm hf)
  have hL:=hls l (getm hl)
  have hv1:=hF.vlen
  refine j04 hD (by omega) (by omega) fun arms a harms hcov hD=> ?_
  refine Jn1.mk (fun (x:Int×Int×List Rng×List Exper×List Lay_×List Flg×List Seg×Unit)=>DS list x.2.1/\x.2.2=(arms,exps,layers,flags,segs,())) (Cnd.mk (fun _=>Qf hD (by decide) fun r a _ _ hD=>Cnd.mk (fun _=>⟨hD,rfl⟩) fun _=>⟨hD,rfl⟩) fun _=>⟨hD,rfl⟩) ?_
  rintro⟨state,a,rest⟩ ⟨hD,hr⟩
  simp only at hD hr⊢
  subst hr
  simp only
  refine Jn1.mk (fun (x:Int×ByteArray×ByteArray×List Val×List Ex×Int×List Seg×List Flg×List Lay_×List Exper×List Rng×Unit)=>(ExS 4 (Ex.mk x.1 x.2.1 x.2.2.1 x.2.2.2.1 x.2.2.2.2.1)/\DrE sgK 20000 (Ex.mk x.1 x.2.1 x.2.2.1 x.2.2.2.1 x.2.2.2.2.1))/\DS list x.2.2.2.2.2.1/\x.2.2.2.2.2.2=(segs,flags,layers,exps,arms,())) (Qf hD (by decide) fun r a _ _ hD=>Cnd.mk (fun _=>q4q (by simp only;omega) (j0e ((w3o fun s hs=> ?_).and v0m) 2 (by omega) (by decide) (by decide) hD fun e a he hD=>⟨⟨he.1.eta,v0t (he.2.le (by decide)).eta (v0u hgs)⟩,hD,rfl⟩)) fun _=>⟨⟨y1b,v6x⟩,hD,rfl⟩) ?_
  ·obtain⟨g,hg,rfl⟩:=List.mem_map.1 hs;exact (hsegs g hg).key
  rintro⟨e1,e2,e3,e4,e5,a,rest⟩ ⟨he,hD,hr⟩
  simp only at he hD hr⊢
  subst hr
  simp only
  refine w3t fun sp _ _=>Hw hD (by decide) fun w a _ _ hD=>Hw hD (by decide) fun w' a _ _ hD=>j0y fun sq _=>Hw hD (by decide) fun w2 a w20 w21 hD=>j0z (by omega) fun cl hcl=> ?_
  have hxs':=Jc hxs (x:=Exper.mk y l.1 f.1 t state cl arms (Ex.mk e1 e2 e3 e4 e5)) ⟨nmx y (getm hy),hL.key,hF.key,hcl,⟨harms.1,fun r hr=>by obtain⟨p,q,s,t⟩:=harms.2 r hr;exact⟨p,q,s,by omega⟩⟩,he.1⟩
  have hxd':=Jc hxd (x:=Exper.mk y l.1 f.1 t state cl arms (Ex.mk e1 e2 e3 e4 e5)) ⟨hcov,he.2,⟨l,getm hl,rfl⟩,⟨f,getm hf,rfl,fun r hr=>by obtain⟨_,_,s,t⟩:=harms.2 r hr;exact⟨s,t⟩⟩,tt _ ht⟩
  have hyk:xs[k.toNat]? =some y:=hy
  have hxk':((exps++[Exper.mk y l.1 f.1 t state cl arms (Ex.mk e1 e2 e3 e4 e5)]).map Exper.key).Sublist (xs.take (k+1).toNat):=by
   rw[List.map_append,show (k+1).toNat=k.toNat+1 by omega,List.take_add_one,hyk]
   exact hxk.append (List.Sublist.refl _)
  have hl':(exps++[Exper.mk y l.1 f.1 t state cl arms (Ex.mk e1 e2 e3 e4 e5)]).length=exps.length+1:=by simp
  have cut: ∀r∈List.take (((exps++[Exper.mk y l.1 f.1 t state cl arms (Ex.mk e1 e2 e3 e4 e5)]).length:Int) - 1).toNat (exps++[Exper.mk y l.1 f.1 t state cl arms (Ex.mk e1 e2 e3 e4 e5)]),ExpS r:=fun r hr=>hxs' r (List.mem_of_mem_take hr)
  have cutd: ∀r∈List.take (((exps++[Exper.mk y l.1 f.1 t state cl arms (Ex.mk e1 e2 e3 e4 e5)]).length:Int) - 1).toNat (exps++[Exper.mk y l.1 f.1 t state cl arms (Ex.mk e1 e2 e3 e4 e5)]),ExpD layers flags r:=fun r hr=>hxd' r (List.mem_of_mem_take hr)
  have cutk:((List.take (((exps++[Exper.mk y l.1 f.1 t state cl arms (Ex.mk e1 e2 e3 e4 e5)]).length:Int) - 1).toNat (exps++[Exper.mk y l.1 f.1 t state cl arms (Ex.mk e1 e2 e3 e4 e5)])).map Exper.key).Sublist (xs.take (k+1).toNat):=((List.take_sublist _ _).map _).trans hxk'
  generalize exps++[Exper.mk y l.1 f.1 t state cl arms (Ex.mk e1 e2 e3 e4 e5)]=xs' at hxs' hl' cut hxd' hxk' cutd cutk⊢
  have hv:EnvS (Envt.mk (Sett.mk salt hkind hold) ds segs flags layers xs'):=⟨hhk,hat,hsl,hsegs,hf4,hfs,hl2,hls,by simp only;omega,hxs'⟩
  refine⟨by unfold Sml;omega,j03 hv fun b=>Cnd.mk (fun _=>⟨by unfold InI;omega,⟨by omega,by omega,hD,by omega,hxs',hxk',hxd',trivial⟩,by omega⟩) fun _ _=>⟨by unfold InI;omega,by omega,by unfold InI;omega,⟨by omega,by omega,hD,by simp only[List.length_take];omega,cut,cutk,cutd,trivial⟩,by omega⟩⟩
theorem z8e{list:List Int}{at_ now:Int}{K:Envt->Int->Prop}(hD:DS list at_)(h: ∀v a,EnvS v->EnvD v->DS list a->K v a):Hm list at_ now K:=
 j0k (V:=fun _=>True) (fun _ _ hv h=>j03 hv fun b=>h b fun _=>trivial) (fun _=>trivial) hD fun v a h1 h2 _ h3=>h v a h1 h2 h3
end Go.En
end
