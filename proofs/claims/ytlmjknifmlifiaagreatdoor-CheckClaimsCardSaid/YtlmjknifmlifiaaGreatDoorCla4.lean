/- CheckClaims This is part 4 of 11. Conditions: those in the statements. -/
import Derived.Test.YtlmjknifmlifiaaGreatDoorProg
import Derived.Test.YtlmjknifmlifiaaGreatDoorCla3
import Derived.Lib.ValidU
import Derived.KernelRfl
import Derived.Conc.MuLone
import Derived.Shelf.Small.Bits
import Derived.Shelf.Small.Strs
import Derived.Shelf.Utf8.RuneCount
import Derived.Shelf.Strconv.Atoi
import Derived.Shelf.Strconv.Itoa0
import Derived.Shelf.Strconv.Itoa1
import Derived.Shelf.LaysM
import Derived.Shelf.Strconv.Itoa2
import Derived.Shelf.Strconv.Itoa3
import Derived.Shelf.Strconv.AtoiErrFast
import Derived.Shelf.Strconv.ParseIntEmpty
import Derived.Shelf.Strconv.AtoiFail
import Derived.Shelf.Strconv.Clone
import Derived.Shelf.Strconv.SyntaxError
import Derived.Shelf.LaysC
import Derived.Shelf.Strconv.ToError
import Derived.Shelf.Strconv.Lower
import Derived.Shelf.Strconv.ParseUint10
import Derived.Shelf.Strconv.ParseUint10Empty
import Derived.Shelf.Strconv.ParseUint10Any
import Derived.Shelf.Strconv.ParseInt10
import Derived.Shelf.Strconv.AtoiLong
import Derived.Shelf.Strconv.AtoiInnerAll
import Derived.Shelf.Strconv.RangeError
import Derived.Shelf.Strconv.ToErrorRange
import Derived.Shelf.Strconv.AtoiAll
import Derived.Shelf.Strconv.ErrVarAll
import Derived.Shelf.Strings.Search1
import Derived.Shelf.Strings.Search2
import Derived.Shelf.Strings.Search3
import Derived.Shelf.Strings.Count
import Derived.Shelf.Strings.Shaped
import Derived.Shelf.Sort.Plain
import Derived.Shelf.Strings.Split
import Derived.Shelf.Strings.Fields
import Derived.Shelf.Strings.SplitShaped
import Derived.Shelf.Unicode.Latin
import Derived.Shelf.Unicode.Decode
import Derived.Shelf.Strings.RuneCount
import Derived.Shelf.Strings.Explode
import Derived.Shelf.Unicode.DecodeSlow
import Derived.Shelf.Unicode.DecodeAny
import Derived.Shelf.Unicode.Is16White
import Derived.Shelf.Unicode.IsSpaceAny
import Derived.Shelf.Unicode.Is16Any
import Derived.Shelf.Unicode.Is32Any
import Derived.Shelf.Unicode.ExclAny
import Derived.Ground.Names2Prog
import Derived.Shelf.Slices.Clone
import Derived.Shelf.Slices.CompactS
import Derived.Shelf.Slices.SearchI
import Derived.Shelf.Slices.Cells
import Derived.Shelf.Slices.In.SortNone
import Derived.Ground.SlgnProg
import Derived.Shelf.SlicesE.Clone
import Derived.Ground.NamesProg
import Derived.Shelf.Unicode.ValidAny
import Derived.Shelf.SlIter.Sorted
import Derived.Ground.GgzProg
import Derived.Shelf.SlIter.Collect
import Derived.WalkKit
import Derived.OwnWalkIn
import Derived.TacticsInMore
import Derived.LoopNIn
import Derived.LoopIn
import Derived.RangeFuncLeaves
set_option maxRecDepth 100000
noncomputable section
open Go Go.RowKit Go.Fl Go.Fl.Lk Go.Fx
namespace Go.En
abbrev z2n:=Int->(Bool->Prop)->Prop
def B4:z2n:=fun op K=>Cnd ((6:Int)<=op) (K (decide (op<=15))) (K false)
abbrev J3:=List BA->List BA->(Bool->Prop)->Prop
def J4:J3:=fun s1 s2 K=>Fits s1->Fits s2->Cnd ((↑s1.length:Int)=(↑s2.length:Int)) (Fits s1->Lp1 (fun Qo z2a=>CAt s1 Qo (fun y4=>At s2 Qo fun y6=>Cnd (y4=y6) (InI (Qo+1)/\z2a (Qo+1)) (K false)) (K true)) (0:Int)) (K false)
abbrev q9q:=Val->Val->(Bool->Prop)->Prop
def z48(J6:J3):q9q:=fun a b K=>Cnd (a.1=b.1) (Cnd (a.2=b.2) (Cnd (a.3=b.3) (J6 a.4 b.4 fun Qb=>K Qb) (K false)) (K false)) (K false)
def q15:q9q:=z48 J4
abbrev q1q:=Ex->Ex->(Bool->Prop)->Prop
def z9b(w72:q9q)(X:q1q):q1q:=fun a b K=>Cnd (a.1=b.1) (Cnd (a.2=b.2) (Cnd (a.3=b.3) (Fits a.4->Fits b.4->Cnd ((↑a.4.length:Int)=(↑b.4.length:Int)) (Fits a.4->Lp1 (fun Qo z2a=>CAt a.4 Qo (fun y4=>At b.4 Qo fun y6=>w72 y4 y6 fun Zu=>Cnd (Zu=true) (InI (Qo+1)/\z2a (Qo+1)) (K false)) (Fits a.5->Fits b.5->Cnd ((↑a.5.length:Int)=(↑b.5.length:Int)) (Fits a.5->Lp1 (fun Z2 y9d=>CAt a.5 Z2 (fun y8=>At b.5 Z2 fun y10=>X (Ex.mk y8.1 y8.2 y8.3 y8.4 y8.5) (Ex.mk y10.1 y10.2 y10.3 y10.4 y10.5) fun Q3=>Cnd (Q3=true) (InI (Z2+1)/\y9d (Z2+1)) (K false)) (K true)) (0:Int)) (K false))) (0:Int)) (K false)) (K false)) (K false)) (K false)
def Wx:q1q:=fun a b K=> ∀X:q1q,(∀a b K,z9b q15 X a b K->X a b K)->X a b K
abbrev Gg:=List Ex->Ex->(List Ex->Prop)->Prop
def q45(w4y:z2n)(z39:q1q)(X:Gg):Gg:=fun l e K=>Jn1 (fun Qb=>Fits e.5->Lp2 (fun Qk Zq q2g=>CAt e.5 Zq (fun y3=>X Qk (Ex.mk y3.1 y3.2 y3.3 y3.4 y3.5) fun Qx=>InI (Zq+1)/\q2g Qx (Zq+1)) (K Qk)) Qb (0:Int)) fun z0f=>w4y e.1 fun Qh=>Cnd (Qh=true) (Fits l->Lp1 (fun Qo z2a=>CAt l Qo (fun y4=>z39 (Ex.mk y4.1 y4.2 y4.3 y4.4 y4.5) (Ex.mk e.1 e.2 e.3 e.4 e.5) fun Q1=>Cnd (Q1=true) (Cnd ((0:Int)<=Qo) (z0f l) (Sml (l++[Ex.mk e.1 e.2 e.3 e.4 e.5]).length/\z0f (l++[Ex.mk e.1 e.2 e.3 e.4 e.5]))) (InI (Qo+1)/\z2a (Qo+1))) (Cnd ((0:Int)<=(-1:Int)) (z0f l) (Sml (l++[Ex.mk e.1 e.2 e.3 e.4 e.5]).length/\z0f (l++[Ex.mk e.1 e.2 e.3 e.4 e.5])))) (0:Int)) (Cnd (e.1=5) (Fits l->Lp1 (fun Qo z2a=>CAt l Qo (fun y4=>z39 (Ex.mk y4.1 y4.2 y4.3 y4.4 y4.5) (Ex.mk e.1 e.2 e.3 e.4 e.5) fun Q1=>Cnd (Q1=true) (Cnd ((0:Int)<=Qo) (z0f l) (Sml (l++[Ex.mk e.1 e.2 e.3 e.4 e.5]).length/\z0f (l++[Ex.mk e.1 e.2 e.3 e.4 e.5]))) (InI (Qo+1)/\z2a (Qo+1))) (Cnd ((0:Int)<=(-1:Int)) (z0f l) (Sml (l++[Ex.mk e.1 e.2 e.3 e.4 e.5]).length/\z0f (l++[Ex.mk e.1 e.2 e.3 e.4 e.5])))) (0:Int)) (z0f l))
def q00:Gg:=fun l e K=> ∀X:Gg,(∀l e K,q45 B4 Wx X l e K->X l e K)->X l e K
abbrev z2o:=Val->(Val->Prop)->Prop
def B5:z2o:=fun v K=> ∀n0,(n0=true->v.4=[])->Cnd (n0=true) (K (Val.mk v.1 v.2 v.3 [])) (Sml ([]++v.4).length/\K (Val.mk v.1 v.2 v.3 ([]++v.4)))
abbrev R6:=Ex->(Ex->Prop)->Prop
def z5a(w4z:z2o)(X:R6):R6:=fun e K=>Fits e.4->((0:Int)<=(0:Int)/\(0:Int)<=(↑e.4.length:Int)/\Sml (↑e.4.length:Int).toNat)/\(Fits e.4->Lp2 (fun Qk Zq q2g=>CAt e.4 Zq (fun y3=>w4z y3 fun Qx=>Sml (Qk++[Qx]).length/\InI (Zq+1)/\q2g (Qk++[Qx]) (Zq+1)) (Fits e.5->((0:Int)<=(0:Int)/\(0:Int)<=(↑e.5.length:Int)/\Sml (↑e.5.length:Int).toNat)/\(Fits e.5->Lp2 (fun Qx q41 v0n=>CAt e.5 q41 (fun y6=>X (Ex.mk y6.1 y6.2 y6.3 y6.4 y6.5) fun Zu=>Sml (Qx++[Ex.mk Zu.1 Zu.2 Zu.3 Zu.4 Zu.5]).length/\InI (q41+1)/\v0n (Qx++[Ex.mk Zu.1 Zu.2 Zu.3 Zu.4 Zu.5]) (q41+1)) (K (Ex.mk e.1 e.2 e.3 Qk Qx))) (List.replicate (Int.toNat (0:Int)) (Ex.mk (0:Int) (B8 []) (B8 []) [] [])) (0:Int)))) (List.replicate (Int.toNat (0:Int)) (Val.mk (0:Int) (0:Int) (B8 []) [])) (0:Int))
def q9r:R6:=fun e K=> ∀X:R6,(∀e K,z5a B5 X e K->X e K)->X e K
abbrev Gh:=Ex->(List Ex->Prop)->Prop
def q01(q5e:Gg)(z0g:R6):Gh:=fun e K=>q5e [] (Ex.mk e.1 e.2 e.3 e.4 e.5) fun Qb=>Fits Qb->((0:Int)<=(0:Int)/\(0:Int)<=(↑Qb.length:Int)/\Sml (↑Qb.length:Int).toNat)/\(Fits Qb->Lp2 (fun Qo Vv z6z=>CAt Qb Vv (fun y4=>z0g (Ex.mk y4.1 y4.2 y4.3 y4.4 y4.5) fun Q1=>Sml (Qo++[Ex.mk Q1.1 Q1.2 Q1.3 Q1.4 Q1.5]).length/\InI (Vv+1)/\z6z (Qo++[Ex.mk Q1.1 Q1.2 Q1.3 Q1.4 Q1.5]) (Vv+1)) (K Qo)) (List.replicate (Int.toNat (0:Int)) (Ex.mk (0:Int) (B8 []) (B8 []) [] [])) (0:Int))
def V7:Gh:=q01 q00 q9r
abbrev q6v:=(List Nd->(Nd->Option (Int))->Bool->Prop)->Prop
def Hh:q6v:=fun K=>K [] (fun _=>none) false
abbrev Zi:=List Nd->(Nd->Option (Int))->Bool->Int->(Int->List Nd->(Nd->Option (Int))->Bool->Prop)->Prop
def Zj:Zi:=fun ns ids full n K=>Cnd (n<0) (K (-1002:Int) ns ids full) (Cnd ((1000:Int)<n) (K (-1002:Int) ns ids full) (InI ((-1:Int) - n)/\K ((-1:Int) - n) ns ids full))
abbrev Zn:=List Nd->(Nd->Option (Int))->Bool->Int->(Bool->List Nd->(Nd->Option (Int))->Bool->Prop)->Prop
def Jx:Zn:=fun ns ids full id K=>Cnd ((-1002:Int)<id) (Fits ns->K (decide (id<(↑ns.length:Int))) ns ids full) (K false ns ids full)
abbrev q0w:=List Nd->(Nd->Option (Int))->Bool->Int->((Int->Option (Bool))->List Nd->(Nd->Option (Int))->Bool->Prop)->Prop
def q6o(Qn:Zn):q0w:=fun ns ids full id K=>Qn ns ids full id fun Qb (Zk:List (Int×Int×Int)) G8 q42=>Cnd (Qb=true) (RecH (fun j9w Jp j2l v88=>Cnd ((j2l.2.1 j2l.1).getD false=true) (v88 (j2l.2.1,())) (Cnd ((0:Int)<=j2l.1) (At Zk j2l.1 fun y2=>j9w (Jp+(2:Nat)+(1:Nat)) (y2.2.1,put j2l.2.1 j2l.1 true,()) fun Qy=>At Zk j2l.1 fun y5=>j9w (Jp+(2:Nat)+(1:Nat)+(1:Nat)) (y5.2.2,Qy.1,()) fun Z2=>v88 (Z2.1,())) (v88 (put j2l.2.1 j2l.1 true,())))) ((0:Nat)+(1:Nat)+(1:Nat)+(1:Nat)+(1:Nat)+(1:Nat)+(1:Nat)+(1:Nat)+(1:Nat)+(1:Nat)+(1:Nat)) (id,fun _=>none,()) fun Qh=>K Qh.1 Zk G8 q42) (K (fun _=>none) Zk G8 q42)
def Wu:q0w:=q6o Jx
abbrev R7:=List Nd->(Nd->Option (Int))->Bool->Int->(List Int->List Nd->(Nd->Option (Int))->Bool->Prop)->Prop
def Vg(ns:List Nd)(ids:(Nd->Option (Int)))(full:Bool)(id:Int)(K:List Int->List Nd->(Nd->Option (Int))->Bool->Prop):Prop:=Wu ns ids full id fun F ns1 ids1 full1=>(∀ks:List Int,Keys F ks->Sml ks.length)/\(∀x,(F x).isSome=true->InI x)/\∀l:List Int,l.Pairwise (· < ·)->(∀n,n∈l↔0<=n/\(F (-1 - n)).isSome=true)->K l ns1 ids1 full1
abbrev Q9:=List Nd->(Nd->Option (Int))->Bool->Int->(Bool->List Nd->(Nd->Option (Int))->Bool->Prop)->Prop
def q16(Qn:Zn)(U5:R7):Q9:=fun ns ids full id K=>Qn ns ids full id fun Qb (Zk:List (Int×Int×Int)) G8 q42=>Cnd (Qb=true) (U5 Zk G8 q42 id fun Qh (Jp:List (Int×Int×Int)) q54 z4a=>Fits Qh->Lp1 (fun Qo z2a=>CAt Qh Qo (fun y4=>Cnd ((1:Int)<y4) (K (match decide ((0:Int)<=Qo) with|true=>false|false=>true) Jp q54 z4a) (InI (Qo+1)/\z2a (Qo+1))) (K true Jp q54 z4a)) (0:Int)) (K false Zk G8 q42)
def Jg:Q9:=q16 Jx Vg
abbrev z0r:=Int->(Int->Bool->Prop)->Prop
def q02:z0r:=fun id K=>InI ((-1:Int) - id)/\Cnd (id<0) (K ((-1:Int) - id) (decide ((-1002:Int)<id))) (K ((-1:Int) - id) false)
abbrev Wd:=List Nd->(Nd->Option (Int))->Bool->Int->(Int->List Nd->(Nd->Option (Int))->Bool->Prop)->Prop
def Z5:Wd:=fun ns ids full id K=>Cnd (id<0) (K (1001:Int) ns ids full) (At ns id fun y0=>K y0.1 ns ids full)
abbrev Vn:=List Nd->(Nd->Option (Int))->Bool->Int->Int->(Int->Int->List Nd->(Nd->Option (Int))->Bool->Prop)->Prop
def q17(Q4:Wd):Vn:=fun ns ids full id test K=>Q4 ns ids full id fun Qb (Zk:List (Int×Int×Int)) G8 q42=>Cnd (Qb=test) (At Zk id fun y1=>At Zk id fun y3=>K y1.2.1 y3.2.2 Zk G8 q42) (K id id Zk G8 q42)
def Zz:Vn:=q17 Z5
abbrev Uh:=List Nd->(Nd->Option (Int))->Bool->Int->Int->Int->(Int->List Nd->(Nd->Option (Int))->Bool->Prop)->Prop
def q8a(Qn:Zn)(Q4:Wd):Uh:=fun ns ids full test yes no K=>Cnd (test<0) (K (-1002:Int) ns ids full) (Cnd ((1000:Int)<test) (K (-1002:Int) ns ids full) (Qn ns ids full yes fun Qb (Zk:List (Int×Int×Int)) G8 q42=>Cnd (Qb=true) (Qn Zk G8 q42 no fun Qh (Jp:List (Int×Int×Int)) q54 z4a=>Cnd (Qh=true) (Q4 Jp q54 z4a yes fun Qk (Zq:List (Int×Int×Int)) q2g q55=>Cnd (Qk<=test) (K (-1002:Int) Zq q2g q55) (Q4 Zq q2g q55 no fun Qo (Vv:List (Int×Int×Int)) z6z j9x=>Cnd (Qo<=test) (K (-1002:Int) Vv z6z j9x) (Cnd (yes=no) (K yes Vv z6z j9x) (Cnd ((z6z (test,yes,no)).isSome=true) (K ((z6z (test,yes,no)).getD (0:Int)) Vv z6z j9x) (Fits Vv->Cnd ((4000:Int)<=(↑Vv.length:Int)) (K (-1002:Int) Vv z6z true) (Sml (Vv++[(test,yes,no)]).length/\((Vv++[(test,yes,no)]).length<=(9223372036854775807:Nat)->InI ((↑(Vv++[(test,yes,no)]).length:Int) - 1)/\((Vv++[(test,yes,no)]).length<=(9223372036854775807:Nat)->InI ((↑(Vv++[(test,yes,no)]).length:Int) - 1)/\K ((↑(Vv++[(test,yes,no)]).length:Int) - 1) (Vv++[(test,yes,no)]) (put z6z (test,yes,no) ((↑(Vv++[(test,yes,no)]).length:Int) - 1)) j9x)))))))) (K (-1002:Int) Jp q54 z4a)) (K (-1002:Int) Zk G8 q42)))
def Zc:Uh:=q8a Jx Z5
abbrev Jk:=List Nd->(Nd->Option (Int))->Bool->Int->Int->Int->(A3->Option (Int))->(Int->List Nd->(Nd->Option (Int))->Bool->(A3->Option (Int))->Prop)->Prop
def Vh(w0v:z0r)(Q4:Wd)(G9:Vn)(H6:Uh)(X:Jk):Jk:=fun ns ids full f g h memory K=>w0v f fun Qb Zk=>Cnd (Zk=true) (Cnd (Qb=1) (K g ns ids full memory) (K h ns ids full memory)) (Cnd (g=h) (K g ns ids full memory) (Cnd ((memory (f,g,h)).isSome=true) (K ((memory (f,g,h)).getD (0:Int)) ns ids full memory) (Q4 ns ids full f fun Qh (Jp:List (Int×Int×Int)) q54 z4a=>Q4 Jp q54 z4a g fun Qk (Zq:List (Int×Int×Int)) q2g q55=>Q4 Zq q2g q55 h fun Qo (Vv:List (Int×Int×Int)) z6z j9x=>G9 Vv z6z j9x f (Min.min (Min.min Qh Qk) Qo) fun Qy Vz (j0g:List (Int×Int×Int)) v9i u04=>G9 j0g v9i u04 g (Min.min (Min.min Qh Qk) Qo) fun Qx q41 (u05:List (Int×Int×Int)) u06 u07=>G9 u05 u06 u07 h (Min.min (Min.min Qh Qk) Qo) fun Q1 z60 (y7h:List (Int×Int×Int)) u08 u1x=>X y7h u08 u1x Qy Qx Q1 memory fun Z2 (q9n:List (Int×Int×Int)) v89 w73 y3r=>Cnd (Z2=(-1002:Int)) (K (-1002:Int) q9n v89 w73 y3r) (X q9n v89 w73 Vz q41 z60 y3r fun Zu (z4s:List (Int×Int×Int)) v9j y3s y9t=>Cnd (Zu=(-1002:Int)) (K (-1002:Int) z4s v9j y3s y9t) (H6 z4s v9j y3s (Min.min (Min.min Qh Qk) Qo) Z2 Zu fun Zg (z4q:List (Int×Int×Int)) y2h v0o=>K Zg z4q y2h v0o (put y9t (f,g,h) Zg))))))
def Us:Jk:=fun ns ids full f g h memory K=> ∀X:Jk,(∀ns ids full f g h memory K,Vh q02 Z5 Zz Zc X ns ids full f g h memory K->X ns ids full f g h memory K)->X ns ids full f g h memory K
abbrev Zs:=List Nd->(Nd->Option (Int))->Bool->Int->Int->Int->(Int->List Nd->(Nd->Option (Int))->Bool->Prop)->Prop
def q5j(Qs:Q9)(Qn:Zn)(U6:Jk):Zs:=fun ns ids full f g h K=>Qs ns ids full f fun Qb (Zk:List (Int×Int×Int)) G8 q42=>Cnd (Qb=true) (Qn Zk G8 q42 g fun Qh (Jp:List (Int×Int×Int)) q54 z4a=>Cnd (Qh=true) (Qn Jp q54 z4a h fun Qk (Zq:List (Int×Int×Int)) q2g q55=>Cnd (Qk=true) (U6 Zq q2g q55 f g h (fun _=>none) fun Qo (Vv:List (Int×Int×Int)) z6z j9x _=>K Qo Vv z6z j9x) (K (-1002:Int) Zq q2g q55)) (K (-1002:Int) Jp q54 z4a)) (K (-1002:Int) Zk G8 q42)
def Wj:Zs:=q5j Jg Jx Us
abbrev Vo:=List Nd->(Nd->Option (Int))->Bool->Int->Int->(Int->List Nd->(Nd->Option (Int))->Bool->Prop)->Prop
def q9s(Qs:Q9)(Qf:Zi)(Qw:Zs):Vo:=fun ns ids full f g K=>Qs ns ids full g fun Qb (Zk:List (Int×Int×Int)) G8 q42=>Cnd (Qb=true) (Qf Zk G8 q42 (0:Int) fun Qh (Jp:List (Int×Int×Int)) q54 z4a=>Qw Jp q54 z4a f g Qh fun Qk (Zq:List (Int×Int×Int)) q2g q55=>K Qk Zq q2g q55) (K (-1002:Int) Zk G8 q42)
def Jy:Vo:=q9s Jg Zj Wj
abbrev Uc:=List Nd->(Nd->Option (Int))->Bool->Int->Int->(Int->List Nd->(Nd->Option (Int))->Bool->Prop)->Prop
def z1e(Qs:Q9)(Qf:Zi)(Qw:Zs):Uc:=fun ns ids full f g K=>Qs ns ids full g fun Qb (Zk:List (Int×Int×Int)) G8 q42=>Cnd (Qb=true) (Qf Zk G8 q42 (1:Int) fun Qh (Jp:List (Int×Int×Int)) q54 z4a=>Qw Jp q54 z4a f Qh g fun Qk (Zq:List (Int×Int×Int)) q2g q55=>K Qk Zq q2g q55) (K (-1002:Int) Zk G8 q42)
def Jr:Uc:=z1e Jg Zj Wj
abbrev Ru:=List Nd->(Nd->Option (Int))->Bool->Int->(Int->List Nd->(Nd->Option (Int))->Bool->Prop)->Prop
def q9t(Qf:Zi)(Qw:Zs):Ru:=fun ns ids full f K=>Qf ns ids full (0:Int) fun Qb (Zk:List (Int×Int×Int)) G8 q42=>Qf Zk G8 q42 (1:Int) fun Qh (Jp:List (Int×Int×Int)) q54 z4a=>Qw Jp q54 z4a f Qb Qh fun Qk (Zq:List (Int×Int×Int)) q2g q55=>K Qk Zq q2g q55
def Jz:Ru:=q9t Zj Wj
abbrev Wk:=List Nd->(Nd->Option (Int))->Bool->List Ex->Ex->(Int->List Nd->(Nd->Option (Int))->Bool->Prop)->Prop
def B6(Qf:Zi)(j2m:Vo)(Uf:Uc)(j2n:Ru)(z39:q1q)(H6:Uh)(X:Wk):Wk:=fun ns ids full atoms e K=>Cnd (e.1=1) (Qf ns ids full (1:Int) fun Qb (Zk:List (Int×Int×Int)) G8 q42=>K Qb Zk G8 q42) (Cnd (e.1=2) (Qf ns ids full (1:Int) fun Qb (Zk:List (Int×Int×Int)) G8 q42=>Fits e.5->InI ((↑e.5.length:Int) - 1)/\Lp5 (fun Qk Zq (j2o:List (Int×Int×Int)) q55 v4r y62=>Cnd ((0:Int)<=Zq) (At e.5 Zq fun y3=>X j2o v4r q55 atoms (Ex.mk y3.1 y3.2 y3.3 y3.4 y3.5) fun Qx (q41:List (Int×Int×Int)) v0n y2i=>j2m q41 v0n y2i Qx Qk fun Q1 (z60:List (Int×Int×Int)) v0p v4s=>InI (Zq - 1)/\y62 Q1 (Zq - 1) z60 v4s v0p) (K Qk j2o v4r q55)) Qb ((↑e.5.length:Int) - 1) Zk q42 G8) (Cnd (e.1=3) (Qf ns ids full (0:Int) fun Qb (Zk:List (Int×Int×Int)) G8 q42=>Fits e.5->InI ((↑e.5.length:Int) - 1)/\Lp5 (fun Qk Zq (j2o:List (Int×Int×Int)) q55 v4r y62=>Cnd ((0:Int)<=Zq) (At e.5 Zq fun y3=>X j2o v4r q55 atoms (Ex.mk y3.1 y3.2 y3.3 y3.4 y3.5) fun Qx (q41:List (Int×Int×Int)) v0n y2i=>Uf q41 v0n y2i Qx Qk fun Q1 (z60:List (Int×Int×Int)) v0p v4s=>InI (Zq - 1)/\y62 Q1 (Zq - 1) z60 v4s v0p) (K Qk j2o v4r q55)) Qb ((↑e.5.length:Int) - 1) Zk q42 G8) (Cnd (e.1=4) (Fits e.5->Cnd ((↑e.5.length:Int)=0) (Qf ns ids full (-1:Int) fun Qh (Jp:List (Int×Int×Int)) q54 z4a=>K Qh Jp q54 z4a) (((0:Int)<=(0:Int)/\(0:Int)<(↑e.5.length:Int))/\∀y1,e.5[Int.toNat (0:Int)]? =some y1->X ns ids full atoms (Ex.mk y1.1 y1.2 y1.3 y1.4 y1.5) fun Qo (Vv:List (Int×Int×Int)) z6z j9x=>j2n Vv z6z j9x Qo fun Qy (Vz:List (Int×Int×Int)) v4t v9k=>K Qy Vz v4t v9k)) (Fits atoms->Lp1 (fun Qh q4i=>CAt atoms Qh (fun y2=>z39 (Ex.mk y2.1 y2.2 y2.3 y2.4 y2.5) (Ex.mk e.1 e.2 e.3 e.4 e.5) fun Qy=>Cnd (Qy=true) (Qf ns ids full (1:Int) fun Qx (q41:List (Int×Int×Int)) v0n y2i=>Qf q41 v0n y2i (0:Int) fun Q1 (z60:List (Int×Int×Int)) v0p v4s=>H6 z60 v0p v4s Qh Qx Q1 fun Z2 (q9n:List (Int×Int×Int)) v89 w73=>K Z2 q9n v89 w73) (InI (Qh+1)/\q4i (Qh+1))) (Qf ns ids full (1:Int) fun Qk (Zq:List (Int×Int×Int)) q2g q55=>Qf Zq q2g q55 (0:Int) fun Qo (Vv:List (Int×Int×Int)) z6z j9x=>H6 Vv z6z j9x (-1:Int) Qk Qo fun Qy (Vz:List (Int×Int×Int)) v4t v9k=>K Qy Vz v4t v9k)) (0:Int)))))
def Gt:Wk:=fun ns ids full atoms e K=> ∀X:Wk,(∀ns ids full atoms e K,B6 Zj Jy Jr Jz Wx Zc X ns ids full atoms e K->X ns ids full atoms e K)->X ns ids full atoms e K
abbrev Hi:=List Nd->(Nd->Option (Int))->Bool->(Bool->List Nd->(Nd->Option (Int))->Bool->Prop)->Prop
def q8b:Hi:=fun ns ids full K=>K full ns ids full
abbrev We:=List Rul->(List Int->Bool->Prop)->Prop
def Hj(Vf:Gh)(q7m:q6v)(Qf:Zi)(q0m:Wk)(Uf:Uc)(H7:Hi):We:=fun l K=>Fits l->Lp2 (fun Qh Jp q54=>CAt l Qh (fun y2=>Sml (Jp++[Ex.mk y2.2.1 y2.2.2 y2.2.3 y2.2.4 y2.2.5]).length/\InI (Qh+1)/\q54 (Qh+1) (Jp++[Ex.mk y2.2.1 y2.2.2 y2.2.3 y2.2.4 y2.2.5])) (Vf (Ex.mk (3:Int) (B8 []) (B8 []) [] Jp) fun Qk=>q7m fun (Qo:List (Int×Int×Int)) z2a y9e=>Qf Qo z2a y9e (0:Int) fun Qy (Vz:List (Int×Int×Int)) v4t v9k=>Fits l->LpH (fun (Q1:Int×List Int×Int×List (Int×Int×Int)×Bool×(Int×Int×Int->Option Int)×Unit) (v4u:Int×List Int×Int×List (Int×Int×Int)×Bool×(Int×Int×Int->Option Int)×Unit->Prop)=>CAt l Q1.2.2.1 (fun y7=>q0m Q1.2.2.2.1 Q1.2.2.2.2.2.1 Q1.2.2.2.2.1 Qk (Ex.mk y7.2.1 y7.2.2 y7.2.3 y7.2.4 y7.2.5) fun Zg (z4q:List (Int×Int×Int)) y2h v0o=>Uf z4q y2h v0o Zg Q1.1 fun Qu (Vy:List (Int×Int×Int)) y63 j6c=>H7 Vy y63 j6c fun Zl (z04:List (Int×Int×Int)) u09 y64=>Cnd (Zl=true) (K [] false) (Qf z04 u09 y64 (-1:Int) fun Q3 (w40:List (Int×Int×Int)) y9f v9a=>Cnd (Qu=Q3) (K [] false) (Cnd (Qu=Q1.1) (InI (Q1.2.2.1+1)/\Sml (Q1.2.1++[Q1.2.2.1+1]).length/\InI (Q1.2.2.1+1)/\v4u (Qu,Q1.2.1++[Q1.2.2.1+1],Q1.2.2.1+1,w40,v9a,y9f,())) (InI (Q1.2.2.1+1)/\v4u (Qu,Q1.2.1,Q1.2.2.1+1,w40,v9a,y9f,()))))) (K Q1.2.1 true)) (Qy,[],(0:Int),Vz,v9k,v4t,()))) (0:Int) []
def Wf:We:=Hj V7 Hh Zj Gt Jr q8b
abbrev Ut:=BA->(Bool->Prop)->Prop
def Uu(s:BA)(K:Bool->Prop):Prop:=s.size<=(9223372036854775807:Nat)/\K (Go.Lib.validD s.data.toList)
abbrev Jl:=BA->(Bool->Prop)->Prop
def z5b(Jc:Ut):Jl:=fun s K=>Cnd ((200:Int)<(↑s.size:Int)) (K false) (Jc s fun Qb=>Cnd (Qb=true) (Lp1 (fun (Qh:BA×Nat) q4i=>Cnd (Qh.2<Qh.1.size) (Cnd ((↑(Go.Utf8.decode Qh.1 Qh.2).1:Int)<(32:Int)) (K false) (Cnd ((↑(Go.Utf8.decode Qh.1 Qh.2).1:Int)=(127:Int)) (K false) (q4i (Qh.1,Qh.2+(Go.Utf8.decode Qh.1 Qh.2).2)))) (K true)) (s,(0:Nat))) (K false))
def V8:Jl:=z5b Uu
abbrev Zd:=Bool->Int->(Int->Prop)->Prop
def Wl:Zd:=fun wrong e K=>Cnd (wrong=true) (K e) (K (0:Int))
abbrev q6a:=BA->(List BA->Prop)->Prop
def q6b(s:BA)(K:List BA->Prop):Prop:=s.size<4294967281/\v69 s/\K (Hg s)
abbrev Zp:=BA->(Bool->Prop)->Prop
def z7e(q1j:q6a):Zp:=fun s K=>Cnd ((↑s.size:Int)<1) (K false) (Cnd ((32:Int)<(↑s.size:Int)) (K false) (Lp1 (fun (Qb:BA×Nat) Gn=>Cnd (Qb.2<Qb.1.size) (Cnd ((97:Int)<=(↑(Go.Utf8.decode Qb.1 Qb.2).1:Int)) (Cnd ((↑(Go.Utf8.decode Qb.1 Qb.2).1:Int)<=(122:Int)) (Gn (Qb.1,Qb.2+(Go.Utf8.decode Qb.1 Qb.2).2)) (Cnd ((↑Qb.2:Int)=(0:Int)) (K false) (Cnd ((↑(Go.Utf8.decode Qb.1 Qb.2).1:Int)<(48:Int)) (Cnd ((↑(Go.Utf8.decode Qb.1 Qb.2).1:Int)=(45:Int)) (Gn (Qb.1,Qb.2+(Go.Utf8.decode Qb.1 Qb.2).2)) (Cnd ((↑(Go.Utf8.decode Qb.1 Qb.2).1:Int)=(95:Int)) (Gn (Qb.1,Qb.2+(Go.Utf8.decode Qb.1 Qb.2).2)) (K false))) (Cnd ((57:Int)<(↑(Go.Utf8.decode Qb.1 Qb.2).1:Int)) (Cnd ((↑(Go.Utf8.decode Qb.1 Qb.2).1:Int)=(45:Int)) (Gn (Qb.1,Qb.2+(Go.Utf8.decode Qb.1 Qb.2).2)) (Cnd ((↑(Go.Utf8.decode Qb.1 Qb.2).1:Int)=(95:Int)) (Gn (Qb.1,Qb.2+(Go.Utf8.decode Qb.1 Qb.2).2)) (K false))) (Gn (Qb.1,Qb.2+(Go.Utf8.decode Qb.1 Qb.2).2)))))) (Cnd ((↑Qb.2:Int)=(0:Int)) (K false) (Cnd ((↑(Go.Utf8.decode Qb.1 Qb.2).1:Int)<(48:Int)) (Cnd ((↑(Go.Utf8.decode Qb.1 Qb.2).1:Int)=(45:Int)) (Gn (Qb.1,Qb.2+(Go.Utf8.decode Qb.1 Qb.2).2)) (Cnd ((↑(Go.Utf8.decode Qb.1 Qb.2).1:Int)=(95:Int)) (Gn (Qb.1,Qb.2+(Go.Utf8.decode Qb.1 Qb.2).2)) (K false))) (Cnd ((57:Int)<(↑(Go.Utf8.decode Qb.1 Qb.2).1:Int)) (Cnd ((↑(Go.Utf8.decode Qb.1 Qb.2).1:Int)=(45:Int)) (Gn (Qb.1,Qb.2+(Go.Utf8.decode Qb.1 Qb.2).2)) (Cnd ((↑(Go.Utf8.decode Qb.1 Qb.2).1:Int)=(95:Int)) (Gn (Qb.1,Qb.2+(Go.Utf8.decode Qb.1 Qb.2).2)) (K false))) (Gn (Qb.1,Qb.2+(Go.Utf8.decode Qb.1 Qb.2).2)))))) (q1j (B8 [97,110,100,32,97,114,109,115,32,97,116,116,114,105,98,117,116,101,32,98,111,111,108,32,99,108,97,105,109,115,32,99,111,110,116,97,105,110,115,32,99,111,111,108,32,99,111,111,108,105,110,103,32,100,101,102,97,117,108,116,32,100,114,97,102,116,32,101,110,100,115,32,101,120,99,108,117,100,101,32,101,120,105,115,116,115,32,101,120,112,101,114,105,109,101,110,116,32,102,97,108,115,101,32,102,108,97,103,32,104,111,108,100,111,117,116,32,105,110,32,105,110,99,108,117,100,101,32,105,115,32,108,97,121,101,114,32,108,105,115,116,32,109,101,109,98,101,114,32,110,101,101,100,115,32,110,111,116,32,110,117,109,98,101,114,32,111,102,102,32,111,110,32,111,114,32,114,117,108,101,32,114,117,110,110,105,110,103,32,115,97,108,116,32,115,101,103,109,101,110,116,32,115,101,114,118,101,32,115,101,116,116,105,110,103,115,32,115,112,108,105,116,32,115,116,97,114,116,115,32,115,116,111,112,112,101,100,32,116,97,114,103,101,116,32,116,101,120,116,32,116,111,32,116,114,117,101,32,117,110,116,105,108,32,118,97,114,105,97,116,105,111,110,115,32,118,101,114,115,105,111,110,32,119,104,101,110]) fun Qh=>Fits Qh->Lp1 (fun Qo z2a=>CAt Qh Qo (fun y4=>Cnd (y4=s) (K false) (InI (Qo+1)/\z2a (Qo+1))) (K true)) (0:Int))) (s,(0:Nat))))
def Wm:Zp:=z7e q6b
abbrev q4l:=BA->BA->(Int->Prop)->Prop
def B7(a:BA)(b:BA)(K:Int->Prop):Prop:=K (Go.Lib.compareBytes a.data.toList b.data.toList)
abbrev Uv:=List Decl->(Int->Prop)->Prop
def Rv(Qi:Zp)(Ha:q4l):Uv:=fun l K=>Fits l->Cnd ((30:Int)<(↑l.length:Int)) (K (5:Int)) (Fits l->Lp1 (fun Qk z82=>CAt l Qk (fun y3=>Qi y3.1 fun Qx=>Cnd (Qx=true) (Qi y3.2 fun Q1=>Cnd (Q1=true) (Cnd (y3.2=B8 [107,101,121]) (K (6:Int)) (Cnd (y3.3<1) (K (7:Int)) (Cnd ((5:Int)<y3.3) (K (7:Int)) (Cnd ((0:Int)<Qk) (InI (Qk - 1)/\((0:Int)<=Qk - 1/\Qk - 1<(↑l.length:Int))/\∀y7,l[(Qk - 1).toNat]? =some y7->InI (Qk - 1)/\((0:Int)<=Qk - 1/\Qk - 1<(↑l.length:Int))/\∀y9,l[(Qk - 1).toNat]? =some y9->Ha y7.1 y3.1 fun Zl=>Ha y9.2 y3.2 fun Q3=>[Zl,Q3].length<=(9223372036854775807:Nat)->Lp1 (fun Zt y2j=>Cnd (Zt<(↑[Zl,Q3].length:Int)) (((0:Int)<=Zt/\Zt<(↑[Zl,Q3].length:Int))/\∀y15,[Zl,Q3][Zt.toNat]? =some y15->Cnd (y15=0) (InI (Zt+1)/\y2j (Zt+1)) (Cnd ((0:Int)<=y15) (K (9:Int)) (InI (Qk+1)/\z82 (Qk+1)))) (Cnd ((0:Int)<=(0:Int)) (K (9:Int)) (InI (Qk+1)/\z82 (Qk+1)))) (0:Int)) (InI (Qk+1)/\z82 (Qk+1)))))) (K (6:Int))) (K (6:Int))) (K (0:Int))) (0:Int))
def Vp:Uv:=Rv Wm B7
abbrev Za:=List Int->(Int->Prop)->Prop
def Ja:Za:=fun l K=>Fits l->Lp1 (fun Qh q4i=>CAt l Qh (fun y2=>Cnd (y2=0) (InI (Qh+1)/\q4i (Qh+1)) (K y2)) (K (0:Int))) (0:Int)
abbrev R8:=List BA->(Int->Prop)->Prop
def z5c(Qt:Jl):R8:=fun l K=>Fits l->Cnd ((40:Int)<(↑l.length:Int)) (K (5:Int)) (Fits l->Lp1 (fun Qk z82=>CAt l Qk (fun y3=>Cnd (y3=B8 []) (K (2:Int)) (Qt y3 fun Qx=>Cnd (Qx=true) (Cnd ((0:Int)<Qk) (InI (Qk - 1)/\((0:Int)<=Qk - 1/\Qk - 1<(↑l.length:Int))/\∀y6,l[(Qk - 1).toNat]? =some y6->Cnd (Lk.blt y6 y3) (InI (Qk+1)/\z82 (Qk+1)) (K (9:Int))) (InI (Qk+1)/\z82 (Qk+1))) (K (2:Int)))) (K (0:Int))) (0:Int))
def q5k:R8:=z5c V8
abbrev q18:=Ex->(Bool->Prop)->Prop
def q5l:q18:=fun e K=>Cnd (e.1=0) (Cnd (e.2=B8 []) (Cnd (e.3=B8 []) (Fits e.4->Cnd ((↑e.4.length:Int)=0) (Fits e.5->K (decide ((↑e.5.length:Int)=0))) (K false)) (K false)) (K false)) (K false)
abbrev q19:=Int->(Bool->Prop)->Prop
def q5m:q19:=fun op K=>Cnd ((6:Int)<=op) (K (decide (op<=15))) (K false)
abbrev q2r:=Ex->(Bool->Prop)->Prop
def z2p(J0:q19):q2r:=fun e K=>Fits e.5->Fits e.4->Jn0 (J0 e.1 fun Qk=>Cnd (Qk=true) (Cnd (e.1=8) (K (decide ((0:Int)<(↑e.4.length:Int)))) (J0 e.1 fun Qo=>Cnd (Qo=true) (Cnd (e.1=6) (K (decide ((↑e.4.length:Int)=0))) (K (decide ((↑e.4.length:Int)=1)))) (K (decide ((↑e.4.length:Int)=0))))) (Cnd (e.2=B8 []) (Cnd (e.3=B8 []) (Cnd (e.1=8) (K (decide ((0:Int)<(↑e.4.length:Int)))) (J0 e.1 fun Qo=>Cnd (Qo=true) (Cnd (e.1=6) (K (decide ((↑e.4.length:Int)=0))) (K (decide ((↑e.4.length:Int)=1)))) (K (decide ((↑e.4.length:Int)=0))))) (Cnd (e.1=5) (Cnd (e.1=8) (K (decide ((0:Int)<(↑e.4.length:Int)))) (J0 e.1 fun Qo=>Cnd (Qo=true) (Cnd (e.1=6) (K (decide ((↑e.4.length:Int)=0))) (K (decide ((↑e.4.length:Int)=1)))) (K (decide ((↑e.4.length:Int)=0))))) (K false))) (K false))) fun Qk=>Cnd (e.1=2) (Cnd ((↑e.5.length:Int)<2) (K false) Qk) (Cnd (e.1=3) (Cnd ((↑e.5.length:Int)<2) (K false) Qk) (Cnd (e.1=4) (Cnd ((↑e.5.length:Int)=1) Qk (K false)) (Cnd ((0:Int)<(↑e.5.length:Int)) (K false) Qk)))
def q6w:q2r:=z2p q5m
abbrev q6x:=Val->(Bool->Prop)->Prop
def q6y:q6x:=fun v K=>Jn1 (fun Qb=>Cnd (Qb=true) (Cnd (v.3=B8 []) (Fits v.4->K (decide ((↑v.4.length:Int)=0))) (K false)) (Jn1 (fun Qh=>Cnd (Qh=true) (Cnd (v.2=0) (Fits v.4->K (decide ((↑v.4.length:Int)=0))) (K false)) (Cnd (v.2=0) (K (decide (v.3=B8 []))) (K false))) fun j9w=>Cnd (v.1=3) (j9w (decide (v.1=3))) (j9w (decide (v.1=4))))) fun z0f=>Cnd (v.1=1) (z0f (decide (v.1=1))) (z0f (decide (v.1=2)))
abbrev q8c:=BA->BA->(List BA->Prop)->Prop
def q8d(s:BA)(sep:BA)(K:List BA->Prop):Prop:=sep.size=1/\s.size<4294967281/\K (q14 s sep)
abbrev V0:=BA->BA->(Bool->Prop)->Prop
def Hk:V0:=fun s prefix_ K=>Cnd ((↑prefix_.size:Int)<=(↑s.size:Int)) (((0:Int)<=(0:Int)/\(0:Int)<=(↑prefix_.size:Int)/\(↑prefix_.size:Int)<=(↑s.size:Int))/\K (decide (s.extract (Int.toNat (0:Int)) (↑prefix_.size:Int).toNat=prefix_))) (K false)
abbrev Ws:=BA->BA->(BA->Bool->Prop)->Prop
def Hl(V4:V0):Ws:=fun s prefix_ K=>V4 s prefix_ fun Qb=>Cnd (Qb=true) (((0:Int)<=(↑prefix_.size:Int)/\(↑prefix_.size:Int)<=(↑s.size:Int)/\(↑s.size:Int)<=(↑s.size:Int))/\K (s.extract (↑prefix_.size:Int).toNat (↑s.size:Int).toNat) true) (K s false)
def Hm:Ws:=Hl Hk
abbrev Ui:=BA->BA->(BA->Bool->Prop)->Prop
def q1r(V5:Ws):Ui:=fun s prefix_ K=>V5 s prefix_ fun Qb Zk=>K Qb Zk
def Hn:Ui:=q1r Hm
abbrev z0s:=BA->(Int->Bool->Prop)->Prop
def q46(s:BA)(K:Int->Bool->Prop):Prop:=s.size<=281474976710656/\y0z s K
abbrev Uw:=BA->(Int->Int->Prop)->Prop
def q2s(H8:Ui)(q07:z0s):Uw:=fun s K=>H8 s (B8 [45]) fun Qb Zk=>Cnd (Qb=B8 []) (K (0:Int) (1:Int)) (((0:Int)<=(0:Int)/\(0:Int)<(↑Qb.size:Int))/\∀b1,Qb[Int.toNat (0:Int)]? =some b1->Cnd ((↑b1.toNat:Int)=48) (Cnd ((1:Int)<(↑Qb.size:Int)) (K (0:Int) (1:Int)) (Cnd (Zk=true) (K (0:Int) (1:Int)) (Lp1 (fun (Qo:BA×Nat) z2a=>Cnd (Qo.2<Qo.1.size) (Cnd ((↑(Go.Utf8.decode Qo.1 Qo.2).1:Int)<(48:Int)) (K (0:Int) (1:Int)) (Cnd ((57:Int)<(↑(Go.Utf8.decode Qo.1 Qo.2).1:Int)) (K (0:Int) (1:Int)) (z2a (Qo.1,Qo.2+(Go.Utf8.decode Qo.1 Qo.2).2)))) (q07 s fun Qy Vz=>Cnd ((match (Qy,Vz,()).2.1 with|true=>false|false=>true)=true) (K (0:Int) (3:Int)) (Cnd (Qy<(-1099511627776:Int)) (K (0:Int) (3:Int)) (Cnd ((1099511627776:Int)<Qy) (K (0:Int) (3:Int)) (K Qy (0:Int)))))) (Qb,(0:Nat))))) (Lp1 (fun (Qo:BA×Nat) z2a=>Cnd (Qo.2<Qo.1.size) (Cnd ((↑(Go.Utf8.decode Qo.1 Qo.2).1:Int)<(48:Int)) (K (0:Int) (1:Int)) (Cnd ((57:Int)<(↑(Go.Utf8.decode Qo.1 Qo.2).1:Int)) (K (0:Int) (1:Int)) (z2a (Qo.1,Qo.2+(Go.Utf8.decode Qo.1 Qo.2).2)))) (q07 s fun Qy Vz=>Cnd ((match (Qy,Vz,()).2.1 with|true=>false|false=>true)=true) (K (0:Int) (3:Int)) (Cnd (Qy<(-1099511627776:Int)) (K (0:Int) (3:Int)) (Cnd ((1099511627776:Int)<Qy) (K (0:Int) (3:Int)) (K Qy (0:Int)))))) (Qb,(0:Nat))))
def Rw:Uw:=q2s Hn q46
abbrev q2t:=BA->(A3->Bool->Prop)->Prop
def z2q(q35:q8c)(R1:Uw):q2t:=fun s K=>q35 s (B8 [46]) fun Qb=>Fits Qb->Cnd ((↑Qb.length:Int)=3) (Fits Qb->LpH (fun (Qo:Int×Int×Int×Int×Int×Int×Int×Unit) z2a=>CAt Qb Qo.1 (fun y4=>R1 y4 fun Q1 z60=>Cnd (z60=0) (Cnd (Q1<0) (K ((0:Int),(0:Int),(0:Int)) false) (Cnd ((999999:Int)<Q1) (K ((0:Int),(0:Int),(0:Int)) false) (((0:Int)<=Qo.1/\Qo.1<(↑(3:Nat):Int))/\((True/\(Qo.1=(↑(nat_lit 0):Int)->InI (Qo.1+1)/\z2a (Qo.1+1,Q1,Qo.2.2.1,Qo.2.2.2.1,Qo.2.2.2.2.1,Qo.2.2.2.2.2.1,Qo.2.2.2.2.2.2.1,())))/\(Qo.1=(↑(nat_lit 1):Int)->InI (Qo.1+1)/\z2a (Qo.1+1,Qo.2.1,Q1,Qo.2.2.2.1,Qo.2.2.2.2.1,Qo.2.2.2.2.2.1,Qo.2.2.2.2.2.2.1,())))/\(Qo.1=(↑(nat_lit 2):Int)->InI (Qo.1+1)/\z2a (Qo.1+1,Qo.2.1,Qo.2.2.1,Q1,Qo.2.2.2.2.1,Qo.2.2.2.2.2.1,Qo.2.2.2.2.2.2.1,()))))) (K ((0:Int),(0:Int),(0:Int)) false)) (K (Qo.2.1,Qo.2.2.1,Qo.2.2.2.1) true)) ((0:Int),(0:Int),(0:Int),(0:Int),(0:Int),(0:Int),(0:Int),())) (K ((0:Int),(0:Int),(0:Int)) false)
def q6z:q2t:=z2q q8d Rw
abbrev Ho:=Val->(Int->Prop)->Prop
def z2r(q7n:q6x)(Qt:Jl)(q7o:q2t):Ho:=fun v K=>Cnd (v.1<1) (K (7:Int)) (Cnd ((5:Int)<v.1) (K (7:Int)) (q7n v fun Qb=>Cnd (Qb=true) (Cnd (v.1=1) (Cnd (v.2=0) (K (0:Int)) (Cnd (v.2=1) (K (0:Int)) (K (3:Int)))) (Cnd (v.1=2) (Cnd (v.2<(-1099511627776:Int)) (K (3:Int)) (Cnd ((1099511627776:Int)<v.2) (K (3:Int)) (K (0:Int)))) (Cnd (v.1=3) (Qt v.3 fun Qh=>Cnd (Qh=true) (K (0:Int)) (K (2:Int))) (Cnd (v.1=4) (q7o v.3 fun (_:Int×Int×Int) Jp=>Cnd (Jp=true) (K (0:Int)) (K (1:Int))) (Cnd (v.1=5) (Fits v.4->Cnd ((20:Int)<(↑v.4.length:Int)) (K (5:Int)) (Fits v.4->Lp1 (fun Qo z2a=>CAt v.4 Qo (fun y4=>Qt y4 fun Q1=>Cnd (Q1=true) (InI (Qo+1)/\z2a (Qo+1)) (K (2:Int))) (Fits v.4->Lp1 (fun Qx v9b=>Cnd (Qx<(↑v.4.length:Int)) (Cnd ((0:Int)<Qx) (InI (Qx - 1)/\((0:Int)<=Qx - 1/\Qx - 1<(↑v.4.length:Int))/\∀y6,v.4[(Qx - 1).toNat]? =some y6->At v.4 Qx fun y8=>Cnd (Lk.blt y6 y8) (InI (Qx+1)/\v9b (Qx+1)) (K (9:Int))) (InI (Qx+1)/\v9b (Qx+1))) (K (0:Int))) (0:Int))) (0:Int))) (K (0:Int))))))) (K (15:Int))))
def B9:Ho:=z2r q6y V8 q6z
abbrev q9u:=Ex->Int->(Int->Prop)->Prop
def z5d(q7p:q2r)(J0:q19)(Qi:Zp)(Z6:Ho)(Qa:Zd):q9u:=fun e depth K=>Cnd ((10:Int)<=depth) (K (18:Int)) (Cnd (e.1<1) (K (7:Int)) (Cnd ((15:Int)<e.1) (K (7:Int)) (q7p (Ex.mk e.1 e.2 e.3 e.4 e.5) fun Qb=>Cnd (Qb=true) (Fits e.5->Cnd ((12:Int)<(↑e.5.length:Int)) (K (5:Int)) (Fits e.4->Cnd ((20:Int)<(↑e.4.length:Int)) (K (5:Int)) (Fits e.5->Lp1 (fun Qy v4y=>CAt e.5 Qy (fun y5=>Cnd (y5.1=e.1) (Cnd (e.1=2) (K (15:Int)) (Cnd (e.1=3) (K (15:Int)) (InI (Qy+1)/\v4y (Qy+1)))) (InI (Qy+1)/\v4y (Qy+1))) (J0 e.1 fun Qx=>Cnd (Qx=true) (Qi e.2 fun Q1=>Cnd (Q1=true) (J0 e.1 fun Z2=>Cnd (Z2=true) (Qi e.3 fun Zu=>Cnd (Zu=true) (Fits e.4->Lp1 (fun Qu j0f=>CAt e.4 Qu (fun y11=>Z6 y11 fun Qg=>Cnd (Qg=0) (InI (Qu+1)/\j0f (Qu+1)) (K Qg)) (Cnd (e.1=9) (((0:Int)<=(0:Int)/\(0:Int)<(↑e.4.length:Int))/\∀y11,e.4[Int.toNat (0:Int)]? =some y11->Qa (match decide ((flC C.val y11).1=3) with|true=>false|false=>true) (8:Int) fun Qg=>K Qg) (Cnd (e.1=10) (((0:Int)<=(0:Int)/\(0:Int)<(↑e.4.length:Int))/\∀y11,e.4[Int.toNat (0:Int)]? =some y11->Qa (match decide ((flC C.val y11).1=3) with|true=>false|false=>true) (8:Int) fun Qg=>K Qg) (Cnd (e.1=11) (((0:Int)<=(0:Int)/\(0:Int)<(↑e.4.length:Int))/\∀y11,e.4[Int.toNat (0:Int)]? =some y11->Qa (match decide ((flC C.val y11).1=3) with|true=>false|false=>true) (8:Int) fun Qg=>K Qg) (Qa false (8:Int) fun Zl=>K Zl))))) (0:Int)) (K (6:Int))) (Cnd (e.1=5) (Qi e.3 fun Zu=>Cnd (Zu=true) (Fits e.4->Lp1 (fun Qu j0f=>CAt e.4 Qu (fun y11=>Z6 y11 fun Qg=>Cnd (Qg=0) (InI (Qu+1)/\j0f (Qu+1)) (K Qg)) (Cnd (e.1=9) (((0:Int)<=(0:Int)/\(0:Int)<(↑e.4.length:Int))/\∀y11,e.4[Int.toNat (0:Int)]? =some y11->Qa (match decide ((flC C.val y11).1=3) with|true=>false|false=>true) (8:Int) fun Qg=>K Qg) (Cnd (e.1=10) (((0:Int)<=(0:Int)/\(0:Int)<(↑e.4.length:Int))/\∀y11,e.4[Int.toNat (0:Int)]? =some y11->Qa (match decide ((flC C.val y11).1=3) with|true=>false|false=>true) (8:Int) fun Qg=>K Qg) (Cnd (e.1=11) (((0:Int)<=(0:Int)/\(0:Int)<(↑e.4.length:Int))/\∀y11,e.4[Int.toNat (0:Int)]? =some y11->Qa (match decide ((flC C.val y11).1=3) with|true=>false|false=>true) (8:Int) fun Qg=>K Qg) (Qa false (8:Int) fun Zl=>K Zl))))) (0:Int)) (K (6:Int))) (Fits e.4->Lp1 (fun Zg j9y=>CAt e.4 Zg (fun y10=>Z6 y10 fun Q3=>Cnd (Q3=0) (InI (Zg+1)/\j9y (Zg+1)) (K Q3)) (Cnd (e.1=9) (((0:Int)<=(0:Int)/\(0:Int)<(↑e.4.length:Int))/\∀y10,e.4[Int.toNat (0:Int)]? =some y10->Qa (match decide ((flC C.val y10).1=3) with|true=>false|false=>true) (8:Int) fun Q3=>K Q3) (Cnd (e.1=10) (((0:Int)<=(0:Int)/\(0:Int)<(↑e.4.length:Int))/\∀y10,e.4[Int.toNat (0:Int)]? =some y10->Qa (match decide ((flC C.val y10).1=3) with|true=>false|false=>true) (8:Int) fun Q3=>K Q3) (Cnd (e.1=11) (((0:Int)<=(0:Int)/\(0:Int)<(↑e.4.length:Int))/\∀y10,e.4[Int.toNat (0:Int)]? =some y10->Qa (match decide ((flC C.val y10).1=3) with|true=>false|false=>true) (8:Int) fun Q3=>K Q3) (Qa false (8:Int) fun Qu=>K Qu))))) (0:Int)))) (K (6:Int))) (J0 e.1 fun Q1=>Cnd (Q1=true) (Qi e.3 fun Z2=>Cnd (Z2=true) (Fits e.4->Lp1 (fun Zg j9y=>CAt e.4 Zg (fun y10=>Z6 y10 fun Q3=>Cnd (Q3=0) (InI (Zg+1)/\j9y (Zg+1)) (K Q3)) (Cnd (e.1=9) (((0:Int)<=(0:Int)/\(0:Int)<(↑e.4.length:Int))/\∀y10,e.4[Int.toNat (0:Int)]? =some y10->Qa (match decide ((flC C.val y10).1=3) with|true=>false|false=>true) (8:Int) fun Q3=>K Q3) (Cnd (e.1=10) (((0:Int)<=(0:Int)/\(0:Int)<(↑e.4.length:Int))/\∀y10,e.4[Int.toNat (0:Int)]? =some y10->Qa (match decide ((flC C.val y10).1=3) with|true=>false|false=>true) (8:Int) fun Q3=>K Q3) (Cnd (e.1=11) (((0:Int)<=(0:Int)/\(0:Int)<(↑e.4.length:Int))/\∀y10,e.4[Int.toNat (0:Int)]? =some y10->Qa (match decide ((flC C.val y10).1=3) with|true=>false|false=>true) (8:Int) fun Q3=>K Q3) (Qa false (8:Int) fun Qu=>K Qu))))) (0:Int)) (K (6:Int))) (Cnd (e.1=5) (Qi e.3 fun Z2=>Cnd (Z2=true) (Fits e.4->Lp1 (fun Zg j9y=>CAt e.4 Zg (fun y10=>Z6 y10 fun Q3=>Cnd (Q3=0) (InI (Zg+1)/\j9y (Zg+1)) (K Q3)) (Cnd (e.1=9) (((0:Int)<=(0:Int)/\(0:Int)<(↑e.4.length:Int))/\∀y10,e.4[Int.toNat (0:Int)]? =some y10->Qa (match decide ((flC C.val y10).1=3) with|true=>false|false=>true) (8:Int) fun Q3=>K Q3) (Cnd (e.1=10) (((0:Int)<=(0:Int)/\(0:Int)<(↑e.4.length:Int))/\∀y10,e.4[Int.toNat (0:Int)]? =some y10->Qa (match decide ((flC C.val y10).1=3) with|true=>false|false=>true) (8:Int) fun Q3=>K Q3) (Cnd (e.1=11) (((0:Int)<=(0:Int)/\(0:Int)<(↑e.4.length:Int))/\∀y10,e.4[Int.toNat (0:Int)]? =some y10->Qa (match decide ((flC C.val y10).1=3) with|true=>false|false=>true) (8:Int) fun Q3=>K Q3) (Qa false (8:Int) fun Qu=>K Qu))))) (0:Int)) (K (6:Int))) (Fits e.4->Lp1 (fun Zu v9c=>CAt e.4 Zu (fun y9=>Z6 y9 fun Zl=>Cnd (Zl=0) (InI (Zu+1)/\v9c (Zu+1)) (K Zl)) (Cnd (e.1=9) (((0:Int)<=(0:Int)/\(0:Int)<(↑e.4.length:Int))/\∀y9,e.4[Int.toNat (0:Int)]? =some y9->Qa (match decide ((flC C.val y9).1=3) with|true=>false|false=>true) (8:Int) fun Zl=>K Zl) (Cnd (e.1=10) (((0:Int)<=(0:Int)/\(0:Int)<(↑e.4.length:Int))/\∀y9,e.4[Int.toNat (0:Int)]? =some y9->Qa (match decide ((flC C.val y9).1=3) with|true=>false|false=>true) (8:Int) fun Zl=>K Zl) (Cnd (e.1=11) (((0:Int)<=(0:Int)/\(0:Int)<(↑e.4.length:Int))/\∀y9,e.4[Int.toNat (0:Int)]? =some y9->Qa (match decide ((flC C.val y9).1=3) with|true=>false|false=>true) (8:Int) fun Zl=>K Zl) (Qa false (8:Int) fun Zg=>K Zg))))) (0:Int)))))) (0:Int)))) (K (15:Int)))))
def q2a:q9u:=z5d q6w q5m Wm B9 Wl
abbrev R9:=Ex->Int->Int->(Int->Int->Prop)->Prop
def z5e(w74:q9u)(X:R9):R9:=fun e depth before K=>Cnd ((60:Int)<=before) (K (5:Int) before) (InI (before+1)/\w74 (Ex.mk e.1 e.2 e.3 e.4 e.5) depth fun Qb=>Cnd (Qb=0) (Fits e.5->Lp2 (fun Qk Zq q2g=>CAt e.5 Qk (fun y3=>InI (depth+1)/\X (Ex.mk y3.1 y3.2 y3.3 y3.4 y3.5) (depth+1) Zq fun Qx q41=>Cnd (Qx=0) (InI (Qk+1)/\q2g (Qk+1) q41) (K Qx q41)) (K (0:Int) Zq)) (0:Int) (before+1)) (K Qb (before+1)))
def q9v:R9:=fun e depth before K=> ∀X:R9,(∀e depth before K,z5e q2a X e depth before K->X e depth before K)->X e depth before K
abbrev Ux:=Ex->(Int->Prop)->Prop
def z5f(z0h:R9):Ux:=fun e K=>z0h (Ex.mk e.1 e.2 e.3 e.4 e.5) (0:Int) (0:Int) fun Qb _=>K Qb
def q2b:Ux:=z5f q9v
abbrev Ba:=Seg->(Int->Prop)->Prop
def q8e(Qi:Zp)(Qa:Zd)(Wp:R8)(Qc:Za)(Ua:q18)(Zm:Ux):Ba:=fun g K=>Qi g.1 fun Qb=>Cnd (Qb=true) (Qi g.2 fun Qh=>Qa (match decide ((Qh,()).1=true) with|true=>false|false=>true) (6:Int) fun Qk=>Wp g.3 fun Qo=>Wp g.4 fun Qy=>Qc [Qk,Qo,Qy] fun Qx=>Cnd (Qx=0) (Ua (Ex.mk g.5.1 g.5.2 g.5.3 g.5.4 g.5.5) fun Q1=>Cnd (Q1=true) (K Qx) (Zm (Ex.mk g.5.1 g.5.2 g.5.3 g.5.4 g.5.5) fun Z2=>K Z2)) (K Qx)) (Qa true (6:Int) fun Qh=>Wp g.3 fun Qk=>Wp g.4 fun Qo=>Qc [Qh,Qk,Qo] fun Qy=>Cnd (Qy=0) (Ua (Ex.mk g.5.1 g.5.2 g.5.3 g.5.4 g.5.5) fun Qx=>Cnd (Qx=true) (K Qy) (Zm (Ex.mk g.5.1 g.5.2 g.5.3 g.5.4 g.5.5) fun Q1=>K Q1)) (K Qy))
def Bb:Ba:=q8e Wm Wl q5k Ja q5l q2b
abbrev Vi:=List Prq->(Int->Prop)->Prop
def Bc(Qi:Zp)(Qa:Zd)(Qc:Za):Vi:=fun l K=>Fits l->Cnd ((4:Int)<(↑l.length:Int)) (K (5:Int)) (Fits l->Lp1 (fun Qk z82=>CAt l Qk (fun y3=>Qi y3.1 fun Qx=>Qa (match decide ((Qx,()).1=true) with|true=>false|false=>true) (6:Int) fun Q1=>Cnd ((0:Int)<Qk) (InI (Qk - 1)/\((0:Int)<=Max.max (Qk - 1) (0:Int)/\Max.max (Qk - 1) (0:Int)<(↑l.length:Int))/\∀y7,l[(Max.max (Qk - 1) (0:Int)).toNat]? =some y7->Qa (match decide (Lk.blt (flC C.prereq y7).1 (flC C.prereq y3).1) with|true=>false|false=>true) (9:Int) fun Zg=>Cnd (y3.2<1) (Qa true (3:Int) fun Qu=>Qc [Q1,Zg,Qu] fun Zl=>Cnd (Zl=0) (InI (Qk+1)/\z82 (Qk+1)) (K Zl)) (Qa (decide ((8:Int)<y3.2)) (3:Int) fun Qu=>Qc [Q1,Zg,Qu] fun Zl=>Cnd (Zl=0) (InI (Qk+1)/\z82 (Qk+1)) (K Zl))) (Qa false (9:Int) fun Z2=>Cnd (y3.2<1) (Qa true (3:Int) fun Zu=>Qc [Q1,Z2,Zu] fun Zg=>Cnd (Zg=0) (InI (Qk+1)/\z82 (Qk+1)) (K Zg)) (Qa (decide ((8:Int)<y3.2)) (3:Int) fun Zu=>Qc [Q1,Z2,Zu] fun Zg=>Cnd (Zg=0) (InI (Qk+1)/\z82 (Qk+1)) (K Zg)))) (K (0:Int))) (0:Int))
def Uy:Vi:=Bc Wm Wl Ja
abbrev Bd:=List Tgt->Int->(Int->Prop)->Prop
def q8f(Qi:Zp)(Qa:Zd)(Wp:R8)(Qc:Za):Bd:=fun l n K=>Fits l->Cnd ((8:Int)<(↑l.length:Int)) (K (5:Int)) (Fits l->Lp1 (fun Qk z82=>CAt l Qk (fun y3=>Fits y3.3->Qi y3.1 fun Q1=>Qa (match decide ((Q1,()).1=true) with|true=>false|false=>true) (6:Int) fun Z2=>Cnd (y3.2<1) (Qa true (3:Int) fun Zu=>Qa (decide ((↑y3.3.length:Int)=0)) (3:Int) fun Zg=>Wp y3.3 fun Qu=>Qc [Z2,Zu,Zg,Qu] fun Zl=>Cnd (Zl=0) (InI (Qk+1)/\z82 (Qk+1)) (K Zl)) (Qa (decide (n<y3.2)) (3:Int) fun Zu=>Qa (decide ((↑y3.3.length:Int)=0)) (3:Int) fun Zg=>Wp y3.3 fun Qu=>Qc [Z2,Zu,Zg,Qu] fun Zl=>Cnd (Zl=0) (InI (Qk+1)/\z82 (Qk+1)) (K Zl))) (K (0:Int))) (0:Int))
def q2u:Bd:=q8f Wm Wl q5k Ja
abbrev Hp:=List Rng->Int->(Int->Prop)->Prop
def z2s(Qa:Zd):Hp:=fun l variations K=>Fits l->Cnd ((16:Int)<(↑l.length:Int)) (K (5:Int)) (Fits l->Lp4 (fun Qk _ j2o q55 v4r=>CAt l Qk (fun y3=>Cnd (y3.3<1) (K (3:Int)) (Cnd (variations<y3.3) (K (3:Int)) (Cnd (y3.1=j2o) (Cnd (y3.2<=y3.1) (K (9:Int)) (Cnd (y3.3=q55) (K (9:Int)) (InI (Qk+1)/\v4r (Qk+1) y3.1 y3.2 y3.3))) (K (9:Int))))) (Qa (match decide (j2o=10000) with|true=>false|false=>true) (3:Int) fun Qo=>K Qo)) (0:Int) (0:Int) (0:Int) (0:Int))
def q2v:Hp:=z2s Wl
abbrev Hq:=Srv->Int->(Int->Prop)->Prop
def z2t(Qi:Zp)(Qa:Zd)(Qt:Jl)(Z7:Hp)(Qc:Za):Hq:=fun v variations K=>Cnd (v.1=0) (Qi v.2 fun Qb=>Cnd (Qb=true) (Qi v.3 fun Qh=>Qa (match decide ((Qh,()).1=true) with|true=>false|false=>true) (6:Int) fun Qk=>Qt v.4 fun Qo=>Qa (match decide ((Qo,()).1=true) with|true=>false|false=>true) (2:Int) fun Qy=>Z7 v.5 variations fun Qx=>Qc [Qk,Qy,Qx] fun Q1=>K Q1) (Qa true (6:Int) fun Qh=>Qt v.4 fun Qk=>Qa (match decide ((Qk,()).1=true) with|true=>false|false=>true) (2:Int) fun Qo=>Z7 v.5 variations fun Qy=>Qc [Qh,Qo,Qy] fun Qx=>K Qx)) (Cnd (v.1<1) (Qa true (3:Int) fun Qb=>Cnd (v.2=B8 []) (Cnd (v.3=B8 []) (Cnd (v.4=B8 []) (Fits v.5->Qa (decide ((0:Int)<(↑v.5.length:Int))) (15:Int) fun Qk=>Qc [Qb,Qk] fun Qo=>K Qo) (Qa true (15:Int) fun Qh=>Qc [Qb,Qh] fun Qk=>K Qk)) (Qa true (15:Int) fun Qh=>Qc [Qb,Qh] fun Qk=>K Qk)) (Qa true (15:Int) fun Qh=>Qc [Qb,Qh] fun Qk=>K Qk)) (Qa (decide (variations<v.1)) (3:Int) fun Qb=>Cnd (v.2=B8 []) (Cnd (v.3=B8 []) (Cnd (v.4=B8 []) (Fits v.5->Qa (decide ((0:Int)<(↑v.5.length:Int))) (15:Int) fun Qk=>Qc [Qb,Qk] fun Qo=>K Qo) (Qa true (15:Int) fun Qh=>Qc [Qb,Qh] fun Qk=>K Qk)) (Qa true (15:Int) fun Qh=>Qc [Qb,Qh] fun Qk=>K Qk)) (Qa true (15:Int) fun Qh=>Qc [Qb,Qh] fun Qk=>K Qk)))
def q2w:Hq:=z2t Wm Wl V8 q2v Ja
abbrev q2x:=List Rul->Int->(Int->Prop)->Prop
def z2u(Qi:Zp)(Zm:Ux)(J7:Hq)(Qc:Za):q2x:=fun l n K=>Fits l->Cnd ((12:Int)<(↑l.length:Int)) (K (5:Int)) (Fits l->Lp1 (fun Qk z82=>CAt l Qk (fun y3=>Qi y3.1 fun Qx=>Cnd (Qx=true) (((0:Int)<=(0:Int)/\(0:Int)<=Qk/\Qk<=(↑l.length:Int))/\((List.drop (Int.toNat (0:Int)) (List.take Qk.toNat l)).length<=(9223372036854775807:Nat)->Lp1 (fun Z2 y9d=>Cnd (Z2<(↑(List.drop (Int.toNat (0:Int)) (List.take Qk.toNat l)).length:Int)) (((0:Int)<=Z2/\Z2<(↑(List.drop (Int.toNat (0:Int)) (List.take Qk.toNat l)).length:Int))/\∀y8,(List.drop (Int.toNat (0:Int)) (List.take Qk.toNat l))[Z2.toNat]? =some y8->Cnd (y8.1=y3.1) (K (10:Int)) (InI (Z2+1)/\y9d (Z2+1))) (Zm (Ex.mk y3.2.1 y3.2.2 y3.2.3 y3.2.4 y3.2.5) fun Zu=>J7 (Srv.mk y3.3.1 y3.3.2 y3.3.3 y3.3.4 y3.3.5) n fun Zg=>Qc [Zu,Zg] fun Qu=>Cnd (Qu=0) (InI (Qk+1)/\z82 (Qk+1)) (K Qu))) (0:Int))) (K (6:Int))) (K (0:Int))) (0:Int))
def q60:q2x:=z2u Wm q2b q2w Ja
abbrev q5n:=Flg->(Int->Prop)->Prop
def z5g(Qi:Zp)(Qa:Zd)(Qc:Za)(Z6:Ho)(Jm:Vi)(Um:Bd)(H9:q2x)(J7:Hq):q5n:=fun f K=>Fits f.3->Qi f.1 fun Qh=>Qa (match decide ((Qh,()).1=true) with|true=>false|false=>true) (6:Int) fun Qk=>Cnd (f.2<1) (Qa true (7:Int) fun Qo=>Qa (decide ((8:Int)<(↑f.3.length:Int))) (5:Int) fun Qy=>Qa (decide ((↑f.3.length:Int)=0)) (3:Int) fun Qx=>Qc [Qk,Qo,Qy,Qx] fun Q1=>Cnd (Q1=0) (Fits f.3->Lp1 (fun Zu v9c=>CAt f.3 Zu (fun y9=>Z6 y9 fun Zl=>Qa (match decide ((flC C.val y9).1=(flC C.flag (f,()).1).2.1) with|true=>false|false=>true) (8:Int) fun Q3=>Qc [Zl,Q3] fun Qg=>Cnd (Qg=0) (InI (Zu+1)/\v9c (Zu+1)) (K Qg)) (Cnd (f.5<1) (Qa true (3:Int) fun Zg=>Jm f.6 fun Qu=>Um f.7 (↑f.3.length:Int) fun Zl=>H9 f.8 (↑f.3.length:Int) fun Q3=>Qc [Zg,Qu,Zl,Q3] fun Qg=>Cnd (Qg=0) (J7 (Srv.mk f.9.1 f.9.2 f.9.3 f.9.4 f.9.5) (↑f.3.length:Int) fun Zt=>K Zt) (K Qg)) (Qa (decide ((↑f.3.length:Int)<f.5)) (3:Int) fun Zg=>Jm f.6 fun Qu=>Um f.7 (↑f.3.length:Int) fun Zl=>H9 f.8 (↑f.3.length:Int) fun Q3=>Qc [Zg,Qu,Zl,Q3] fun Qg=>Cnd (Qg=0) (J7 (Srv.mk f.9.1 f.9.2 f.9.3 f.9.4 f.9.5) (↑f.3.length:Int) fun Zt=>K Zt) (K Qg)))) (0:Int)) (K Q1)) (Qa (decide ((5:Int)<f.2)) (7:Int) fun Qo=>Qa (decide ((8:Int)<(↑f.3.length:Int))) (5:Int) fun Qy=>Qa (decide ((↑f.3.length:Int)=0)) (3:Int) fun Qx=>Qc [Qk,Qo,Qy,Qx] fun Q1=>Cnd (Q1=0) (Fits f.3->Lp1 (fun Zu v9c=>CAt f.3 Zu (fun y9=>Z6 y9 fun Zl=>Qa (match decide ((flC C.val y9).1=(flC C.flag (f,()).1).2.1) with|true=>false|false=>true) (8:Int) fun Q3=>Qc [Zl,Q3] fun Qg=>Cnd (Qg=0) (InI (Zu+1)/\v9c (Zu+1)) (K Qg)) (Cnd (f.5<1) (Qa true (3:Int) fun Zg=>Jm f.6 fun Qu=>Um f.7 (↑f.3.length:Int) fun Zl=>H9 f.8 (↑f.3.length:Int) fun Q3=>Qc [Zg,Qu,Zl,Q3] fun Qg=>Cnd (Qg=0) (J7 (Srv.mk f.9.1 f.9.2 f.9.3 f.9.4 f.9.5) (↑f.3.length:Int) fun Zt=>K Zt) (K Qg)) (Qa (decide ((↑f.3.length:Int)<f.5)) (3:Int) fun Zg=>Jm f.6 fun Qu=>Um f.7 (↑f.3.length:Int) fun Zl=>H9 f.8 (↑f.3.length:Int) fun Q3=>Qc [Zg,Qu,Zl,Q3] fun Qg=>Cnd (Qg=0) (J7 (Srv.mk f.9.1 f.9.2 f.9.3 f.9.4 f.9.5) (↑f.3.length:Int) fun Zt=>K Zt) (K Qg)))) (0:Int)) (K Q1))
def q5o:q5n:=z5g Wm Wl Ja B9 Uy q2u q60 q2w
abbrev Rn:=Int->Int->(Bool->Prop)->Prop
def q03:Rn:=fun lo hi K=>Cnd ((0:Int)<=lo) (Cnd (lo<hi) (K (decide (hi<=10000))) (K false)) (K false)
abbrev q2y:=Lay_->(Int->Prop)->Prop
def z2v(Qi:Zp)(Qa:Zd)(Qt:Jl)(Qc:Za)(Zo:Rn):q2y:=fun l K=>Fits l.6->Qi l.1 fun Qh=>Cnd (Qh=true) (Qi l.2 fun Qk=>Qa (match decide ((Qk,()).1=true) with|true=>false|false=>true) (6:Int) fun Qo=>Qt l.3 fun Qy=>Qa (match decide ((Qy,()).1=true) with|true=>false|false=>true) (2:Int) fun Qx=>Cnd (l.4<0) (Qa true (3:Int) fun Q1=>Qa (decide ((32:Int)<(↑l.6.length:Int))) (5:Int) fun Z2=>Qc [Qo,Qx,Q1,Z2] fun Zu=>Cnd (Zu=0) (Fits l.6->Lp1 (fun Qu j0f=>CAt l.6 Qu (fun y11=>Zo y11.1 y11.2 fun Qg=>Cnd (Qg=true) (Cnd (y11.3<0) (K (3:Int)) (Cnd ((1099511627776:Int)<y11.3) (K (3:Int)) (Cnd ((0:Int)<Qu) (InI (Qu - 1)/\((0:Int)<=Qu - 1/\Qu - 1<(↑l.6.length:Int))/\∀y14,l.6[(Qu - 1).toNat]? =some y14->Cnd (y11.1<y14.2) (K (9:Int)) (InI (Qu+1)/\j0f (Qu+1))) (InI (Qu+1)/\j0f (Qu+1))))) (K (3:Int))) (K (0:Int))) (0:Int)) (K Zu)) (Cnd ((10000:Int)<l.4) (Qa true (3:Int) fun Q1=>Qa (decide ((32:Int)<(↑l.6.length:Int))) (5:Int) fun Z2=>Qc [Qo,Qx,Q1,Z2] fun Zu=>Cnd (Zu=0) (Fits l.6->Lp1 (fun Qu j0f=>CAt l.6 Qu (fun y11=>Zo y11.1 y11.2 fun Qg=>Cnd (Qg=true) (Cnd (y11.3<0) (K (3:Int)) (Cnd ((1099511627776:Int)<y11.3) (K (3:Int)) (Cnd ((0:Int)<Qu) (InI (Qu - 1)/\((0:Int)<=Qu - 1/\Qu - 1<(↑l.6.length:Int))/\∀y14,l.6[(Qu - 1).toNat]? =some y14->Cnd (y11.1<y14.2) (K (9:Int)) (InI (Qu+1)/\j0f (Qu+1))) (InI (Qu+1)/\j0f (Qu+1))))) (K (3:Int))) (K (0:Int))) (0:Int)) (K Zu)) (Cnd (l.5<0) (Qa true (3:Int) fun Q1=>Qa (decide ((32:Int)<(↑l.6.length:Int))) (5:Int) fun Z2=>Qc [Qo,Qx,Q1,Z2] fun Zu=>Cnd (Zu=0) (Fits l.6->Lp1 (fun Qu j0f=>CAt l.6 Qu (fun y11=>Zo y11.1 y11.2 fun Qg=>Cnd (Qg=true) (Cnd (y11.3<0) (K (3:Int)) (Cnd ((1099511627776:Int)<y11.3) (K (3:Int)) (Cnd ((0:Int)<Qu) (InI (Qu - 1)/\((0:Int)<=Qu - 1/\Qu - 1<(↑l.6.length:Int))/\∀y14,l.6[(Qu - 1).toNat]? =some y14->Cnd (y11.1<y14.2) (K (9:Int)) (InI (Qu+1)/\j0f (Qu+1))) (InI (Qu+1)/\j0f (Qu+1))))) (K (3:Int))) (K (0:Int))) (0:Int)) (K Zu)) (Qa (decide ((1099511627776:Int)<l.5)) (3:Int) fun Q1=>Qa (decide ((32:Int)<(↑l.6.length:Int))) (5:Int) fun Z2=>Qc [Qo,Qx,Q1,Z2] fun Zu=>Cnd (Zu=0) (Fits l.6->Lp1 (fun Qu j0f=>CAt l.6 Qu (fun y11=>Zo y11.1 y11.2 fun Qg=>Cnd (Qg=true) (Cnd (y11.3<0) (K (3:Int)) (Cnd ((1099511627776:Int)<y11.3) (K (3:Int)) (Cnd ((0:Int)<Qu) (InI (Qu - 1)/\((0:Int)<=Qu - 1/\Qu - 1<(↑l.6.length:Int))/\∀y14,l.6[(Qu - 1).toNat]? =some y14->Cnd (y11.1<y14.2) (K (9:Int)) (InI (Qu+1)/\j0f (Qu+1))) (InI (Qu+1)/\j0f (Qu+1))))) (K (3:Int))) (K (0:Int))) (0:Int)) (K Zu))))) (Qa true (6:Int) fun Qk=>Qt l.3 fun Qo=>Qa (match decide ((Qo,()).1=true) with|true=>false|false=>true) (2:Int) fun Qy=>Cnd (l.4<0) (Qa true (3:Int) fun Qx=>Qa (decide ((32:Int)<(↑l.6.length:Int))) (5:Int) fun Q1=>Qc [Qk,Qy,Qx,Q1] fun Z2=>Cnd (Z2=0) (Fits l.6->Lp1 (fun Zg j9y=>CAt l.6 Zg (fun y10=>Zo y10.1 y10.2 fun Q3=>Cnd (Q3=true) (Cnd (y10.3<0) (K (3:Int)) (Cnd ((1099511627776:Int)<y10.3) (K (3:Int)) (Cnd ((0:Int)<Zg) (InI (Zg - 1)/\((0:Int)<=Zg - 1/\Zg - 1<(↑l.6.length:Int))/\∀y13,l.6[(Zg - 1).toNat]? =some y13->Cnd (y10.1<y13.2) (K (9:Int)) (InI (Zg+1)/\j9y (Zg+1))) (InI (Zg+1)/\j9y (Zg+1))))) (K (3:Int))) (K (0:Int))) (0:Int)) (K Z2)) (Cnd ((10000:Int)<l.4) (Qa true (3:Int) fun Qx=>Qa (decide ((32:Int)<(↑l.6.length:Int))) (5:Int) fun Q1=>Qc [Qk,Qy,Qx,Q1] fun Z2=>Cnd (Z2=0) (Fits l.6->Lp1 (fun Zg j9y=>CAt l.6 Zg (fun y10=>Zo y10.1 y10.2 fun Q3=>Cnd (Q3=true) (Cnd (y10.3<0) (K (3:Int)) (Cnd ((1099511627776:Int)<y10.3) (K (3:Int)) (Cnd ((0:Int)<Zg) (InI (Zg - 1)/\((0:Int)<=Zg - 1/\Zg - 1<(↑l.6.length:Int))/\∀y13,l.6[(Zg - 1).toNat]? =some y13->Cnd (y10.1<y13.2) (K (9:Int)) (InI (Zg+1)/\j9y (Zg+1))) (InI (Zg+1)/\j9y (Zg+1))))) (K (3:Int))) (K (0:Int))) (0:Int)) (K Z2)) (Cnd (l.5<0) (Qa true (3:Int) fun Qx=>Qa (decide ((32:Int)<(↑l.6.length:Int))) (5:Int) fun Q1=>Qc [Qk,Qy,Qx,Q1] fun Z2=>Cnd (Z2=0) (Fits l.6->Lp1 (fun Zg j9y=>CAt l.6 Zg (fun y10=>Zo y10.1 y10.2 fun Q3=>Cnd (Q3=true) (Cnd (y10.3<0) (K (3:Int)) (Cnd ((1099511627776:Int)<y10.3) (K (3:Int)) (Cnd ((0:Int)<Zg) (InI (Zg - 1)/\((0:Int)<=Zg - 1/\Zg - 1<(↑l.6.length:Int))/\∀y13,l.6[(Zg - 1).toNat]? =some y13->Cnd (y10.1<y13.2) (K (9:Int)) (InI (Zg+1)/\j9y (Zg+1))) (InI (Zg+1)/\j9y (Zg+1))))) (K (3:Int))) (K (0:Int))) (0:Int)) (K Z2)) (Qa (decide ((1099511627776:Int)<l.5)) (3:Int) fun Qx=>Qa (decide ((32:Int)<(↑l.6.length:Int))) (5:Int) fun Q1=>Qc [Qk,Qy,Qx,Q1] fun Z2=>Cnd (Z2=0) (Fits l.6->Lp1 (fun Zg j9y=>CAt l.6 Zg (fun y10=>Zo y10.1 y10.2 fun Q3=>Cnd (Q3=true) (Cnd (y10.3<0) (K (3:Int)) (Cnd ((1099511627776:Int)<y10.3) (K (3:Int)) (Cnd ((0:Int)<Zg) (InI (Zg - 1)/\((0:Int)<=Zg - 1/\Zg - 1<(↑l.6.length:Int))/\∀y13,l.6[(Zg - 1).toNat]? =some y13->Cnd (y10.1<y13.2) (K (9:Int)) (InI (Zg+1)/\j9y (Zg+1))) (InI (Zg+1)/\j9y (Zg+1))))) (K (3:Int))) (K (0:Int))) (0:Int)) (K Z2)))))
def q2z:q2y:=z2v Wm Wl V8 Ja q03
abbrev q20:=List Spn->(Int->Prop)->Prop
def z2w(Zo:Rn):q20:=fun l K=>Fits l->Cnd ((16:Int)<(↑l.length:Int)) (K (5:Int)) (Fits l->Lp1 (fun Qk z82=>CAt l Qk (fun y3=>Zo y3.1 y3.2 fun Qx=>Cnd (Qx=true) (Cnd ((0:Int)<Qk) (InI (Qk - 1)/\((0:Int)<=Qk - 1/\Qk - 1<(↑l.length:Int))/\∀y6,l[(Qk - 1).toNat]? =some y6->Cnd (y3.1<=y6.2) (K (9:Int)) (InI (Qk+1)/\z82 (Qk+1))) (InI (Qk+1)/\z82 (Qk+1))) (K (3:Int))) (K (0:Int))) (0:Int))
def q61:q20:=z2w q03
abbrev Uz:=Exper->(Int->Prop)->Prop
def q21(Qi:Zp)(Qa:Zd)(Qt:Jl)(V6:q20)(Z7:Hp)(Zm:Ux)(Qc:Za):Uz:=fun x K=>Qi x.1 fun Qb=>Cnd (Qb=true) (Qi x.2 fun Qh=>Cnd (Qh=true) (Qi x.3 fun Qk=>Qa (match decide ((Qk,()).1=true) with|true=>false|false=>true) (6:Int) fun Qo=>Qt x.4 fun Qy=>Qa (match decide ((Qy,()).1=true) with|true=>false|false=>true) (2:Int) fun Qx=>Cnd (x.5<1) (Qa true (7:Int) fun Q1=>V6 x.6 fun Z2=>Z7 x.7 (8:Int) fun Zu=>Zm (Ex.mk x.8.1 x.8.2 x.8.3 x.8.4 x.8.5) fun Zg=>Qc [Qo,Qx,Q1,Z2,Zu,Zg] fun Qu=>K Qu) (Qa (decide ((3:Int)<x.5)) (7:Int) fun Q1=>V6 x.6 fun Z2=>Z7 x.7 (8:Int) fun Zu=>Zm (Ex.mk x.8.1 x.8.2 x.8.3 x.8.4 x.8.5) fun Zg=>Qc [Qo,Qx,Q1,Z2,Zu,Zg] fun Qu=>K Qu)) (Qa true (6:Int) fun Qk=>Qt x.4 fun Qo=>Qa (match decide ((Qo,()).1=true) with|true=>false|false=>true) (2:Int) fun Qy=>Cnd (x.5<1) (Qa true (7:Int) fun Qx=>V6 x.6 fun Q1=>Z7 x.7 (8:Int) fun Z2=>Zm (Ex.mk x.8.1 x.8.2 x.8.3 x.8.4 x.8.5) fun Zu=>Qc [Qk,Qy,Qx,Q1,Z2,Zu] fun Zg=>K Zg) (Qa (decide ((3:Int)<x.5)) (7:Int) fun Qx=>V6 x.6 fun Q1=>Z7 x.7 (8:Int) fun Z2=>Zm (Ex.mk x.8.1 x.8.2 x.8.3 x.8.4 x.8.5) fun Zu=>Qc [Qk,Qy,Qx,Q1,Z2,Zu] fun Zg=>K Zg))) (Qa true (6:Int) fun Qh=>Qt x.4 fun Qk=>Qa (match decide ((Qk,()).1=true) with|true=>false|false=>true) (2:Int) fun Qo=>Cnd (x.5<1) (Qa true (7:Int) fun Qy=>V6 x.6 fun Qx=>Z7 x.7 (8:Int) fun Q1=>Zm (Ex.mk x.8.1 x.8.2 x.8.3 x.8.4 x.8.5) fun Z2=>Qc [Qh,Qo,Qy,Qx,Q1,Z2] fun Zu=>K Zu) (Qa (decide ((3:Int)<x.5)) (7:Int) fun Qy=>V6 x.6 fun Qx=>Z7 x.7 (8:Int) fun Q1=>Zm (Ex.mk x.8.1 x.8.2 x.8.3 x.8.4 x.8.5) fun Z2=>Qc [Qh,Qo,Qy,Qx,Q1,Z2] fun Zu=>K Zu))
def U0:Uz:=q21 Wm Wl V8 q61 q2v q2b Ja
abbrev Uj:=Envt->(Int->Prop)->Prop
def Hr(R2:Uz)(q7q:q2y)(z0i:q5n)(q36:Ba)(Qt:Jl)(Qa:Zd)(Qi:Zp)(Jd:Uv)(Qc:Za):Uj:=fun v K=>Jn1 (fun Qb=>Cnd (Qb=0) (Jn1 (fun Qh=>Cnd (Qh=0) (Jn1 (fun Qk=>Cnd (Qk=0) (Jn1 (fun Qo=>Cnd (Qo=0) (Fits v.6->Cnd ((16:Int)<(↑v.6.length:Int)) (K (5:Int)) (Fits v.6->Lp1 (fun Q1 v4u=>CAt v.6 Q1 (fun y7=>R2 (Exper.mk y7.1 y7.2 y7.3 y7.4 y7.5 y7.6 y7.7 (Ex.mk y7.8.1 y7.8.2 y7.8.3 y7.8.4 y7.8.5)) fun Zg=>Cnd (Zg=0) (Cnd ((0:Int)<Q1) (InI (Q1 - 1)/\((0:Int)<=Q1 - 1/\Q1 - 1<(↑v.6.length:Int))/\∀y10,v.6[(Q1 - 1).toNat]? =some y10->Cnd (Lk.blt y10.1 y7.1) (InI (Q1+1)/\v4u (Q1+1)) (K (9:Int))) (InI (Q1+1)/\v4u (Q1+1))) (K Zg)) (K (0:Int))) (0:Int))) (K Qo)) fun v4v=>Fits v.5->Cnd ((6:Int)<(↑v.5.length:Int)) (v4v (5:Int)) (Fits v.5->Lp1 (fun Q1 v4u=>CAt v.5 Q1 (fun y7=>q7q y7 fun Zg=>Cnd (Zg=0) (Cnd ((0:Int)<Q1) (InI (Q1 - 1)/\((0:Int)<=Q1 - 1/\Q1 - 1<(↑v.5.length:Int))/\∀y10,v.5[(Q1 - 1).toNat]? =some y10->Cnd (Lk.blt y10.1 y7.1) (InI (Q1+1)/\v4u (Q1+1)) (v4v (9:Int))) (InI (Q1+1)/\v4u (Q1+1))) (v4v Zg)) (v4v (0:Int))) (0:Int))) (K Qk)) fun j61=>Fits v.4->Cnd ((30:Int)<(↑v.4.length:Int)) (j61 (5:Int)) (Fits v.4->Lp1 (fun Qx v9b=>CAt v.4 Qx (fun y6=>z0i (Flg.mk y6.1 y6.2 y6.3 y6.4 y6.5 y6.6 y6.7 y6.8 (Srv.mk y6.9.1 y6.9.2 y6.9.3 y6.9.4 y6.9.5)) fun Zu=>Cnd (Zu=0) (Cnd ((0:Int)<Qx) (InI (Qx - 1)/\((0:Int)<=Qx - 1/\Qx - 1<(↑v.4.length:Int))/\∀y9,v.4[(Qx - 1).toNat]? =some y9->Cnd (Lk.blt y9.1 y6.1) (InI (Qx+1)/\v9b (Qx+1)) (j61 (9:Int))) (InI (Qx+1)/\v9b (Qx+1))) (j61 Zu)) (j61 (0:Int))) (0:Int))) (K Qh)) fun j9w=>Fits v.3->Cnd ((20:Int)<(↑v.3.length:Int)) (j9w (5:Int)) (Fits v.3->Lp1 (fun Qy v4y=>CAt v.3 Qy (fun y5=>q36 (Seg.mk y5.1 y5.2 y5.3 y5.4 (Ex.mk y5.5.1 y5.5.2 y5.5.3 y5.5.4 y5.5.5)) fun Z2=>Cnd (Z2=0) (Cnd ((0:Int)<Qy) (InI (Qy - 1)/\((0:Int)<=Qy - 1/\Qy - 1<(↑v.3.length:Int))/\∀y8,v.3[(Qy - 1).toNat]? =some y8->Cnd (Lk.blt y8.1 y5.1) (InI (Qy+1)/\v4y (Qy+1)) (j9w (9:Int))) (InI (Qy+1)/\v4y (Qy+1))) (j9w Z2)) (j9w (0:Int))) (0:Int))) (K Qb)) fun z0f=>Qt v.1.1 fun Qh=>Qa (match decide ((Qh,()).1=true) with|true=>false|false=>true) (2:Int) fun Qk=>Cnd (v.1.3<0) (Qa true (3:Int) fun Qo=>Qi v.1.2 fun Qy=>Cnd (Qy=true) (Qa false (6:Int) fun Qx=>Jd v.2 fun Q1=>Qc [Qk,Qo,Qx,Q1] fun Z2=>z0f Z2) (Cnd (v.1.2=B8 []) (Qa (match decide ((flC C.env (v,()).1).2.2.1=0) with|true=>false|false=>true) (6:Int) fun Qx=>Jd v.2 fun Q1=>Qc [Qk,Qo,Qx,Q1] fun Z2=>z0f Z2) (Qa true (6:Int) fun Qx=>Jd v.2 fun Q1=>Qc [Qk,Qo,Qx,Q1] fun Z2=>z0f Z2))) (Qa (decide ((10000:Int)<v.1.3)) (3:Int) fun Qo=>Qi v.1.2 fun Qy=>Cnd (Qy=true) (Qa false (6:Int) fun Qx=>Jd v.2 fun Q1=>Qc [Qk,Qo,Qx,Q1] fun Z2=>z0f Z2) (Cnd (v.1.2=B8 []) (Qa (match decide ((flC C.env (v,()).1).2.2.1=0) with|true=>false|false=>true) (6:Int) fun Qx=>Jd v.2 fun Q1=>Qc [Qk,Qo,Qx,Q1] fun Z2=>z0f Z2) (Qa true (6:Int) fun Qx=>Jd v.2 fun Q1=>Qc [Qk,Qo,Qx,Q1] fun Z2=>z0f Z2)))
def Wy:Uj:=Hr U0 q2z q5o Bb V8 Wl Wm Vp Ja
abbrev q22:=List Decl->BA->BA->(Int->Prop)->Prop
def Hs:q22:=fun l kind name K=>Fits l->Lp1 (fun Qh q4i=>CAt l Qh (fun y2=>Cnd (y2.1=kind) (Cnd (y2.2=name) (K y2.3) (InI (Qh+1)/\q4i (Qh+1))) (InI (Qh+1)/\q4i (Qh+1))) (Cnd (name=B8 [107,101,121]) (K (3:Int)) (K (0:Int)))) (0:Int)
abbrev z2x:=Ex->Int->(Bool->Prop)->Prop
def q0a:z2x:=fun e t K=>Cnd (e.1=6) (K true) (Cnd (e.1=8) (Cnd (t=5) (K false) (Fits e.4->Lp1 (fun Qh q4i=>CAt e.4 Qh (fun y2=>Cnd (y2.1=t) (InI (Qh+1)/\q4i (Qh+1)) (K (match decide ((0:Int)<=Qh) with|true=>false|false=>true))) (K true)) (0:Int))) (Fits e.4->Cnd ((↑e.4.length:Int)=0) (K false) (((0:Int)<=(0:Int)/\(0:Int)<(↑e.4.length:Int))/\∀y1,e.4[Int.toNat (0:Int)]? =some y1->Cnd (e.1=7) (K (decide (y1.1=t))) (Jn1 (fun Qo=>Cnd (Qo=true) (Cnd (t=3) (K (decide (y1.1=3))) (K false)) (Cnd (e.1=11) (Cnd (t=3) (K (decide (y1.1=3))) (Cnd (t=5) (K (decide (y1.1=3))) (K false))) (Cnd (t=2) (K (decide (y1.1=t))) (Cnd (t=3) (K (decide (y1.1=t))) (Cnd (t=4) (K (decide (y1.1=t))) (K false)))))) fun v4v=>Cnd (e.1=9) (v4v (decide (e.1=9))) (v4v (decide (e.1=10)))))))
abbrev Wt:=List Decl->List BA->Ex->(Int->Prop)->Prop
def z2y(q0n:q22)(w41:z2x)(X:Wt):Wt:=fun l segments e K=>Jn0 (Fits e.5->Lp1 (fun Qh q4i=>CAt e.5 Qh (fun y2=>X l segments (Ex.mk y2.1 y2.2 y2.3 y2.4 y2.5) fun Qy=>Cnd (Qy=0) (InI (Qh+1)/\q4i (Qh+1)) (K Qy)) (K (0:Int))) (0:Int)) fun Qb=>Cnd (e.1=5) (Fits segments->Lp1 (fun Qk z82=>CAt segments Qk (fun y3=>Cnd (e.3=y3) (Cnd ((0:Int)<=Qk) Qb (K (11:Int))) (InI (Qk+1)/\z82 (Qk+1))) (Cnd ((0:Int)<=(-1:Int)) Qb (K (11:Int)))) (0:Int)) (Cnd ((6:Int)<=e.1) (Cnd (e.1<=15) (q0n l e.2 e.3 fun Qh=>Cnd (Qh=0) (K (11:Int)) (w41 (Ex.mk e.1 e.2 e.3 e.4 e.5) Qh fun Qk=>Cnd (Qk=true) Qb (K (8:Int)))) Qb) Qb)
def q0b:Wt:=fun l segments e K=> ∀X:Wt,(∀l segments e K,z2y Hs q0a X l segments e K->X l segments e K)->X l segments e K
abbrev V1:=List BA->(List BA->Prop)->Prop
def V2(x:List BA)(K:List BA->Prop):Prop:=K (srt x)
abbrev Wz:=List BA->(List BA->Prop)->Prop
def W4(s:List BA)(K:List BA->Prop):Prop:=K (cpt s)
abbrev Re:=Ex->(List BA->Prop)->Prop
def q6c(Vf:Gh)(Wr:V1)(Ju:Wz):Re:=fun e K=>Vf (Ex.mk e.1 e.2 e.3 e.4 e.5) fun Qb=>Fits Qb->Lp2 (fun Qk Zq q2g=>CAt Qb Zq (fun y3=>Cnd (y3.1=5) (Sml (Qk++[y3.3]).length/\InI (Zq+1)/\q2g (Qk++[y3.3]) (Zq+1)) (InI (Zq+1)/\q2g Qk (Zq+1))) (Wr Qk fun Qo=>Ju Qo fun Qy=>K Qy)) [] (0:Int)
def q1a:Re:=q6c V7 V2 W4
abbrev z0t:=List BA->List Edg->(List BA->Prop)->Prop
def P_graph_Cyclic(nodes:List BA)(edges:List Edg)(K:List BA->Prop):Prop:=Go.Fl.P_graph_Cyclic nodes (edges.map fun e=>(e.1,e.2)) K
abbrev q2c:=Envt->BA->(Flg->Bool->Prop)->Prop
def q5p:q2c:=fun v key K=>Fits v.4->Lp1 (fun Qh q4i=>CAt v.4 Qh (fun y2=>Cnd (y2.1=key) (Cnd (Qh<0) (K (Flg.mk (B8 []) (0:Int) [] false (0:Int) [] [] [] (Srv.mk (0:Int) (B8 []) (B8 []) (B8 []) [])) false) (At v.4 Qh fun y4=>K (Flg.mk y4.1 y4.2 y4.3 y4.4 y4.5 y4.6 y4.7 y4.8 (Srv.mk y4.9.1 y4.9.2 y4.9.3 y4.9.4 y4.9.5)) true)) (InI (Qh+1)/\q4i (Qh+1))) (Cnd ((-1:Int)<(0:Int)) (K (Flg.mk (B8 []) (0:Int) [] false (0:Int) [] [] [] (Srv.mk (0:Int) (B8 []) (B8 []) (B8 []) [])) false) (At v.4 (-1:Int) fun y2=>K (Flg.mk y2.1 y2.2 y2.3 y2.4 y2.5 y2.6 y2.7 y2.8 (Srv.mk y2.9.1 y2.9.2 y2.9.3 y2.9.4 y2.9.5)) true))) (0:Int)
abbrev q04:=List Decl->Srv->(Int->Prop)->Prop
def z0u(q0n:q22):q04:=fun l v K=>Cnd (v.1=0) (q0n l v.2 v.3 fun Qb=>Cnd (Qb=0) (K (11:Int)) (Cnd (Qb=5) (K (8:Int)) (K (0:Int)))) (K (0:Int))
def q47:q04:=z0u Hs
abbrev q5q:=Envt->List BA->Flg->(Int->Prop)->Prop
def z5h(U7:q2c)(Je:Wt)(q08:q04)(Z8:We):q5q:=fun v segments f K=>Fits f.6->Lp1 (fun Qh q4i=>CAt f.6 Qh (fun y2=>U7 (Envt.mk (Sett.mk v.1.1 v.1.2 v.1.3) v.2 v.3 v.4 v.5 v.6) y2.1 fun Qy Vz=>Cnd (Vz=true) (Fits Qy.3->Cnd ((↑Qy.3.length:Int)<y2.2) (K (3:Int)) (InI (Qh+1)/\q4i (Qh+1))) (K (11:Int))) (Fits f.8->Lp1 (fun Qo z2a=>CAt f.8 Qo (fun y4=>Je v.2 segments (Ex.mk y4.2.1 y4.2.2 y4.2.3 y4.2.4 y4.2.5) fun Q1=>Cnd (Q1=0) (q08 v.2 (Srv.mk y4.3.1 y4.3.2 y4.3.3 y4.3.4 y4.3.5) fun Z2=>Cnd (Z2=0) (InI (Qo+1)/\z2a (Qo+1)) (K Z2)) (K Q1)) (q08 v.2 (Srv.mk f.9.1 f.9.2 f.9.3 f.9.4 f.9.5) fun Qy=>Cnd (Qy=0) (Z8 f.8 fun Qx q41=>Cnd (q41=true) (Fits Qx->Cnd ((0:Int)<(↑Qx.length:Int)) (K (13:Int)) (K (0:Int))) (K (19:Int))) (K Qy))) (0:Int))) (0:Int)
def q9w:q5q:=z5h q5p q0b q47 Wf
abbrev q62:=Envt->(List Edg->Prop)->Prop
def q0c:q62:=fun v K=>Fits v.4->Lp2 (fun Qh Jp q54=>CAt v.4 Jp (fun y2=>Fits y2.6->Lp2 (fun Qx q41 v0n=>CAt y2.6 q41 (fun y6=>Sml (Qx++[Edg.mk y2.1 y6.1]).length/\InI (q41+1)/\v0n (Qx++[Edg.mk y2.1 y6.1]) (q41+1)) (InI (Jp+1)/\q54 Qx (Jp+1))) Qh (0:Int)) (K Qh)) [] (0:Int)
abbrev q6d:=List Spn->List Spn->(List Spn->Prop)->Prop
def q1b(a:List Spn)(b:List Spn)(K:List Spn->Prop):Prop:=K ((Go.Fl.Sp.runs (fun i=>Go.Fl.Sp.cov (a.map fun s=>(s.lo,s.hi)) i && Go.Fl.Sp.cov (b.map fun s=>(s.lo,s.hi)) i) 10000).map fun s=>Spn.mk s.1 s.2)
abbrev U1:=Envt->List BA->Int->(Int->Prop)->Prop
def q23(U7:q2c)(Je:Wt)(q1k:q6d):U1:=fun v segments i K=>At v.6 i fun y0=>Jn1 (fun Qk=>U7 (Envt.mk (Sett.mk v.1.1 v.1.2 v.1.3) v.2 v.3 v.4 v.5 v.6) y0.3 fun Qo Vv=>Cnd (Qk<0) (K (11:Int)) (Cnd (Vv=true) (Fits y0.7->Lp1 (fun Qx v9b=>CAt y0.7 Qx (fun y6=>Fits Qo.3->Cnd ((↑Qo.3.length:Int)<y6.3) (K (3:Int)) (InI (Qx+1)/\v9b (Qx+1))) (Je v.2 segments (Ex.mk y0.8.1 y0.8.2 y0.8.3 y0.8.4 y0.8.5) fun Q1=>Cnd (Q1=0) (Cnd (y0.5=3) (K Q1) (At v.5 Qk fun y7=>((0:Int)<=(0:Int)/\(0:Int)<=i/\i<=(↑v.6.length:Int))/\((List.drop (Int.toNat (0:Int)) (List.take i.toNat v.6)).length<=(9223372036854775807:Nat)->Lp3 (fun Qu Vy q0o j9z=>Cnd (q0o<(↑(List.drop (Int.toNat (0:Int)) (List.take i.toNat v.6)).length:Int)) (((0:Int)<=q0o/\q0o<(↑(List.drop (Int.toNat (0:Int)) (List.take i.toNat v.6)).length:Int))/\∀y11,(List.drop (Int.toNat (0:Int)) (List.take i.toNat v.6))[q0o.toNat]? =some y11->Jn1 (fun Qg=>Cnd (Vy=true) (InI (q0o+1)/\j9z Qg true (q0o+1)) (Cnd (y0.5=2) (Cnd (y11.5=2) (Cnd (y11.3=y0.3) (InI (q0o+1)/\j9z Qg (match decide ((flC C.exper y11).2.1=(flC C.exper y0).2.1) with|true=>false|false=>true) (q0o+1)) (InI (q0o+1)/\j9z Qg false (q0o+1))) (InI (q0o+1)/\j9z Qg false (q0o+1))) (InI (q0o+1)/\j9z Qg false (q0o+1)))) fun y9g=>Jn1 (fun Zt=>Cnd (Zt=true) (Sml (Qu++y11.6).length/\y9g (Qu++y11.6)) (y9g Qu)) fun w75=>Cnd (y11.2=y0.2) (w75 (match decide ((flC C.exper y11).2.2.2.2.1=3) with|true=>false|false=>true)) (w75 false)) (q1k y0.6 Qu fun Zl=>Fits Zl->Cnd ((0:Int)<(↑Zl.length:Int)) (K (14:Int)) (Cnd (Vy=true) (K (14:Int)) (K (0:Int))))) [Spn.mk (0:Int) y7.4] false (0:Int)))) (K Q1))) (0:Int)) (K (11:Int)))) fun j61=>Fits v.5->Lp1 (fun Qy v4y=>CAt v.5 Qy (fun y5=>Cnd (y5.1=y0.2) (j61 Qy) (InI (Qy+1)/\v4y (Qy+1))) (j61 (-1:Int))) (0:Int)
def Rx:U1:=q23 q5p q0b q1b
abbrev Wg:=Envt->(BA->Int->Prop)->Prop
def Ht(Ra:Uj)(q1l:Re)(Ua:q18)(Je:Wt)(q09:z0t)(z0j:q5q)(q7r:q62)(R3:U1):Wg:=fun v K=>Ra (Envt.mk (Sett.mk v.1.1 v.1.2 v.1.3) v.2 v.3 v.4 v.5 v.6) fun Qb=>Cnd (Qb=0) (Fits v.3->Lp2 (fun Qk Zq q2g=>CAt v.3 Zq (fun y3=>Sml (Qk++[y3.1]).length/\InI (Zq+1)/\q2g (Qk++[y3.1]) (Zq+1)) (Fits v.3->Lp3 (fun Qy Vz j0g v9i=>CAt v.3 Vz (fun y5=>Jn2 (fun Z2 q9n=>q1l (Ex.mk y5.5.1 y5.5.2 y5.5.3 y5.5.4 y5.5.5) fun Zu=>Fits Zu->Lp3 (fun Qu Vy q0o j9z=>CAt Zu Vy (fun y11=>Sml (Qu++[Edg.mk y5.1 y11]).length/\InI (Vy+1)/\j9z (Qu++[Edg.mk y5.1 y11]) (Vy+1) q0o) (InI (Vz+1)/\v9i Qu (Vz+1) q0o)) q9n (0:Int) Z2) fun y9h=>Ua (Ex.mk y5.5.1 y5.5.2 y5.5.3 y5.5.4 y5.5.5) fun Zu=>Cnd (Zu=true) (y9h j0g Qy) (Je v.2 j0g (Ex.mk y5.5.1 y5.5.2 y5.5.3 y5.5.4 y5.5.5) fun Zg=>Cnd (Zg=0) (y9h j0g Qy) ((↑((B8 [115,101,103,109,101,110,116,32]).size+y5.1.size):Int)<=(9223372036854775807:Int)/\K (B8 [115,101,103,109,101,110,116,32]++y5.1) Zg))) (q09 j0g Qy fun Qx=>Fits Qx->Cnd ((0:Int)<(↑Qx.length:Int)) (((0:Int)<=(0:Int)/\(0:Int)<(↑Qx.length:Int))/\∀y7,Qx[Int.toNat (0:Int)]? =some y7->(↑((B8 [115,101,103,109,101,110,116,32]).size+y7.size):Int)<=(9223372036854775807:Int)/\K (B8 [115,101,103,109,101,110,116,32]++y7) (12:Int)) (Fits v.4->Lp4 (fun Zu z4s y9i y3s y9t=>CAt v.4 Zu (fun y9=>z0j (Envt.mk (Sett.mk v.1.1 v.1.2 v.1.3) v.2 v.3 v.4 v.5 v.6) y9i (Flg.mk y9.1 y9.2 y9.3 y9.4 y9.5 y9.6 y9.7 y9.8 (Srv.mk y9.9.1 y9.9.2 y9.9.3 y9.9.4 y9.9.5)) fun Zl=>Cnd (Zl=0) (InI (Zu+1)/\y9t (Zu+1) z4s y9i y3s) ((↑((B8 [102,108,97,103,32]).size+y9.1.size):Int)<=(9223372036854775807:Int)/\K (B8 [102,108,97,103,32]++y9.1) Zl)) (Fits v.4->Lp2 (fun Qu Vy y63=>CAt v.4 Vy (fun y11=>Sml (Qu++[y11.1]).length/\InI (Vy+1)/\y63 (Qu++[y11.1]) (Vy+1)) (q7r (Envt.mk (Sett.mk v.1.1 v.1.2 v.1.3) v.2 v.3 v.4 v.5 v.6) fun Zl=>q09 Qu Zl fun Q3=>Fits Q3->Cnd ((0:Int)<(↑Q3.length:Int)) (((0:Int)<=(0:Int)/\(0:Int)<(↑Q3.length:Int))/\∀y14,Q3[Int.toNat (0:Int)]? =some y14->(↑((B8 [102,108,97,103,32]).size+y14.size):Int)<=(9223372036854775807:Int)/\K (B8 [102,108,97,103,32]++y14) (12:Int)) (Fits v.6->LpH (fun (q0y:Int×List BA×List BA×List Edg×List Edg×List BA×List BA×Unit) (u1a:Int×List BA×List BA×List Edg×List Edg×List BA×List BA×Unit->Prop)=>CAt v.6 q0y.1 (fun y16=>R3 (Envt.mk (Sett.mk v.1.1 v.1.2 v.1.3) v.2 v.3 v.4 v.5 v.6) q0y.2.2.2.2.2.1 q0y.1 fun Qm=>Cnd (Qm=0) (InI (q0y.1+1)/\u1a (q0y.1+1,q0y.2.1,q0y.2.2.1,q0y.2.2.2.1,q0y.2.2.2.2.1,q0y.2.2.2.2.2.1,q0y.2.2.2.2.2.2.1,())) ((↑((B8 [101,120,112,101,114,105,109,101,110,116,32]).size+y16.1.size):Int)<=(9223372036854775807:Int)/\K (B8 [101,120,112,101,114,105,109,101,110,116,32]++y16.1) Qm)) (K (B8 []) (0:Int))) ((0:Int),Q3,Qu,Zl,y3s,y9i,z4s,())))) [] (0:Int))) (0:Int) Qx j0g Qy))) [] (0:Int) Qk)) [] (0:Int)) (K (B8 []) Qb)
def Wh:Wg:=Ht Wy q1a q5l q0b P_graph_Cyclic q9w q0c Rx
abbrev q24:=(Bool->Prop)->Prop
def z2z(Z8:We)(Z9:Wg):q24:=fun K=>Z8 [Rul.mk (B8 [97]) (Ex.mk (1:Int) (B8 []) (B8 []) [] []) (Srv.mk (0:Int) (B8 []) (B8 []) (B8 []) []),Rul.mk (B8 [97]) (Ex.mk (1:Int) (B8 []) (B8 []) [] []) (Srv.mk (0:Int) (B8 []) (B8 []) (B8 []) [])] fun Qb Zk=>Z9 (Envt.mk (Sett.mk (B8 []) (B8 []) (0:Int)) [] [] [] [] []) fun Qh Jp=>Cnd (Zk=true) (Fits Qb->Cnd ((↑Qb.length:Int)=1) (((0:Int)<=(0:Int)/\(0:Int)<(↑Qb.length:Int))/\∀y3,Qb[Int.toNat (0:Int)]? =some y3->Cnd (y3=2) (Cnd (Qh=B8 []) (K (decide (Jp=0))) (K false)) (K false)) (K false)) (K false)
def q63:q24:=z2z Wf Wh
abbrev w2t:=List Int->Int->(List Int->Int->Prop)->Prop
def w2u:w2t:=fun list_ most K=>Jn1 (fun Qb=>K Qb (0:Int)) fun z0f=>Fits list_->Cnd (most<(↑list_.length:Int)) (((0:Int)<=(0:Int)/\(0:Int)<=most/\most<=(↑list_.length:Int))/\z0f (List.drop (Int.toNat (0:Int)) (List.take most.toNat list_))) (z0f list_)
abbrev Hc:=(List Decl->Prop)->Prop
def Be:Hc:=fun K=>K [Decl.mk (B8 [100,101,118,105,99,101]) (B8 [99,111,114,101,115]) (2:Int),Decl.mk (B8 [100,101,118,105,99,101]) (B8 [111,115]) (3:Int),Decl.mk (B8 [117,115,101,114]) (B8 [97,103,101]) (2:Int),Decl.mk (B8 [117,115,101,114]) (B8 [97,112,112]) (4:Int),Decl.mk (B8 [117,115,101,114]) (B8 [98,101,116,97]) (1:Int),Decl.mk (B8 [117,115,101,114]) (B8 [99,111,117,110,116,114,121]) (3:Int),Decl.mk (B8 [117,115,101,114]) (B8 [112,108,97,110]) (3:Int),Decl.mk (B8 [117,115,101,114]) (B8 [116,97,103,115]) (5:Int)]
abbrev j6o:=List Int->Int->(Bool->Int->Prop)->Prop
def w2v:j6o:=fun list at_ K=>Fits list->K (decide (at_<(↑list.length:Int))) at_
abbrev Ji:=List Int->Int->Int->(Int->Int->Prop)->Prop
def w2w(j62:j6o):Ji:=fun list at_ n K=>j62 list at_ fun Qb Zk=>Cnd (Qb=true) (InI (Zk+1)/\InI (Zk+1 - (1:Int))/\((0:Int)<=Zk+1 - (1:Int)/\Zk+1 - (1:Int)<(↑list.length:Int))/\∀y1,list[(Zk+1 - (1:Int)).toNat]? =some y1->InI y1/\n≠(0:Int)/\K (y1.tmod n) (Zk+1)) (K (0:Int) Zk)
def Jb:Ji:=w2w w2v
abbrev q0d:=List Int->Int->(BA->Int->Prop)->Prop
def w2x(Qd:Ji):q0d:=fun list at_ K=>Qd list at_ (11:Int) fun Qb Zk=>((0:Int)<=Qb/\Qb<(↑(11:Nat):Int))/\∀y1,z45[Qb.toNat]? =some y1->K y1 Zk
def q9x:q0d:=w2x Jb
abbrev q25:=List Int->Int->Int->(Int->Int->Prop)->Prop
def w2y(Qd:Ji):q25:=fun list at_ n K=>Qd list at_ (256:Int) fun Qb Zk=>InI ((256:Int)*Qb)/\Qd list Zk (256:Int) fun Qh Jp=>InI ((256:Int)*Qb+Qh)/\n≠(0:Int)/\K (((256:Int)*Qb+Qh).tmod n) Jp
def z22:q25:=w2y Jb
abbrev z7f:=Int->List BA->(List BA->Prop)->Prop
def j6p:z7f:=fun n l K=>((0:Int)<=n/\n<=(↑l.length:Int))/\K (List.take n.toNat l)
abbrev q64:=List Int->Int->(List BA->Int->Prop)->Prop
def w2z(Qd:Ji):q64:=fun list at_ K=>Qd list at_ (10:Int) fun Qb Zk=>Lp3 (fun Qh Jp j2l v88=>Qd list j2l (4:Int) fun Qk Zq=>Cnd (Jp<Qk) (InI (Qb+Jp)/\(10:Int)≠(0:Int)/\InI ((48:Int)+(Qb+Jp).tmod (10:Int))/\(↑((B8 [107]).size+(Go.Utf8.encode (IntKind.i32.wrap ((48:Int)+(Qb+Jp).tmod (10:Int)))).size):Int)<=(9223372036854775807:Int)/\Sml (Qh++[B8 [107]++Go.Utf8.encode (IntKind.i32.wrap ((48:Int)+(Qb+Jp).tmod (10:Int)))]).length/\InI (Jp+1)/\v88 (Qh++[B8 [107]++Go.Utf8.encode (IntKind.i32.wrap ((48:Int)+(Qb+Jp).tmod (10:Int)))]) (Jp+1) Zq) (Lp2 (fun Qo Vv z6z=>Fits Vv->CAt Vv Qo (fun y5=>InI (Qo - 1)/\((0:Int)<=Qo - 1/\Qo - 1<(↑Vv.length:Int))/\∀y7,Vv[(Qo - 1).toNat]? =some y7->Cnd (Lk.blt y7 y5) (InI (Qo+1)/\z6z (Qo+1) Vv) (((0:Int)<=Qo/\Qo<=(↑Vv.length:Int))/\K (List.take Qo.toNat Vv) Zq)) (K Vv Zq)) (1:Int) Qh)) [] (0:Int) Zk
def z23:q64:=w2z Jb
abbrev j7z:=List Int->Int->(BA->Int->Prop)->Prop
def w84(Qd:Ji):j7z:=fun list at_ K=>Qd list at_ (10:Int) fun Qb Zk=>InI ((48:Int)+Qb)/\(↑((B8 [107]).size+(Go.Utf8.encode (IntKind.i32.wrap ((48:Int)+Qb))).size):Int)<=(9223372036854775807:Int)/\K (B8 [107]++Go.Utf8.encode (IntKind.i32.wrap ((48:Int)+Qb))) Zk
def w22:j7z:=w84 Jb
abbrev q26:=List Int->Int->Int->(Val->Int->Prop)->Prop
def j0z(Qd:Ji)(J8:q0d):q26:=fun list at_ kind K=>Cnd (kind=1) (Qd list at_ (2:Int) fun Qb Zk=>K (Val.mk kind Qb (B8 []) []) Zk) (Cnd (kind=2) ([(0:Int),(1:Int),(17:Int),(18:Int),(19:Int),(-5:Int),(64:Int),(1099511627776:Int),(-1099511627776:Int)].length<=(9223372036854775807:Nat)->Qd list at_ (↑[(0:Int),(1:Int),(17:Int),(18:Int),(19:Int),(-5:Int),(64:Int),(1099511627776:Int),(-1099511627776:Int)].length:Int) fun Qh Jp=>((0:Int)<=Qh/\Qh<(↑[(0:Int),(1:Int),(17:Int),(18:Int),(19:Int),(-5:Int),(64:Int),(1099511627776:Int),(-1099511627776:Int)].length:Int))/\∀y2,[(0:Int),(1:Int),(17:Int),(18:Int),(19:Int),(-5:Int),(64:Int),(1099511627776:Int),(-1099511627776:Int)][Qh.toNat]? =some y2->K (Val.mk kind y2 (B8 []) []) Jp) (Cnd (kind=3) (J8 list at_ fun Qb Zk=>K (Val.mk kind (0:Int) Qb []) Zk) (Cnd (kind=4) (Qd list at_ (6:Int) fun Qb Zk=>((0:Int)<=Qb/\Qb<(↑(6:Nat):Int))/\∀y1,z47[Qb.toNat]? =some y1->K (Val.mk kind (0:Int) y1 []) Zk) (Qd list at_ (5:Int) fun Qb Zk=>((0:Int)<=Qb/\Qb<(↑(5:Nat):Int))/\∀y1,j7w[Qb.toNat]? =some y1->Sml ([]++y1).length/\K (Val.mk (5:Int) (0:Int) (B8 []) ([]++y1)) Zk))))
def Bf:q26:=j0z Jb q9x
abbrev j6q:=List Int->Int->(Ex->Int->Prop)->Prop
def w23(Z4:Hc)(Qd:Ji)(w42:j7z)(Jw:q26):j6q:=fun list at_ K=>Z4 fun Qb=>Fits Qb->InI ((↑Qb.length:Int)+1)/\Qd list at_ ((↑Qb.length:Int)+1) fun Qk Zq=>Fits Qb->Cnd (Qk=(↑Qb.length:Int)) (w42 list Zq fun Qy Vz=>K (Ex.mk (7:Int) (B8 [117,115,101,114]) (B8 [107,101,121]) [Val.mk (3:Int) (0:Int) Qy []] []) Vz) (At Qb Qk fun y4=>Jn1 (fun (Q1:Int×BA×BA×List Val×List Ex×Int×Int×BA×BA×List Val×List Ex×Unit)=>Jw list Q1.2.2.2.2.2.1 y4.3 fun Z2 q9n=>K (Ex.mk (7:Int) Q1.2.1 Q1.2.2.1 [Z2] Q1.2.2.2.2.1) q9n) fun (y9u:Int×BA×BA×List Val×List Ex×Int×Int×BA×BA×List Val×List Ex×Unit->Prop)=>Qd list Zq (5:Int) fun Z2 q9n=>Jn1 (fun (Zu:Int×Int×BA×BA×List Val×List Ex×Int×BA×BA×List Val×List Ex×Unit)=>Cnd (y4.3=2) (Qd list Zu.1 (4:Int) fun Zg z4q=>InI ((12:Int)+Zg)/\Jw list z4q y4.3 fun Qu Vy=>K (Ex.mk ((12:Int)+Zg) Zu.2.2.1 Zu.2.2.2.1 [Qu] Zu.2.2.2.2.2.1) Vy) (Cnd (y4.3=3) (Qd list Zu.1 (4:Int) fun Zg z4q=>InI ((12:Int)+Zg)/\Jw list z4q y4.3 fun Qu Vy=>K (Ex.mk ((12:Int)+Zg) Zu.2.2.1 Zu.2.2.2.1 [Qu] Zu.2.2.2.2.2.1) Vy) (Cnd (y4.3=4) (Qd list Zu.1 (4:Int) fun Zg z4q=>InI ((12:Int)+Zg)/\Jw list z4q y4.3 fun Qu Vy=>K (Ex.mk ((12:Int)+Zg) Zu.2.2.1 Zu.2.2.2.1 [Qu] Zu.2.2.2.2.2.1) Vy) (y9u (Zu.2.1,Zu.2.2.1,Zu.2.2.2.1,Zu.2.2.2.2.1,Zu.2.2.2.2.2.1,Zu.1,Zu.2.2.2.2.2.2.1,Zu.2.2.2.2.2.2.2.1,Zu.2.2.2.2.2.2.2.2.1,Zu.2.2.2.2.2.2.2.2.2.1,Zu.2.2.2.2.2.2.2.2.2.2.1,()))))) fun (y2k:Int×Int×BA×BA×List Val×List Ex×Int×BA×BA×List Val×List Ex×Unit->Prop)=>Cnd (Z2=0) (K (Ex.mk (6:Int) y4.1 y4.2 [] []) q9n) (Cnd (Z2=1) (Cnd (y4.3=5) (y9u ((0:Int),y4.1,y4.2,[],[],q9n,(0:Int),B8 [],B8 [],[],[],())) (Lp3 (fun Zg z4q y65 u1y=>Qd list y65 (3:Int) fun Qu Vy=>Cnd (Zg<=Qu) (Jw list Vy y4.3 fun Zl z04=>Sml (z4q++[Zl]).length/\InI (Zg+1)/\u1y (Zg+1) (z4q++[Zl]) z04) (K (Ex.mk (8:Int) y4.1 y4.2 z4q []) Vy)) (0:Int) [] q9n)) (Cnd (Z2=2) (Cnd (y4.3=3) (Jw list q9n (3:Int) fun Zg z4q=>K (Ex.mk (11:Int) y4.1 y4.2 [Zg] []) z4q) (Cnd (y4.3=5) (Jw list q9n (3:Int) fun Zg z4q=>K (Ex.mk (11:Int) y4.1 y4.2 [Zg] []) z4q) (y9u ((0:Int),y4.1,y4.2,[],[],q9n,(0:Int),B8 [],B8 [],[],[],())))) (Cnd (Z2=3) (Cnd (y4.3=3) (Qd list q9n (2:Int) fun Zg z4q=>InI ((9:Int)+Zg)/\Jw list z4q (3:Int) fun Qu Vy=>K (Ex.mk ((9:Int)+Zg) y4.1 y4.2 [Qu] []) Vy) (y2k (q9n,(0:Int),y4.1,y4.2,[],[],(0:Int),B8 [],B8 [],[],[],()))) (Cnd (Z2=4) (y2k (q9n,(0:Int),y4.1,y4.2,[],[],(0:Int),B8 [],B8 [],[],[],())) (y9u ((0:Int),y4.1,y4.2,[],[],q9n,(0:Int),B8 [],B8 [],[],[],())))))))
def z7g:j6q:=w23 Be Jb w22 Bf
abbrev q27:=List Int->Int->List BA->Int->(Ex->Int->Prop)->Prop
def z7h(Qd:Ji)(v2l:j6q)(X:q27):q27:=fun list at_ segments levels K=>Qd list at_ (8:Int) fun Qb Zk=>Jn1 (fun Qh=>Cnd (Qh=0) (K (Ex.mk (1:Int) (B8 []) (B8 []) [] []) Zk) (Cnd (Qh=3) (Fits segments->Cnd ((0:Int)<(↑segments.length:Int)) (Fits segments->Qd list Zk (↑segments.length:Int) fun Qy Vz=>At segments Qy fun y5=>K (Ex.mk (5:Int) (B8 []) y5 [] []) Vz) (v2l list Zk fun Qo Vv=>K (Ex.mk Qo.1 Qo.2 Qo.3 Qo.4 Qo.5) Vv)) (Cnd (Qh=4) (InI (levels - 1)/\X list Zk segments (levels - 1) fun Qk Zq=>K (Ex.mk (4:Int) (B8 []) (B8 []) [] [Ex.mk Qk.1 Qk.2 Qk.3 Qk.4 Qk.5]) Zq) (Jn1 (fun Qk=>Cnd (Qk=true) (Qd list Zk (2:Int) fun Qo Vv=>InI ((2:Int)+Qo)/\Qd list Vv (2:Int) fun Qy Vz=>InI ((2:Int)+Qy)/\LpH (fun (Qx:Int×Int×Int×BA×BA×List Val×List Ex×Unit) (v9b:Int×Int×Int×BA×BA×List Val×List Ex×Unit->Prop)=>Cnd (Qx.1<2+Qy) (InI (levels - 1)/\X list Qx.2.1 segments (levels - 1) fun Q1 z60=>Jn1 (fun (Z2:Int×BA×BA×List Val×List Ex×Unit)=>Sml (Qx.2.2.2.2.2.2.1++[Ex.mk Z2.1 Z2.2.1 Z2.2.2.1 Z2.2.2.2.1 Z2.2.2.2.2.1]).length/\InI (Qx.1+1)/\v9b (Qx.1+1,z60,Qx.2.2.1,Qx.2.2.2.1,Qx.2.2.2.2.1,Qx.2.2.2.2.2.1,Qx.2.2.2.2.2.2.1++[Ex.mk Z2.1 Z2.2.1 Z2.2.2.1 Z2.2.2.2.1 Z2.2.2.2.2.1],())) fun (y9h:Int×BA×BA×List Val×List Ex×Unit->Prop)=>Cnd (Q1.1=2+Qo) (y9h ((4:Int),B8 [],B8 [],[],[Ex.mk Q1.1 Q1.2 Q1.3 Q1.4 Q1.5],())) (y9h (Q1.1,Q1.2,Q1.3,Q1.4,Q1.5,()))) (K (Ex.mk Qx.2.2.1 Qx.2.2.2.1 Qx.2.2.2.2.1 Qx.2.2.2.2.2.1 Qx.2.2.2.2.2.2.1) Qx.2.1)) ((0:Int),Vz,(2:Int)+Qo,B8 [],B8 [],[],[],())) (v2l list Zk fun Qo Vv=>K (Ex.mk Qo.1 Qo.2 Qo.3 Qo.4 Qo.5) Vv)) fun j61=>Cnd (Qh=5) (j61 (decide (Qh=5))) (j61 (decide (Qh=6))))))) fun j9w=>Cnd (levels<=1) (Cnd ((4:Int)<=Qb) (InI (Qb - 4)/\j9w (Qb - 4)) (j9w Qb)) (j9w Qb)
def q9y:q27:=fun list at_ segments levels K=> ∀X:q27,(∀list at_ segments levels K,z7h Jb z7g X list at_ segments levels K->X list at_ segments levels K)->X list at_ segments levels K
abbrev q5r:=List Int->Int->BA->BA->Int->List Decl->List Seg->List Flg->List Lay_->List Exper->(Int->BA->BA->Int->List Decl->List Seg->List Flg->List Lay_->List Exper->Prop)->Prop
def z5i(Qd:Ji)(q37:z7f)(U8:q64)(Gq:q27):q5r:=fun list at_ salt hkind hold attrs segs flags layers expers K=>Qd list at_ (4:Int) fun Qb Zk=>q37 Qb [B8 [97,108,112,104,97],B8 [98,101,116,97],B8 [103,97,109,109,97]] fun Qh=>Lp3 (fun Qk Zq j2o u1z=>Fits Qh->CAt Qh Qk (fun y4=>U8 list Zq fun Q1 z60=>U8 list z60 fun Z2 q9n=>Jn2 (fun Zu z4s=>Jn1 (fun (Zg:Int×BA×BA×List Val×List Ex×Int×Unit)=>Sml (j2o++[Seg.mk y4 Zu Q1 Z2 (Ex.mk Zg.1 Zg.2.1 Zg.2.2.1 Zg.2.2.2.1 Zg.2.2.2.2.1)]).length/\InI (Qk+1)/\u1z (Qk+1) Zg.2.2.2.2.2.1 (j2o++[Seg.mk y4 Zu Q1 Z2 (Ex.mk Zg.1 Zg.2.1 Zg.2.2.1 Zg.2.2.2.1 Zg.2.2.2.2.1)])) fun (u1u:Int×BA×BA×List Val×List Ex×Int×Unit->Prop)=>Qd list z4s (3:Int) fun Qu Vy=>Cnd ((0:Int)<Qu) (((0:Int)<=(0:Int)/\(0:Int)<=Qk/\Qk<=(↑Qh.length:Int))/\Gq list Vy (List.drop (Int.toNat (0:Int)) (List.take Qk.toNat Qh)) (3:Int) fun Zl z04=>u1u (Zl.1,Zl.2,Zl.3,Zl.4,Zl.5,z04,())) (u1u ((0:Int),B8 [],B8 [],[],[],Vy,()))) fun y2k=>Qd list q9n (4:Int) fun Zg z4q=>Cnd (Zg=1) (y2k (B8 [100,101,118,105,99,101]) z4q) (y2k (B8 [117,115,101,114]) z4q)) (K Zq salt hkind hold attrs j2o flags layers expers)) (0:Int) Zk segs
def q9z:q5r:=z5i Jb j6p z23 q9y
abbrev Gu:=Envt->(List BA->Prop)->Prop
def Gv:Gu:=fun v K=>Lp2 (fun Qb Zk G8=>Fits v.3->CAt v.3 Zk (fun y2=>Sml (Qb++[y2.1]).length/\InI (Zk+1)/\G8 (Qb++[y2.1]) (Zk+1)) (K Qb)) [] (0:Int)
abbrev q8g:=List Int->Int->Int->(List Rng->Int->Prop)->Prop
def j00(Qd:Ji)(J9:q25):q8g:=fun list at_ n K=>Jn4 (fun Qb Zk u1b q42=>Qd list q42 n fun Qh Jp=>InI ((1:Int)+Qh)/\Jn1 (fun Qk=>Sml (Qb++[Rng.mk Zk (10000:Int) Qk]).length/\K (Qb++[Rng.mk Zk (10000:Int) Qk]) Jp) fun j61=>Cnd ((1:Int)+Qh=u1b) (n≠(0:Int)/\InI ((1:Int)+((1:Int)+Qh).tmod n)/\j61 ((1:Int)+((1:Int)+Qh).tmod n)) (j61 ((1:Int)+Qh))) fun z0f=>Lp5 (fun Qh Jp j2l z4a u10 u11=>Qd list u10 (4:Int) fun Qk Zq=>Cnd (z4a<Qk) (Cnd ((1:Int)<n) (InI (Jp+1)/\J9 list Zq (5000:Int) fun Qo Vv=>InI (Jp+1+Qo)/\Qd list Vv n fun Qy Vz=>InI ((1:Int)+Qy)/\Jn1 (fun Qx=>Cnd ((10000:Int)<=Jp+1+Qo) (z0f Qh Jp j2l Vz) (Sml (Qh++[Rng.mk Jp (Jp+1+Qo) Qx]).length/\InI (z4a+1)/\u11 (Qh++[Rng.mk Jp (Jp+1+Qo) Qx]) (Jp+1+Qo) Qx (z4a+1) Vz)) fun u1v=>Cnd ((1:Int)+Qy=j2l) (n≠(0:Int)/\InI ((1:Int)+((1:Int)+Qy).tmod n)/\u1v ((1:Int)+((1:Int)+Qy).tmod n)) (u1v ((1:Int)+Qy))) (z0f Qh Jp j2l Zq)) (z0f Qh Jp j2l Zq)) [] (0:Int) (0:Int) (0:Int) at_
def q8h:q8g:=j00 Jb z22
abbrev q8i:=List Int->Int->Int->(Srv->Int->Prop)->Prop
def j01(Qd:Ji)(J8:q0d)(q38:q8g)(Z4:Hc):q8i:=fun list at_ n K=>Qd list at_ (2:Int) fun Qb Zk=>Cnd (Qb=0) (Qd list Zk n fun Qh Jp=>InI ((1:Int)+Qh)/\K (Srv.mk ((1:Int)+Qh) (B8 []) (B8 []) (B8 []) []) Jp) (J8 list Zk fun Qh Jp=>q38 list Jp n fun Qk Zq=>Z4 fun Qo=>Qd list Zq (12:Int) fun Qy Vz=>Fits Qo->CAt Qo Qy (fun y6=>Cnd (y6.3=5) (K (Srv.mk (0:Int) (B8 [117,115,101,114]) (B8 [107,101,121]) Qh Qk) Vz) (At Qo Qy fun y8=>At Qo Qy fun y10=>K (Srv.mk (0:Int) y8.1 y10.2 Qh Qk) Vz)) (K (Srv.mk (0:Int) (B8 [117,115,101,114]) (B8 [107,101,121]) Qh Qk) Vz))
def q28:q8i:=j01 Jb q9x q8h Be
abbrev j02:=(List Nd->(Nd->Option (Int))->Bool->Prop)->Prop
def w6c:j02:=fun K=>K [] (fun _=>none) false
abbrev Bg:=Int->(Bool->Prop)->Prop
def Vs:Bg:=fun op K=>Cnd ((6:Int)<=op) (K (decide (op<=15))) (K false)
abbrev j03:=List BA->List BA->(Bool->Prop)->Prop
def j04:j03:=fun a b K=>Fits a->Fits b->Cnd ((↑a.length:Int)=(↑b.length:Int)) (Lp1 (fun Qk z82=>Fits a->CAt a Qk (fun y4=>At b Qk fun y6=>Cnd (y4=y6) (InI (Qk+1)/\z82 (Qk+1)) (K false)) (K true)) (0:Int)) (K false)
abbrev z1f:=Val->Val->(Bool->Prop)->Prop
def j3f(j2p:j03):z1f:=fun a b K=>Cnd (a.1=b.1) (Cnd (a.2=b.2) (Cnd (a.3=b.3) (j2p a.4 b.4 fun Qb=>K Qb) (K false)) (K false)) (K false)
def z7i:z1f:=j3f j04
abbrev q29:=List Val->List Val->(Bool->Prop)->Prop
def q8j(z72:z1f):q29:=fun a b K=>Fits a->Fits b->Cnd ((↑a.length:Int)=(↑b.length:Int)) (Lp1 (fun Qk z82=>Fits a->CAt a Qk (fun y4=>At b Qk fun y6=>z72 y4 y6 fun Zu=>Cnd (Zu=true) (InI (Qk+1)/\z82 (Qk+1)) (K false)) (K true)) (0:Int)) (K false)
def Gw:q29:=q8j z7i
abbrev Hu:=Ex->Ex->(Bool->Prop)->Prop
def z25(j90:q29)(X:Hu):Hu:=fun a b K=>Cnd (a.1=b.1) (Cnd (a.2=b.2) (Cnd (a.3=b.3) (j90 a.4 b.4 fun Qb=>Cnd (Qb=true) (Fits a.5->Fits b.5->Cnd ((↑a.5.length:Int)=(↑b.5.length:Int)) (Lp1 (fun Qo z2a=>Fits a.5->CAt a.5 Qo (fun y5=>At b.5 Qo fun y7=>X (Ex.mk y5.1 y5.2 y5.3 y5.4 y5.5) (Ex.mk y7.1 y7.2 y7.3 y7.4 y7.5) fun Zg=>Cnd (Zg=true) (InI (Qo+1)/\z2a (Qo+1)) (K false)) (K true)) (0:Int)) (K false)) (K false)) (K false)) (K false)) (K false)
def q3a:Hu:=fun a b K=> ∀X:Hu,(∀a b K,z25 Gw X a b K->X a b K)->X a b K
abbrev q8k:=List Ex->Ex->(Int->Prop)->Prop
def z9c(q7s:Hu):q8k:=fun l e K=>Lp1 (fun Qb Gn=>Fits l->CAt l Qb (fun y2=>q7s (Ex.mk y2.1 y2.2 y2.3 y2.4 y2.5) (Ex.mk e.1 e.2 e.3 e.4 e.5) fun Qy=>Cnd (Qy=true) (K Qb) (InI (Qb+1)/\Gn (Qb+1))) (K (-1:Int))) (0:Int)
def Gi:q8k:=z9c q3a
abbrev Gj:=List Ex->Ex->(List Ex->Prop)->Prop
def z0v(z4b:q8k)(Jn:Bg)(X:Gj):Gj:=fun l e K=>Jn1 (fun Qb=>Lp2 (fun Qh Jp q54=>Fits e.5->CAt e.5 Jp (fun y3=>X Qh (Ex.mk y3.1 y3.2 y3.3 y3.4 y3.5) fun Qx=>InI (Jp+1)/\q54 Qx (Jp+1)) (K Qh)) Qb (0:Int)) fun z0f=>Cnd (e.1=5) (z4b l (Ex.mk e.1 e.2 e.3 e.4 e.5) fun Qh=>Cnd (Qh<0) ((Sml ([]++l).length/\Sml ([]++l++[Ex.mk e.1 e.2 e.3 e.4 e.5]).length/\z0f ([]++l++[Ex.mk e.1 e.2 e.3 e.4 e.5]))/\Sml ([]++l).length/\Sml ([]++l++[Ex.mk e.1 e.2 e.3 e.4 e.5]).length/\z0f ([]++l++[Ex.mk e.1 e.2 e.3 e.4 e.5])) (z0f l)) (Jn e.1 fun Qh=>Cnd (Qh=true) (z4b l (Ex.mk e.1 e.2 e.3 e.4 e.5) fun Qk=>Cnd (Qk<0) ((Sml ([]++l).length/\Sml ([]++l++[Ex.mk e.1 e.2 e.3 e.4 e.5]).length/\z0f ([]++l++[Ex.mk e.1 e.2 e.3 e.4 e.5]))/\Sml ([]++l).length/\Sml ([]++l++[Ex.mk e.1 e.2 e.3 e.4 e.5]).length/\z0f ([]++l++[Ex.mk e.1 e.2 e.3 e.4 e.5])) (z0f l)) (z0f l))
def q48:Gj:=fun l e K=> ∀X:Gj,(∀l e K,z0v Gi Vs X l e K->X l e K)->X l e K
abbrev Bh:=List Rul->(List Ex->Prop)->Prop
def q8l(q5f:Gj):Bh:=fun l K=>Lp2 (fun Qb Zk G8=>Fits l->CAt l Zk (fun y2=>q5f Qb (Ex.mk y2.2.1 y2.2.2 y2.2.3 y2.2.4 y2.2.5) fun Qy=>InI (Zk+1)/\G8 Qy (Zk+1)) (K Qb)) [] (0:Int)
def q3b:Bh:=q8l q48
abbrev Vb:=List Nd->(Nd->Option (Int))->Bool->Int->(Bool->List Nd->(Nd->Option (Int))->Bool->Prop)->Prop
def Hw:Vb:=fun ns ids full id K=>Cnd ((-1002:Int)<id) (Fits ns->K (decide (id<(↑ns.length:Int))) ns ids full) (K false ns ids full)
abbrev q1c:=List Nd->(Nd->Option (Int))->Bool->Int->((Int->Option (Bool))->List Nd->(Nd->Option (Int))->Bool->Prop)->Prop
def q1d:q1c:=fun ns ids full id K=>Lp2 (fun Qb Gn G8=>Fits Qb->Cnd ((0:Int)<(↑Qb.length:Int)) (Fits Qb->InI ((↑Qb.length:Int) - 1)/\((0:Int)<=(↑Qb.length:Int) - 1/\(↑Qb.length:Int) - 1<(↑Qb.length:Int))/\∀y3,Qb[((↑Qb.length:Int) - 1).toNat]? =some y3->Fits Qb->InI ((↑Qb.length:Int) - 1)/\((0:Int)<=(↑Qb.length:Int) - 1/\(↑Qb.length:Int) - 1<=(↑Qb.length:Int))/\Cnd ((Gn y3).getD false=true) (G8 (List.take ((↑Qb.length:Int) - 1).toNat Qb) Gn) (Cnd ((0:Int)<=y3) (At ns y3 fun y6=>At ns y3 fun y8=>Sml (List.take ((↑Qb.length:Int) - 1).toNat Qb++[y6.2.1,y8.2.2]).length/\G8 (List.take ((↑Qb.length:Int) - 1).toNat Qb++[y6.2.1,y8.2.2]) (put Gn y3 true)) (G8 (List.take ((↑Qb.length:Int) - 1).toNat Qb) (put Gn y3 true)))) (K Gn ns ids full)) [id] fun _=>none
abbrev Gy:=List Nd->(Nd->Option (Int))->Bool->Int->(List Int->List Nd->(Nd->Option (Int))->Bool->Prop)->Prop
def z1g(Q7:Vb)(q1m:q1c):Gy:=fun ns ids full id K=>Q7 ns ids full id fun Qb (Zk:List (Int×Int×Int)) G8 q42=>Cnd (Qb=true) (q1m Zk G8 q42 id fun j9w (Jp:List (Int×Int×Int)) q54 z4a=>Lp2 (fun Qk Zq q2g=>Cnd (Zq<=1000) (InI ((-1:Int) - Zq)/\Cnd ((j9w ((-1:Int) - Zq)).getD false=true) (Sml (Qk++[Zq]).length/\InI (Zq+1)/\q2g (Qk++[Zq]) (Zq+1)) (InI (Zq+1)/\q2g Qk (Zq+1))) (K Qk Jp q54 z4a)) [] (0:Int)) (K [] Zk G8 q42)
def q0e:Gy:=z1g Hw q1d
abbrev Zy:=List Nd->(Nd->Option (Int))->Bool->Int->(Bool->List Nd->(Nd->Option (Int))->Bool->Prop)->Prop
def q6p(Q7:Vb)(q0p:Gy):Zy:=fun ns ids full id K=>Q7 ns ids full id fun Qb (Zk:List (Int×Int×Int)) G8 q42=>Cnd (Qb=true) (q0p Zk G8 q42 id fun Qh (Jp:List (Int×Int×Int)) q54 z4a=>Lp1 (fun Qk z82=>Fits Qh->CAt Qh Qk (fun y4=>Cnd ((1:Int)<y4) (K false Jp q54 z4a) (InI (Qk+1)/\z82 (Qk+1))) (K true Jp q54 z4a)) (0:Int)) (K false Zk G8 q42)
def Wv:Zy:=q6p Hw q0e
abbrev Gk:=List Nd->(Nd->Option (Int))->Bool->Int->(Int->List Nd->(Nd->Option (Int))->Bool->Prop)->Prop
def Vc:Gk:=fun ns ids full id K=>Cnd (id<0) (K (1001:Int) ns ids full) (At ns id fun y0=>K y0.1 ns ids full)
abbrev q1e:=List Nd->(Nd->Option (Int))->Bool->Int->Int->(Int->Int->List Nd->(Nd->Option (Int))->Bool->Prop)->Prop
def z4j(Z1:Gk):q1e:=fun ns ids full id test K=>Z1 ns ids full id fun Qb (Zk:List (Int×Int×Int)) G8 q42=>Cnd (Qb=test) (At Zk id fun y1=>At Zk id fun y3=>K y1.2.1 y3.2.2 Zk G8 q42) (K id id Zk G8 q42)
def Vt:q1e:=z4j Vc
abbrev Bi:=List Nd->(Nd->Option (Int))->Bool->Int->Int->Int->(Int->List Nd->(Nd->Option (Int))->Bool->Prop)->Prop
def z5j(Q7:Vb)(Z1:Gk):Bi:=fun ns ids full test yes no K=>Cnd (test<0) (K (-1002:Int) ns ids full) (Cnd ((1000:Int)<test) (K (-1002:Int) ns ids full) (Q7 ns ids full yes fun Qb (Zk:List (Int×Int×Int)) G8 q42=>Cnd (Qb=true) (Q7 Zk G8 q42 no fun Qh (Jp:List (Int×Int×Int)) q54 z4a=>Cnd (Qh=true) (Z1 Jp q54 z4a yes fun Qk (Zq:List (Int×Int×Int)) q2g q55=>Cnd (Qk<=test) (K (-1002:Int) Zq q2g q55) (Z1 Zq q2g q55 no fun Qo (Vv:List (Int×Int×Int)) z6z j9x=>Cnd (Qo<=test) (K (-1002:Int) Vv z6z j9x) (Cnd (yes=no) (K yes Vv z6z j9x) (Cnd ((z6z (test,yes,no)).isSome=true) (K ((z6z (test,yes,no)).getD (0:Int)) Vv z6z j9x) (Fits Vv->Cnd ((4000:Int)<=(↑Vv.length:Int)) (K (-1002:Int) Vv z6z true) (Fits Vv->Sml (Vv++[(test,yes,no)]).length/\((Vv++[(test,yes,no)]).length<=(9223372036854775807:Nat)->InI ((↑(Vv++[(test,yes,no)]).length:Int) - 1)/\K ((↑(Vv++[(test,yes,no)]).length:Int) - 1) (Vv++[(test,yes,no)]) (put z6z (test,yes,no) (↑Vv.length:Int)) j9x))))))) (K (-1002:Int) Jp q54 z4a)) (K (-1002:Int) Zk G8 q42)))
def J2:Bi:=z5j Hw Vc
abbrev W8:=List Nd->(Nd->Option (Int))->Bool->Int->Int->Int->(A3->Option (Int))->(Int->List Nd->(Nd->Option (Int))->Bool->(A3->Option (Int))->Prop)->Prop
def Gz(Z1:Gk)(q6m:q1e)(q9k:Bi)(X:W8):W8:=fun ns ids full f g h known K=>Cnd (f=(-2:Int)) (K g ns ids full known) (Cnd (g=h) (K g ns ids full known) (Cnd (f=(-1:Int)) (K h ns ids full known) (Cnd ((known (f,g,h)).isSome=true) (K ((known (f,g,h)).getD (0:Int)) ns ids full known) (Z1 ns ids full f fun Qb (Zk:List (Int×Int×Int)) G8 q42=>Z1 Zk G8 q42 g fun Qh (Jp:List (Int×Int×Int)) q54 z4a=>Z1 Jp q54 z4a h fun Qk (Zq:List (Int×Int×Int)) q2g q55=>q6m Zq q2g q55 f (Min.min (Min.min Qb Qh) Qk) fun Qo Vv (y9e:List (Int×Int×Int)) u12 u13=>q6m y9e u12 u13 g (Min.min (Min.min Qb Qh) Qk) fun Qy Vz (j0g:List (Int×Int×Int)) v9i u04=>q6m j0g v9i u04 h (Min.min (Min.min Qb Qh) Qk) fun Qx q41 (u05:List (Int×Int×Int)) u06 u07=>X u05 u06 u07 Qo Qy Qx known fun Q1 (z60:List (Int×Int×Int)) v0p v4s u14=>X z60 v0p v4s Vv Vz q41 u14 fun Z2 (q9n:List (Int×Int×Int)) v89 w73 y3r=>Jn4 (fun Zu (z4s:List (Int×Int×Int)) y9i u15=>K Zu z4s u15 y9i (put y3r (f,g,h) Zu)) fun y2k=>Cnd (Q1=(-1002:Int)) (y2k (-1002:Int) q9n w73 v89) (Cnd (Z2=(-1002:Int)) (y2k (-1002:Int) q9n w73 v89) (q9k q9n v89 w73 (Min.min (Min.min Qb Qh) Qk) Q1 Z2 fun Zg (z4q:List (Int×Int×Int)) y2h v0o=>y2k Zg z4q v0o y2h))))))
def q0f:W8:=fun ns ids full f g h known K=> ∀X:W8,(∀ns ids full f g h known K,Gz Vc Vt J2 X ns ids full f g h known K->X ns ids full f g h known K)->X ns ids full f g h known K
abbrev Js:=List Nd->(Nd->Option (Int))->Bool->Int->Int->Int->(Int->List Nd->(Nd->Option (Int))->Bool->Prop)->Prop
def z1h(Q0:Zy)(Q7:Vb)(q0q:W8):Js:=fun ns ids full f g h K=>Q0 ns ids full f fun Qb (Zk:List (Int×Int×Int)) G8 q42=>Cnd (Qb=true) (Q7 Zk G8 q42 g fun Qh (Jp:List (Int×Int×Int)) q54 z4a=>Cnd (Qh=true) (Q7 Jp q54 z4a h fun Qk (Zq:List (Int×Int×Int)) q2g q55=>Cnd (Qk=true) (q0q Zq q2g q55 f g h (fun _=>none) fun Qo (Vv:List (Int×Int×Int)) z6z j9x _=>K Qo Vv z6z j9x) (K (-1002:Int) Zq q2g q55)) (K (-1002:Int) Jp q54 z4a)) (K (-1002:Int) Zk G8 q42)
def Ud:Js:=z1h Wv Hw q0f
abbrev q49:=List Nd->(Nd->Option (Int))->Bool->Int->(Int->List Nd->(Nd->Option (Int))->Bool->Prop)->Prop
def z8n(Zb:Js):q49:=fun ns ids full f K=>Zb ns ids full f (-1:Int) (-2:Int) fun Qb (Zk:List (Int×Int×Int)) G8 q42=>K Qb Zk G8 q42
def Rp:q49:=z8n Ud
abbrev q5a:=List Nd->(Nd->Option (Int))->Bool->Int->Int->(Int->List Nd->(Nd->Option (Int))->Bool->Prop)->Prop
def z8o(Q0:Zy)(Zb:Js):q5a:=fun ns ids full f g K=>Q0 ns ids full g fun Qb (Zk:List (Int×Int×Int)) G8 q42=>Cnd (Qb=true) (Zb Zk G8 q42 f g (-1:Int) fun Qh (Jp:List (Int×Int×Int)) q54 z4a=>K Qh Jp q54 z4a) (K (-1002:Int) Zk G8 q42)
def Rq:q5a:=z8o Wv Ud
abbrev q0g:=List Nd->(Nd->Option (Int))->Bool->Int->Int->(Int->List Nd->(Nd->Option (Int))->Bool->Prop)->Prop
def j05(Q0:Zy)(Zb:Js):q0g:=fun ns ids full f g K=>Q0 ns ids full g fun Qb (Zk:List (Int×Int×Int)) G8 q42=>Cnd (Qb=true) (Zb Zk G8 q42 f (-2:Int) g fun Qh (Jp:List (Int×Int×Int)) q54 z4a=>K Qh Jp q54 z4a) (K (-1002:Int) Zk G8 q42)
def Hx:q0g:=j05 Wv Ud
abbrev Uk:=List Nd->(Nd->Option (Int))->Bool->List Ex->Ex->(Int->List Nd->(Nd->Option (Int))->Bool->Prop)->Prop
def q8m(w0w:q49)(w0x:q5a)(q0r:q0g)(z4b:q8k)(q9k:Bi)(X:Uk):Uk:=fun ns ids full atoms e K=>Cnd (e.1=1) (K (-2:Int) ns ids full) (Cnd (e.1=4) (((0:Int)<=(0:Int)/\(0:Int)<(↑e.5.length:Int))/\∀y0,e.5[Int.toNat (0:Int)]? =some y0->X ns ids full atoms (Ex.mk y0.1 y0.2 y0.3 y0.4 y0.5) fun Qk (Zq:List (Int×Int×Int)) q2g q55=>w0w Zq q2g q55 Qk fun Qo (Vv:List (Int×Int×Int)) z6z j9x=>K Qo Vv z6z j9x) (Jn1 (fun Qb=>Cnd (Qb=true) (((0:Int)<=(0:Int)/\(0:Int)<(↑e.5.length:Int))/\∀y1,e.5[Int.toNat (0:Int)]? =some y1->X ns ids full atoms (Ex.mk y1.1 y1.2 y1.3 y1.4 y1.5) fun Qo (Vv:List (Int×Int×Int)) z6z j9x=>Lp5 (fun Qy Vz (j0g:List (Int×Int×Int)) v9k y9v u1w=>Fits e.5->CAt e.5 Vz (fun y6=>X j0g y9v v9k atoms (Ex.mk y6.1 y6.2 y6.3 y6.4 y6.5) fun Zu (z4s:List (Int×Int×Int)) v9j y3s=>Cnd (e.1=2) (w0x z4s v9j y3s Qy Zu fun Zg (z4q:List (Int×Int×Int)) y2h v0o=>InI (Vz+1)/\u1w Zg (Vz+1) z4q v0o y2h) (q0r z4s v9j y3s Qy Zu fun Zg (z4q:List (Int×Int×Int)) y2h v0o=>InI (Vz+1)/\u1w Zg (Vz+1) z4q v0o y2h)) (K Qy j0g y9v v9k)) Qo (1:Int) Vv j9x z6z) (z4b atoms (Ex.mk e.1 e.2 e.3 e.4 e.5) fun Qh=>Cnd (Qh<0) (K (-1002:Int) ns ids full) (q9k ns ids full Qh (-2:Int) (-1:Int) fun Qk (Zq:List (Int×Int×Int)) q2g q55=>K Qk Zq q2g q55))) fun z0f=>Cnd (e.1=2) (z0f (decide (e.1=2))) (z0f (decide (e.1=3)))))
def q3c:Uk:=fun ns ids full atoms e K=> ∀X:Uk,(∀ns ids full atoms e K,q8m Rp Rq Hx Gi J2 X ns ids full atoms e K->X ns ids full atoms e K)->X ns ids full atoms e K
abbrev Jt:=List Rul->(List Int->Int->Bool->Prop)->Prop
def q4m(j2q:j02)(q39:Bh)(q4a:Uk)(q0r:q0g):Jt:=fun l K=>j2q fun (Qb:List (Int×Int×Int)) Gn u1b=>q39 l fun Qh=>LpH (fun Qk z82=>Fits l->CAt l Qk.2.2.1 (fun y4=>q4a Qk.2.2.2.1 Qk.2.2.2.2.2.1 Qk.2.2.2.2.1 Qh (Ex.mk y4.2.1 y4.2.2 y4.2.3 y4.2.4 y4.2.5) fun Q1 (z60:List (Int×Int×Int)) v0p v4s=>q0r z60 v0p v4s Qk.1 Q1 fun Z2 (q9n:List (Int×Int×Int)) v89 w73=>Cnd (Z2=(-1002:Int)) (Fits q9n->K [] (↑q9n.length:Int) false) (Cnd (Z2=Qk.1) (InI (Qk.2.2.1+1)/\Sml (Qk.2.1++[Qk.2.2.1+1]).length/\InI (Qk.2.2.1+1)/\z82 (Z2,Qk.2.1++[Qk.2.2.1+1],Qk.2.2.1+1,q9n,w73,v89,())) (InI (Qk.2.2.1+1)/\z82 (Z2,Qk.2.1,Qk.2.2.1+1,q9n,w73,v89,())))) (Fits Qk.2.2.2.1->K Qk.2.1 (↑Qk.2.2.2.1.length:Int) true)) ((-1:Int),[],(0:Int),Qb,u1b,Gn,())
def W9:Jt:=q4m w6c q3b q3c Hx
abbrev z5k:=List Int->Int->BA->(Lay_->Int->Prop)->Prop
def j70(J8:q0d)(Qd:Ji)(J9:q25):z5k:=fun list at_ key K=>J8 list at_ fun Qb Zk=>Qd list Zk (3:Int) fun Qh Jp=>InI (Qh*50)/\Jn2 (fun Qk Zq=>Jn2 (fun Qo Vv=>Lp4 (fun Qy Vz j0g v9k y9v=>Qd list v9k (3:Int) fun Qx q41=>Cnd (Vz<Qx) (J9 list q41 (3000:Int) fun Q1 z60=>InI (Qy+Q1)/\InI (Qy+Q1+1)/\J9 list z60 (2000:Int) fun Z2 q9n=>InI (Qy+Q1+1+Z2)/\Cnd ((10000:Int)<Qy+Q1+1+Z2) (K (Lay_.mk key Qk Qb Qo (Qh*50) j0g) q9n) (Qd list q9n (200:Int) fun Zu z4s=>Sml (j0g++[Col.mk (Qy+Q1) (Qy+Q1+1+Z2) Zu]).length/\InI (Vz+1)/\y9v (Qy+Q1+1+Z2) (Vz+1) (j0g++[Col.mk (Qy+Q1) (Qy+Q1+1+Z2) Zu]) z4s)) (K (Lay_.mk key Qk Qb Qo (Qh*50) j0g) q41)) (0:Int) (0:Int) [] Vv) fun v4v=>Qd list Zq (2:Int) fun Qy Vz=>Cnd (Qy=1) (J9 list Vz (3000:Int) fun Qx q41=>v4v Qx q41) (v4v (0:Int) Vz)) fun j61=>Qd list Jp (4:Int) fun Qo Vv=>Cnd (Qo=1) (j61 (B8 [100,101,118,105,99,101]) Vv) (j61 (B8 [117,115,101,114]) Vv)
def j06:z5k:=j70 q9x Jb z22
abbrev z7j:=Int->(Bool->Prop)->Prop
def z7k:z7j:=fun now K=>Cnd ((0:Int)<=now) (K (decide (now<=1099511627776))) (K false)
abbrev U2:=Envt->BA->(Int->Prop)->Prop
def q3d:U2:=fun v key K=>Lp1 (fun Qb Gn=>Fits v.5->CAt v.5 Qb (fun y2=>Cnd (y2.1=key) (K Qb) (InI (Qb+1)/\Gn (Qb+1))) (K (-1:Int))) (0:Int)
abbrev q3e:=List Col->Int->(List Int->Prop)->Prop
def q3f:q3e:=fun l now K=>((0:Int)<=(10000:Int)/\(10000:Int)<=(10000:Int)/\Sml (Int.toNat (10000:Int)))/\Lp2 (fun Qb Zk G8=>Fits Zk->CAt Zk Qb (fun _=>InI (Qb+1)/\G8 (Qb+1) (Zk.set Qb.toNat now)) (Lp2 (fun Qk Zq q2g=>Fits l->CAt l Qk (fun y4=>Lp2 (fun Q1 z60 v0p=>At l Qk fun y7=>Cnd (Q1<Min.min y7.2 (10000:Int)) (At z60 Q1 fun y9=>At l Qk fun y11=>At z60 Q1 fun _=>InI (Q1+1)/\v0p (Q1+1) (z60.set Q1.toNat (Max.max y9 y11.3))) (InI (Qk+1)/\q2g (Qk+1) z60)) (Max.max y4.1 (0:Int)) Zq) (K Zq)) (0:Int) Zk)) (0:Int) (List.replicate (Int.toNat (10000:Int)) (0:Int))
abbrev Vu:=List Bool->(List Spn->Prop)->Prop
def Bj:Vu:=fun set_ K=>Lp2 (fun Qb Zk G8=>Fits set_->CAt set_ Zk (fun y2=>Cnd (y2=true) (Cnd ((0:Int)<Zk) (InI (Zk - 1)/\((0:Int)<=Zk - 1/\Zk - 1<(↑set_.length:Int))/\∀y4,set_[(Zk - 1).toNat]? =some y4->Cnd (y4=true) (Fits Qb->InI ((↑Qb.length:Int) - 1)/\InI (Zk+1)/\((0:Int)<=(↑Qb.length:Int) - 1/\(↑Qb.length:Int) - 1<(↑Qb.length:Int))/\∀y7,Qb[((↑Qb.length:Int) - 1).toNat]? =some y7->InI (Zk+1)/\G8 (Qb.set ((↑Qb.length:Int) - 1).toNat (Spn.mk y7.1 (Zk+1))) (Zk+1)) (InI (Zk+1)/\Sml (Qb++[Spn.mk Zk (Zk+1)]).length/\InI (Zk+1)/\G8 (Qb++[Spn.mk Zk (Zk+1)]) (Zk+1))) (InI (Zk+1)/\Sml (Qb++[Spn.mk Zk (Zk+1)]).length/\InI (Zk+1)/\G8 (Qb++[Spn.mk Zk (Zk+1)]) (Zk+1))) (InI (Zk+1)/\G8 Qb (Zk+1))) (K Qb)) [] (0:Int)
abbrev q8n:=List Int->Int->(List Spn->Prop)->Prop
def z9d(Zf:Vu):q8n:=fun until_ now K=>Fits until_->((0:Int)<=(↑until_.length:Int)/\(↑until_.length:Int)<=(↑until_.length:Int)/\Sml (↑until_.length:Int).toNat)/\Lp2 (fun Qh Jp q54=>Fits until_->CAt until_ Qh (fun y3=>At Jp Qh fun _=>InI (Qh+1)/\q54 (Qh+1) (Jp.set Qh.toNat (decide (now<y3)))) (Zf Jp fun Qo=>K Qo)) (0:Int) (List.replicate (↑until_.length:Int).toNat false)
def z27:q8n:=z9d Bj
abbrev Rf:=List Spn->(List Bool->Prop)->Prop
def q05:Rf:=fun l K=>((0:Int)<=(10000:Int)/\(10000:Int)<=(10000:Int)/\Sml (Int.toNat (10000:Int)))/\Lp2 (fun Qb Zk G8=>Fits l->CAt l Qb (fun y2=>Lp2 (fun Qy Vz v4t=>At l Qb fun y5=>Cnd (Qy<Min.min y5.2 (10000:Int)) (At Vz Qy fun _=>InI (Qy+1)/\v4t (Qy+1) (Vz.set Qy.toNat true)) (InI (Qb+1)/\G8 (Qb+1) Vz)) (Max.max y2.1 (0:Int)) Zk) (K Zk)) (0:Int) (List.replicate (Int.toNat (10000:Int)) false)
abbrev q8o:=List Spn->List Spn->(List Spn->Prop)->Prop
def z9e(Z0:Rf)(Zf:Vu):q8o:=fun a b K=>Z0 a fun Qb=>Z0 b fun Qh=>Lp2 (fun Qk Zq q2g=>Fits Zq->CAt Zq Qk (fun y4=>Cnd (y4=true) (At Zq Qk fun _=>InI (Qk+1)/\q2g (Qk+1) (Zq.set Qk.toNat true)) (At Qh Qk fun y6=>At Zq Qk fun _=>InI (Qk+1)/\q2g (Qk+1) (Zq.set Qk.toNat y6))) (Zf Zq fun Qy=>K Qy)) (0:Int) Qb
def z29:q8o:=z9e q05 Bj
abbrev q8p:=Envt->BA->BA->Int->(List Spn->Prop)->Prop
def z9f(Jf:U2)(q11:q8o)(B0:q3e)(q43:q8n):q8p:=fun v layer but now K=>Jf (Envt.mk (Sett.mk v.1.1 v.1.2 v.1.3) v.2 v.3 v.4 v.5 v.6) layer fun Qb=>Cnd (Qb<0) (K []) (Jn1 (fun Qh=>Lp2 (fun Qk Zq q2g=>Fits v.6->CAt v.6 Zq (fun y4=>Cnd (y4.2=layer) (Cnd (y4.1=but) (InI (Zq+1)/\q2g Qk (Zq+1)) (Cnd (y4.5=3) (InI (Zq+1)/\q2g Qk (Zq+1)) (q11 Qk y4.6 fun Q1=>InI (Zq+1)/\q2g Q1 (Zq+1)))) (InI (Zq+1)/\q2g Qk (Zq+1))) (K Qk)) Qh (0:Int)) fun j9w=>At v.5 Qb fun y2=>At v.5 Qb fun y4=>(B0 y4.6 now fun Q1=>q43 Q1 now fun Z2=>q11 [Spn.mk (0:Int) y2.4] Z2 fun Zu=>j9w Zu)/\B0 y4.6 now fun Q1=>(q43 Q1 now fun Z2=>q11 [Spn.mk (0:Int) y2.4] Z2 fun Zu=>j9w Zu)/\q43 Q1 now fun Z2=>q11 [Spn.mk (0:Int) y2.4] Z2 fun Zu=>j9w Zu)
def z3a:q8p:=z9f q3d z29 q3f z27
abbrev q1s:=List Spn->List Spn->(List Spn->Prop)->Prop
def z9g(Z0:Rf)(Zf:Vu):q1s:=fun a b K=>Z0 a fun Qb=>Z0 b fun Qh=>Lp2 (fun Qk Zq q2g=>Fits Zq->CAt Zq Qk (fun y4=>Cnd (y4=true) (At Qh Qk fun y6=>At Zq Qk fun _=>InI (Qk+1)/\q2g (Qk+1) (Zq.set Qk.toNat (match decide ((flC C.bool y6).1=true) with|true=>false|false=>true))) (At Zq Qk fun _=>InI (Qk+1)/\q2g (Qk+1) (Zq.set Qk.toNat false))) (Zf Zq fun Qy=>K Qy)) (0:Int) Qb
def q8q:q1s:=z9g q05 Bj
abbrev z1i:=Envt->BA->Int->(List Spn->Int->Prop)->Prop
def j3g(z73:z7j)(Jf:U2)(z4c:q8p)(Rb:q1s):z1i:=fun v layer now K=>z73 now fun Qb=>Cnd (Qb=true) (Jf (Envt.mk (Sett.mk v.1.1 v.1.2 v.1.3) v.2 v.3 v.4 v.5 v.6) layer fun Qh=>Cnd (Qh<0) (K [] (11:Int)) (z4c (Envt.mk (Sett.mk v.1.1 v.1.2 v.1.3) v.2 v.3 v.4 v.5 v.6) layer (B8 []) now fun Qk=>Rb [Spn.mk (0:Int) (10000:Int)] Qk fun Qo=>K Qo (0:Int))) (K [] (3:Int))
def z7l:z1i:=j3g z7k q3d z3a q8q
abbrev q1t:=List Spn->Int->(List Spn->Prop)->Prop
def z9h(Z0:Rf)(Zf:Vu):q1t:=fun l n K=>Z0 l fun Qb=>Lp3 (fun Qh Jp j2l v88=>Fits j2l->CAt j2l Jp (fun y3=>Cnd (y3=true) (Cnd (Qh<=0) (At j2l Jp fun _=>InI (Jp+1)/\v88 Qh (Jp+1) (j2l.set Jp.toNat false)) (At j2l Jp fun y5=>Cnd (y5=true) (InI (Qh - 1)/\InI (Jp+1)/\v88 (Qh - 1) (Jp+1) j2l) (InI (Jp+1)/\v88 Qh (Jp+1) j2l))) (At j2l Jp fun y5=>Cnd (y5=true) (InI (Qh - 1)/\InI (Jp+1)/\v88 (Qh - 1) (Jp+1) j2l) (InI (Jp+1)/\v88 Qh (Jp+1) j2l))) (Zf j2l fun Qo=>K Qo)) n (0:Int) Qb
def q8r:q1t:=z9h q05 Bj
abbrev Wn:=BA->(Bool->Prop)->Prop
def j3h(Jc:Ut):Wn:=fun s K=>Cnd ((200:Int)<(↑s.size:Int)) (K false) (Jc s fun Qb=>Cnd (Qb=true) (Lp1 (fun Qh q4i=>Cnd (Qh<(↑s.size:Int)) (((0:Int)<=Qh/\Qh<(↑s.size:Int))/\∀b2,s[Qh.toNat]? =some b2->Cnd ((↑b2.toNat:Int)<32) (K false) (((0:Int)<=Qh/\Qh<(↑s.size:Int))/\∀b4,s[Qh.toNat]? =some b4->Cnd ((↑b4.toNat:Int)=127) (K false) (InI (Qh+1)/\q4i (Qh+1)))) (K true)) (0:Int)) (K false))
def Rr:Wn:=j3h Uu
abbrev j07:=BA->(Bool->Prop)->Prop
def j08:j07:=fun s K=>Lp1 (fun Qb Gn=>Cnd (Qb<(↑s.size:Int)) (((0:Int)<=Qb/\Qb<(↑s.size:Int))/\∀b1,s[Qb.toNat]? =some b1->Cnd ((97:Int)<=(↑b1.toNat:Int)) (Cnd ((↑b1.toNat:Int)<=122) (InI (Qb+1)/\Gn (Qb+1)) (Cnd (Qb=0) (K false) (Cnd ((48:Int)<=(↑b1.toNat:Int)) (Cnd ((↑b1.toNat:Int)<=57) (InI (Qb+1)/\Gn (Qb+1)) (Cnd ((↑b1.toNat:Int)=45) (InI (Qb+1)/\Gn (Qb+1)) (Cnd ((↑b1.toNat:Int)=95) (InI (Qb+1)/\Gn (Qb+1)) (K false)))) (Cnd ((↑b1.toNat:Int)=45) (InI (Qb+1)/\Gn (Qb+1)) (Cnd ((↑b1.toNat:Int)=95) (InI (Qb+1)/\Gn (Qb+1)) (K false)))))) (Cnd (Qb=0) (K false) (Cnd ((48:Int)<=(↑b1.toNat:Int)) (Cnd ((↑b1.toNat:Int)<=57) (InI (Qb+1)/\Gn (Qb+1)) (Cnd ((↑b1.toNat:Int)=45) (InI (Qb+1)/\Gn (Qb+1)) (Cnd ((↑b1.toNat:Int)=95) (InI (Qb+1)/\Gn (Qb+1)) (K false)))) (Cnd ((↑b1.toNat:Int)=45) (InI (Qb+1)/\Gn (Qb+1)) (Cnd ((↑b1.toNat:Int)=95) (InI (Qb+1)/\Gn (Qb+1)) (K false)))))) (K (decide ((0:Int)<(↑s.size:Int))))) (0:Int)
abbrev q65:=(List BA->Prop)->Prop
def q66:q65:=fun K=>K [B8 [97,110,100],B8 [97,114,109,115],B8 [97,116,116,114,105,98,117,116,101],B8 [98,111,111,108],B8 [99,108,97,105,109,115],B8 [99,111,110,116,97,105,110,115],B8 [99,111,111,108],B8 [99,111,111,108,105,110,103],B8 [100,101,102,97,117,108,116],B8 [100,114,97,102,116],B8 [101,110,100,115],B8 [101,120,99,108,117,100,101],B8 [101,120,105,115,116,115],B8 [101,120,112,101,114,105,109,101,110,116],B8 [102,97,108,115,101],B8 [102,108,97,103],B8 [104,111,108,100,111,117,116],B8 [105,110],B8 [105,110,99,108,117,100,101],B8 [105,115],B8 [108,97,121,101,114],B8 [108,105,115,116],B8 [109,101,109,98,101,114],B8 [110,101,101,100,115],B8 [110,111,116],B8 [110,117,109,98,101,114],B8 [111,102,102],B8 [111,110],B8 [111,114],B8 [114,117,108,101],B8 [114,117,110,110,105,110,103],B8 [115,97,108,116],B8 [115,101,103,109,101,110,116],B8 [115,101,114,118,101],B8 [115,101,116,116,105,110,103,115],B8 [115,112,108,105,116],B8 [115,116,97,114,116,115],B8 [115,116,111,112,112,101,100],B8 [116,97,114,103,101,116],B8 [116,101,120,116],B8 [116,111],B8 [116,114,117,101],B8 [117,110,116,105,108],B8 [118,97,114,105,97,116,105,111,110,115],B8 [118,101,114,115,105,111,110],B8 [119,104,101,110]]
abbrev J5:=BA->(Bool->Prop)->Prop
def w24(j2r:j07)(q7t:q65):J5:=fun s K=>j2r s fun Qb=>Cnd (Qb=true) (Cnd ((32:Int)<(↑s.size:Int)) (K false) (q7t fun Qh=>Lp1 (fun Qk z82=>Fits Qh->CAt Qh Qk (fun y4=>Cnd (y4=s) (K false) (InI (Qk+1)/\z82 (Qk+1))) (K true)) (0:Int))) (K false)
def Ry:J5:=w24 j08 q66
abbrev q3g:=Sett->(Int->Prop)->Prop
def z3b(Q2:Wn)(Qr:J5):q3g:=fun s K=>Q2 s.1 fun Qb=>Cnd (Qb=true) (Cnd (s.3<0) (K (3:Int)) (Cnd ((10000:Int)<s.3) (K (3:Int)) (Qr s.2 fun Qh=>Cnd (Qh=true) (K (0:Int)) (Cnd (s.2=B8 []) (Cnd (s.3=0) (K (0:Int)) (K (6:Int))) (K (6:Int)))))) (K (2:Int))
def q67:q3g:=z3b Rr Ry
abbrev q3h:=List Decl->(Int->Prop)->Prop
def z3c(Qr:J5):q3h:=fun l K=>Fits l->Cnd ((30:Int)<(↑l.length:Int)) (K (5:Int)) (Lp1 (fun Qh q4i=>Fits l->CAt l Qh (fun y3=>Qr y3.1 fun Qx=>Cnd (Qx=true) (At l Qh fun y6=>Qr y6.2 fun Zu=>Cnd (Zu=true) (At l Qh fun y9=>Cnd (y9.2=B8 [107,101,121]) (K (6:Int)) (At l Qh fun y11=>Cnd (y11.3<1) (K (7:Int)) (At l Qh fun y13=>Cnd ((5:Int)<y13.3) (K (7:Int)) (Cnd ((0:Int)<Qh) (At l Qh fun y15=>InI (Qh - 1)/\((0:Int)<=Qh - 1/\Qh - 1<(↑l.length:Int))/\∀y17,l[(Qh - 1).toNat]? =some y17->Cnd (Lk.blt y15.1 y17.1) (K (9:Int)) (At l Qh fun y19=>InI (Qh - 1)/\((0:Int)<=Qh - 1/\Qh - 1<(↑l.length:Int))/\∀y21,l[(Qh - 1).toNat]? =some y21->Cnd (y19.1=y21.1) (At l Qh fun y23=>InI (Qh - 1)/\((0:Int)<=Qh - 1/\Qh - 1<(↑l.length:Int))/\∀y25,l[(Qh - 1).toNat]? =some y25->Cnd (Lk.blt y25.2 y23.2) (InI (Qh+1)/\q4i (Qh+1)) (K (9:Int))) (InI (Qh+1)/\q4i (Qh+1)))) (InI (Qh+1)/\q4i (Qh+1)))))) (K (6:Int))) (K (6:Int))) (K (0:Int))) (0:Int))
def q68:q3h:=z3c Ry
abbrev Bk:=List BA->(Int->Prop)->Prop
def z5l(Q2:Wn):Bk:=fun l K=>Fits l->Cnd ((40:Int)<(↑l.length:Int)) (K (5:Int)) (Lp1 (fun Qh q4i=>Fits l->CAt l Qh (fun y3=>Cnd (y3=B8 []) (K (2:Int)) (At l Qh fun y5=>Q2 y5 fun Z2=>Cnd (Z2=true) (Cnd ((0:Int)<Qh) (At l Qh fun y8=>InI (Qh - 1)/\((0:Int)<=Qh - 1/\Qh - 1<(↑l.length:Int))/\∀y10,l[(Qh - 1).toNat]? =some y10->Cnd (Lk.blt y10 y8) (InI (Qh+1)/\q4i (Qh+1)) (K (9:Int))) (InI (Qh+1)/\q4i (Qh+1))) (K (2:Int)))) (K (0:Int))) (0:Int))
def q5s:Bk:=z5l Rr
abbrev j09:=Ex->(Bool->Prop)->Prop
def j1a:j09:=fun e K=>Cnd (e.1=0) (Cnd (e.2=B8 []) (Cnd (e.3=B8 []) (Fits e.4->Cnd ((↑e.4.length:Int)=0) (Fits e.5->K (decide ((↑e.5.length:Int)=0))) (K false)) (K false)) (K false)) (K false)
abbrev q8s:=Ex->(Bool->Prop)->Prop
def z9i(Jn:Bg):q8s:=fun e K=>Fits e.5->Fits e.4->Jn2 (fun Qk Zq=>Jn e.1 fun Qo=>Cnd (Qk=true) (Cnd (Zq=true) (Cnd (Qo=true) (Cnd (Qo=true) (K true) (Cnd (e.1=5) (K true) (K (decide (e.3=B8 []))))) (Cnd (e.2=B8 []) (Cnd (Qo=true) (K true) (Cnd (e.1=5) (K true) (K (decide (e.3=B8 []))))) (K false))) (K false)) (K false)) fun j61=>Cnd (e.1=2) (Fits e.5->j61 (decide ((2:Int)<=(↑e.5.length:Int))) (decide ((↑e.4.length:Int)=0))) (Cnd (e.1=3) (Fits e.5->j61 (decide ((2:Int)<=(↑e.5.length:Int))) (decide ((↑e.4.length:Int)=0))) (Cnd (e.1=4) (Fits e.5->j61 (decide ((↑e.5.length:Int)=1)) (decide ((↑e.4.length:Int)=0))) (Cnd (e.1=8) (Fits e.4->j61 (decide ((↑e.5.length:Int)=0)) (decide ((0:Int)<(↑e.4.length:Int)))) (Jn e.1 fun Qo=>Cnd (Qo=true) (Cnd (e.1=6) (j61 (decide ((↑e.5.length:Int)=0)) (decide ((↑e.4.length:Int)=0))) (Fits e.4->j61 (decide ((↑e.5.length:Int)=0)) (decide ((↑e.4.length:Int)=1)))) (j61 (decide ((↑e.5.length:Int)=0)) (decide ((↑e.4.length:Int)=0)))))))
def z3d:q8s:=z9i Vs
abbrev z7m:=Val->(Bool->Prop)->Prop
def z7n:z7m:=fun v K=>Cnd (v.1=1) (Cnd (v.1=3) (Cnd (v.1=5) (K true) (Fits v.4->K (decide ((↑v.4.length:Int)=0)))) (Cnd (v.1=4) (Cnd (v.1=5) (K true) (Fits v.4->K (decide ((↑v.4.length:Int)=0)))) (Cnd (v.3=B8 []) (Cnd (v.1=5) (K true) (Fits v.4->K (decide ((↑v.4.length:Int)=0)))) (K false)))) (Cnd (v.1=3) (Cnd (v.1=2) (Cnd (v.1=5) (K true) (Fits v.4->K (decide ((↑v.4.length:Int)=0)))) (Cnd (v.2=0) (Cnd (v.1=5) (K true) (Fits v.4->K (decide ((↑v.4.length:Int)=0)))) (K false))) (Cnd (v.1=2) (Cnd (v.1=4) (Cnd (v.1=5) (K true) (Fits v.4->K (decide ((↑v.4.length:Int)=0)))) (Cnd (v.3=B8 []) (Cnd (v.1=5) (K true) (Fits v.4->K (decide ((↑v.4.length:Int)=0)))) (K false))) (Cnd (v.2=0) (Cnd (v.1=4) (Cnd (v.1=5) (K true) (Fits v.4->K (decide ((↑v.4.length:Int)=0)))) (Cnd (v.3=B8 []) (Cnd (v.1=5) (K true) (Fits v.4->K (decide ((↑v.4.length:Int)=0)))) (K false))) (K false))))
abbrev q1f:=BA->(Int->Int->Prop)->Prop
def q1g:q1f:=fun s K=>Jn1 (fun Qb=>Lp1 (fun Qh q4i=>Cnd (Qh<(↑Qb.size:Int)) (((0:Int)<=Qh/\Qh<(↑Qb.size:Int))/\∀b2,Qb[Qh.toNat]? =some b2->Cnd ((↑b2.toNat:Int)<48) (K (0:Int) (1:Int)) (((0:Int)<=Qh/\Qh<(↑Qb.size:Int))/\∀b4,Qb[Qh.toNat]? =some b4->Cnd ((57:Int)<(↑b4.toNat:Int)) (K (0:Int) (1:Int)) (InI (Qh+1)/\q4i (Qh+1)))) (Cnd (Qb=B8 []) (K (0:Int) (1:Int)) (((0:Int)<=(0:Int)/\(0:Int)<(↑Qb.size:Int))/\∀b2,Qb[Int.toNat (0:Int)]? =some b2->Cnd ((↑b2.toNat:Int)=48) (Cnd (s=B8 [48]) (Cnd ((13:Int)<(↑Qb.size:Int)) (K (0:Int) (3:Int)) (Lp2 (fun Qy Vz v4t=>Cnd (Vz<(↑Qb.size:Int)) (InI ((10:Int)*Qy)/\((0:Int)<=Vz/\Vz<(↑Qb.size:Int))/\∀b5,Qb[Vz.toNat]? =some b5->InI (IntKind.u8.wrap ((↑b5.toNat:Int) - 48))/\InI ((10:Int)*Qy+IntKind.u8.wrap ((↑b5.toNat:Int) - 48))/\InI (Vz+1)/\v4t ((10:Int)*Qy+IntKind.u8.wrap ((↑b5.toNat:Int) - 48)) (Vz+1)) (Cnd ((1099511627776:Int)<Qy) (K (0:Int) (3:Int)) (Cnd ((↑Qb.size:Int)<(↑s.size:Int)) (InI ((0:Int) - Qy)/\K ((0:Int) - Qy) (0:Int)) (K Qy (0:Int))))) (0:Int) (0:Int))) (K (0:Int) (1:Int))) (Cnd ((13:Int)<(↑Qb.size:Int)) (K (0:Int) (3:Int)) (Lp2 (fun Qy Vz v4t=>Cnd (Vz<(↑Qb.size:Int)) (InI ((10:Int)*Qy)/\((0:Int)<=Vz/\Vz<(↑Qb.size:Int))/\∀b5,Qb[Vz.toNat]? =some b5->InI (IntKind.u8.wrap ((↑b5.toNat:Int) - 48))/\InI ((10:Int)*Qy+IntKind.u8.wrap ((↑b5.toNat:Int) - 48))/\InI (Vz+1)/\v4t ((10:Int)*Qy+IntKind.u8.wrap ((↑b5.toNat:Int) - 48)) (Vz+1)) (Cnd ((1099511627776:Int)<Qy) (K (0:Int) (3:Int)) (Cnd ((↑Qb.size:Int)<(↑s.size:Int)) (InI ((0:Int) - Qy)/\K ((0:Int) - Qy) (0:Int)) (K Qy (0:Int))))) (0:Int) (0:Int)))))) (0:Int)) fun z0f=>Cnd ((0:Int)<(↑s.size:Int)) (((0:Int)<=(0:Int)/\(0:Int)<(↑s.size:Int))/\∀b1,s[Int.toNat (0:Int)]? =some b1->Cnd ((↑b1.toNat:Int)=45) (((0:Int)<=(1:Int)/\(1:Int)<=(↑s.size:Int)/\(↑s.size:Int)<=(↑s.size:Int))/\z0f (s.extract (Int.toNat (1:Int)) (↑s.size:Int).toNat)) (z0f s)) (z0f s)
abbrev z1j:=BA->(A3->Bool->Prop)->Prop
def j3i(Rl:q1f):z1j:=fun s K=>LpH (fun (Qb:Int×Int×Int×Int×Int×Int×Int×Int×Unit) Gn=>Cnd (Qb.2.1<3) (Lp1 (fun Qh q4i=>Cnd (Qh<(↑s.size:Int)) (((0:Int)<=Qh/\Qh<(↑s.size:Int))/\∀b2,s[Qh.toNat]? =some b2->Cnd ((↑b2.toNat:Int)=46) (((0:Int)<=Qb.1/\Qb.1<=Qh/\Qh<=(↑s.size:Int))/\Rl (s.extract Qb.1.toNat Qh.toNat) fun Qy Vz=>Cnd (Vz=0) (Cnd (Qy<0) (K ((0:Int),(0:Int),(0:Int)) false) (Cnd ((999999:Int)<Qy) (K ((0:Int),(0:Int),(0:Int)) false) (Cnd (decide (Qb.2.1<2)=decide (Qh<(↑s.size:Int))) (((0:Int)<=Qb.2.1/\Qb.2.1<(↑(3:Nat):Int))/\((True/\(Qb.2.1=(↑(nat_lit 0):Int)->InI (Qh+1)/\InI (Qb.2.1+1)/\Gn (Qh+1,Qb.2.1+1,Qy,Qb.2.2.2.1,Qb.2.2.2.2.1,Qb.2.2.2.2.2.1,Qb.2.2.2.2.2.2.1,Qb.2.2.2.2.2.2.2.1,())))/\(Qb.2.1=(↑(nat_lit 1):Int)->InI (Qh+1)/\InI (Qb.2.1+1)/\Gn (Qh+1,Qb.2.1+1,Qb.2.2.1,Qy,Qb.2.2.2.2.1,Qb.2.2.2.2.2.1,Qb.2.2.2.2.2.2.1,Qb.2.2.2.2.2.2.2.1,())))/\(Qb.2.1=(↑(nat_lit 2):Int)->InI (Qh+1)/\InI (Qb.2.1+1)/\Gn (Qh+1,Qb.2.1+1,Qb.2.2.1,Qb.2.2.2.1,Qy,Qb.2.2.2.2.2.1,Qb.2.2.2.2.2.2.1,Qb.2.2.2.2.2.2.2.1,()))) (K ((0:Int),(0:Int),(0:Int)) false)))) (K ((0:Int),(0:Int),(0:Int)) false)) (InI (Qh+1)/\q4i (Qh+1))) (((0:Int)<=Qb.1/\Qb.1<=Qh/\Qh<=(↑s.size:Int))/\Rl (s.extract Qb.1.toNat Qh.toNat) fun Qk Zq=>Cnd (Zq=0) (Cnd (Qk<0) (K ((0:Int),(0:Int),(0:Int)) false) (Cnd ((999999:Int)<Qk) (K ((0:Int),(0:Int),(0:Int)) false) (Cnd (decide (Qb.2.1<2)=decide (Qh<(↑s.size:Int))) (((0:Int)<=Qb.2.1/\Qb.2.1<(↑(3:Nat):Int))/\((True/\(Qb.2.1=(↑(nat_lit 0):Int)->InI (Qh+1)/\InI (Qb.2.1+1)/\Gn (Qh+1,Qb.2.1+1,Qk,Qb.2.2.2.1,Qb.2.2.2.2.1,Qb.2.2.2.2.2.1,Qb.2.2.2.2.2.2.1,Qb.2.2.2.2.2.2.2.1,())))/\(Qb.2.1=(↑(nat_lit 1):Int)->InI (Qh+1)/\InI (Qb.2.1+1)/\Gn (Qh+1,Qb.2.1+1,Qb.2.2.1,Qk,Qb.2.2.2.2.1,Qb.2.2.2.2.2.1,Qb.2.2.2.2.2.2.1,Qb.2.2.2.2.2.2.2.1,())))/\(Qb.2.1=(↑(nat_lit 2):Int)->InI (Qh+1)/\InI (Qb.2.1+1)/\Gn (Qh+1,Qb.2.1+1,Qb.2.2.1,Qb.2.2.2.1,Qk,Qb.2.2.2.2.2.1,Qb.2.2.2.2.2.2.1,Qb.2.2.2.2.2.2.2.1,()))) (K ((0:Int),(0:Int),(0:Int)) false)))) (K ((0:Int),(0:Int),(0:Int)) false))) Qb.1) (K (Qb.2.2.1,Qb.2.2.2.1,Qb.2.2.2.2.1) true)) ((0:Int),(0:Int),(0:Int),(0:Int),(0:Int),(0:Int),(0:Int),(0:Int),())
def z7o:z1j:=j3i q1g
abbrev z5m:=List BA->(Int->Prop)->Prop
def j71(Q2:Wn):z5m:=fun l K=>Fits l->Cnd ((20:Int)<(↑l.length:Int)) (K (5:Int)) (Lp1 (fun Qh q4i=>Fits l->CAt l Qh (fun y3=>Q2 y3 fun Qx=>Cnd (Qx=true) (InI (Qh+1)/\q4i (Qh+1)) (K (2:Int))) (Lp1 (fun Qo z2a=>Fits l->CAt l Qo (fun y5=>InI (Qo - 1)/\((0:Int)<=Qo - 1/\Qo - 1<(↑l.length:Int))/\∀y7,l[(Qo - 1).toNat]? =some y7->Cnd (Lk.blt y7 y5) (InI (Qo+1)/\z2a (Qo+1)) (K (9:Int))) (K (0:Int))) (1:Int))) (0:Int))
def j1b:z5m:=j71 Rr
abbrev q4n:=Val->(Int->Prop)->Prop
def j3j(z74:z7m)(Q2:Wn)(z77:z1j)(j2s:z5m):q4n:=fun v K=>Cnd (v.1<1) (K (7:Int)) (Cnd ((5:Int)<v.1) (K (7:Int)) (z74 v fun Qb=>Cnd (Qb=true) (Cnd (v.1=1) (Cnd (v.2=0) (K (0:Int)) (Cnd (v.2=1) (K (0:Int)) (K (3:Int)))) (Cnd (v.1=2) (Cnd (v.2<(-1099511627776:Int)) (K (3:Int)) (Cnd ((1099511627776:Int)<v.2) (K (3:Int)) (K (0:Int)))) (Cnd (v.1=3) (Q2 v.3 fun Qh=>Cnd (Qh=true) (K (0:Int)) (K (2:Int))) (Cnd (v.1=4) (z77 v.3 fun (_:Int×Int×Int) Jp=>Cnd (Jp=true) (K (0:Int)) (K (1:Int))) (Cnd (v.1=5) (j2s v.4 fun Qh=>K Qh) (K (0:Int))))))) (K (15:Int))))
def z1k:q4n:=j3j z7n Rr z7o j1b
abbrev j1c:=Ex->(Int->Prop)->Prop
def j72(z4d:q8s)(Jn:Bg)(Qr:J5)(Vq:q4n):j1c:=fun e K=>Cnd (e.1<1) (K (7:Int)) (Cnd ((15:Int)<e.1) (K (7:Int)) (z4d (Ex.mk e.1 e.2 e.3 e.4 e.5) fun Qb=>Cnd (Qb=true) (Fits e.5->Cnd ((12:Int)<(↑e.5.length:Int)) (K (5:Int)) (Fits e.4->Cnd ((20:Int)<(↑e.4.length:Int)) (K (5:Int)) (Lp1 (fun Qo z2a=>Fits e.5->CAt e.5 Qo (fun y5=>Cnd (y5.1=e.1) (Cnd (e.1=4) (InI (Qo+1)/\z2a (Qo+1)) (K (15:Int))) (InI (Qo+1)/\z2a (Qo+1))) (Jn e.1 fun Qx=>Cnd (Qx=true) (Qr e.2 fun Q1=>Cnd (Q1=true) (Jn e.1 fun Z2=>Cnd (Z2=true) (Qr e.3 fun Zu=>Cnd (Zu=true) (Lp1 (fun Zg j9y=>Fits e.4->CAt e.4 Zg (fun y11=>Vq y11 fun Qg=>Cnd (Qg=0) (InI (Zg+1)/\j9y (Zg+1)) (K Qg)) (Cnd (e.1=9) (((0:Int)<=(0:Int)/\(0:Int)<(↑e.4.length:Int))/\∀y11,e.4[Int.toNat (0:Int)]? =some y11->Cnd (y11.1=3) (K (0:Int)) (K (8:Int))) (Cnd (e.1=10) (((0:Int)<=(0:Int)/\(0:Int)<(↑e.4.length:Int))/\∀y11,e.4[Int.toNat (0:Int)]? =some y11->Cnd (y11.1=3) (K (0:Int)) (K (8:Int))) (Cnd (e.1=11) (((0:Int)<=(0:Int)/\(0:Int)<(↑e.4.length:Int))/\∀y11,e.4[Int.toNat (0:Int)]? =some y11->Cnd (y11.1=3) (K (0:Int)) (K (8:Int))) (K (0:Int)))))) (0:Int)) (K (6:Int))) (Cnd (e.1=5) (Qr e.3 fun Zu=>Cnd (Zu=true) (Lp1 (fun Zg j9y=>Fits e.4->CAt e.4 Zg (fun y11=>Vq y11 fun Qg=>Cnd (Qg=0) (InI (Zg+1)/\j9y (Zg+1)) (K Qg)) (Cnd (e.1=9) (((0:Int)<=(0:Int)/\(0:Int)<(↑e.4.length:Int))/\∀y11,e.4[Int.toNat (0:Int)]? =some y11->Cnd (y11.1=3) (K (0:Int)) (K (8:Int))) (Cnd (e.1=10) (((0:Int)<=(0:Int)/\(0:Int)<(↑e.4.length:Int))/\∀y11,e.4[Int.toNat (0:Int)]? =some y11->Cnd (y11.1=3) (K (0:Int)) (K (8:Int))) (Cnd (e.1=11) (((0:Int)<=(0:Int)/\(0:Int)<(↑e.4.length:Int))/\∀y11,e.4[Int.toNat (0:Int)]? =some y11->Cnd (y11.1=3) (K (0:Int)) (K (8:Int))) (K (0:Int)))))) (0:Int)) (K (6:Int))) (Lp1 (fun Zu v9c=>Fits e.4->CAt e.4 Zu (fun y10=>Vq y10 fun Q3=>Cnd (Q3=0) (InI (Zu+1)/\v9c (Zu+1)) (K Q3)) (Cnd (e.1=9) (((0:Int)<=(0:Int)/\(0:Int)<(↑e.4.length:Int))/\∀y10,e.4[Int.toNat (0:Int)]? =some y10->Cnd (y10.1=3) (K (0:Int)) (K (8:Int))) (Cnd (e.1=10) (((0:Int)<=(0:Int)/\(0:Int)<(↑e.4.length:Int))/\∀y10,e.4[Int.toNat (0:Int)]? =some y10->Cnd (y10.1=3) (K (0:Int)) (K (8:Int))) (Cnd (e.1=11) (((0:Int)<=(0:Int)/\(0:Int)<(↑e.4.length:Int))/\∀y10,e.4[Int.toNat (0:Int)]? =some y10->Cnd (y10.1=3) (K (0:Int)) (K (8:Int))) (K (0:Int)))))) (0:Int)))) (K (6:Int))) (Jn e.1 fun Q1=>Cnd (Q1=true) (Qr e.3 fun Z2=>Cnd (Z2=true) (Lp1 (fun Zu v9c=>Fits e.4->CAt e.4 Zu (fun y10=>Vq y10 fun Q3=>Cnd (Q3=0) (InI (Zu+1)/\v9c (Zu+1)) (K Q3)) (Cnd (e.1=9) (((0:Int)<=(0:Int)/\(0:Int)<(↑e.4.length:Int))/\∀y10,e.4[Int.toNat (0:Int)]? =some y10->Cnd (y10.1=3) (K (0:Int)) (K (8:Int))) (Cnd (e.1=10) (((0:Int)<=(0:Int)/\(0:Int)<(↑e.4.length:Int))/\∀y10,e.4[Int.toNat (0:Int)]? =some y10->Cnd (y10.1=3) (K (0:Int)) (K (8:Int))) (Cnd (e.1=11) (((0:Int)<=(0:Int)/\(0:Int)<(↑e.4.length:Int))/\∀y10,e.4[Int.toNat (0:Int)]? =some y10->Cnd (y10.1=3) (K (0:Int)) (K (8:Int))) (K (0:Int)))))) (0:Int)) (K (6:Int))) (Cnd (e.1=5) (Qr e.3 fun Z2=>Cnd (Z2=true) (Lp1 (fun Zu v9c=>Fits e.4->CAt e.4 Zu (fun y10=>Vq y10 fun Q3=>Cnd (Q3=0) (InI (Zu+1)/\v9c (Zu+1)) (K Q3)) (Cnd (e.1=9) (((0:Int)<=(0:Int)/\(0:Int)<(↑e.4.length:Int))/\∀y10,e.4[Int.toNat (0:Int)]? =some y10->Cnd (y10.1=3) (K (0:Int)) (K (8:Int))) (Cnd (e.1=10) (((0:Int)<=(0:Int)/\(0:Int)<(↑e.4.length:Int))/\∀y10,e.4[Int.toNat (0:Int)]? =some y10->Cnd (y10.1=3) (K (0:Int)) (K (8:Int))) (Cnd (e.1=11) (((0:Int)<=(0:Int)/\(0:Int)<(↑e.4.length:Int))/\∀y10,e.4[Int.toNat (0:Int)]? =some y10->Cnd (y10.1=3) (K (0:Int)) (K (8:Int))) (K (0:Int)))))) (0:Int)) (K (6:Int))) (Lp1 (fun Z2 y9d=>Fits e.4->CAt e.4 Z2 (fun y9=>Vq y9 fun Zl=>Cnd (Zl=0) (InI (Z2+1)/\y9d (Z2+1)) (K Zl)) (Cnd (e.1=9) (((0:Int)<=(0:Int)/\(0:Int)<(↑e.4.length:Int))/\∀y9,e.4[Int.toNat (0:Int)]? =some y9->Cnd (y9.1=3) (K (0:Int)) (K (8:Int))) (Cnd (e.1=10) (((0:Int)<=(0:Int)/\(0:Int)<(↑e.4.length:Int))/\∀y9,e.4[Int.toNat (0:Int)]? =some y9->Cnd (y9.1=3) (K (0:Int)) (K (8:Int))) (Cnd (e.1=11) (((0:Int)<=(0:Int)/\(0:Int)<(↑e.4.length:Int))/\∀y9,e.4[Int.toNat (0:Int)]? =some y9->Cnd (y9.1=3) (K (0:Int)) (K (8:Int))) (K (0:Int)))))) (0:Int)))))) (0:Int)))) (K (15:Int))))
def z1l:j1c:=j72 z3d Vs Ry z1k
abbrev q8t:=Ex->Int->Int->(Int->Int->Prop)->Prop
def j73(v9d:j1c)(X:q8t):q8t:=fun e depth n K=>Cnd ((60:Int)<=n) (K (5:Int) n) (InI (n+1)/\Cnd ((10:Int)<depth) (K (18:Int) (n+1)) (v9d (Ex.mk e.1 e.2 e.3 e.4 e.5) fun Qb=>Cnd (Qb=0) (Lp2 (fun Qh Jp q54=>Fits e.5->CAt e.5 Qh (fun y3=>InI (depth+1)/\X (Ex.mk y3.1 y3.2 y3.3 y3.4 y3.5) (depth+1) Jp fun Qx q41=>Cnd (Qx=0) (InI (Qh+1)/\q54 (Qh+1) q41) (K Qx q41)) (K (0:Int) Jp)) (0:Int) (n+1)) (K Qb (n+1))))
def j1d:q8t:=fun e depth n K=> ∀X:q8t,(∀e depth n K,j73 z1l X e depth n K->X e depth n K)->X e depth n K
abbrev q3i:=Ex->(Int->Prop)->Prop
def j74(j2t:q8t):q3i:=fun e K=>j2t (Ex.mk e.1 e.2 e.3 e.4 e.5) (1:Int) (0:Int) fun Qb _=>K Qb
def z1m:q3i:=j74 j1d
abbrev q5t:=Seg->(Int->Prop)->Prop
def z5n(Qr:J5)(Ub:Bk)(j2u:j09)(U9:q3i):q5t:=fun g K=>Qr g.1 fun Qb=>Cnd (Qb=true) (Qr g.2 fun Qh=>Cnd (Qh=true) (Ub g.3 fun Qk=>Cnd (Qk=0) (Ub g.4 fun Qo=>Cnd (Qo=0) (j2u (Ex.mk g.5.1 g.5.2 g.5.3 g.5.4 g.5.5) fun Qy=>Cnd (Qy=true) (K (0:Int)) (U9 (Ex.mk g.5.1 g.5.2 g.5.3 g.5.4 g.5.5) fun Qx=>K Qx)) (K Qo)) (K Qk)) (K (6:Int))) (K (6:Int))
def q90:q5t:=z5n Ry q5s j1a z1m
abbrev q3j:=List Seg->(Int->Prop)->Prop
def z3e(z0k:q5t):q3j:=fun l K=>Fits l->Cnd ((20:Int)<(↑l.length:Int)) (K (5:Int)) (Lp1 (fun Qh q4i=>Fits l->CAt l Qh (fun y3=>z0k (Seg.mk y3.1 y3.2 y3.3 y3.4 (Ex.mk y3.5.1 y3.5.2 y3.5.3 y3.5.4 y3.5.5)) fun Qx=>Cnd (Qx=0) (Cnd ((0:Int)<Qh) (At l Qh fun y6=>InI (Qh - 1)/\((0:Int)<=Qh - 1/\Qh - 1<(↑l.length:Int))/\∀y8,l[(Qh - 1).toNat]? =some y8->Cnd (Lk.blt y8.1 y6.1) (InI (Qh+1)/\q4i (Qh+1)) (K (9:Int))) (InI (Qh+1)/\q4i (Qh+1))) (K Qx)) (K (0:Int))) (0:Int))
def q69:q3j:=z3e q90
abbrev Bl:=Flg->(Int->Prop)->Prop
def q8u(Vq:q4n):Bl:=fun f K=>Fits f.3->Cnd ((8:Int)<(↑f.3.length:Int)) (K (5:Int)) (Cnd ((↑f.3.length:Int)=0) (K (3:Int)) (Lp1 (fun Qh q4i=>CAt f.3 Qh (fun y2=>Vq y2 fun Qy=>Cnd (Qy=0) (At f.3 Qh fun y5=>Cnd (y5.1=f.2) (InI (Qh+1)/\q4i (Qh+1)) (K (8:Int))) (K Qy)) (Cnd (f.5<1) (K (3:Int)) (Cnd ((↑f.3.length:Int)<f.5) (K (3:Int)) (K (0:Int))))) (0:Int)))
def q3k:Bl:=q8u z1k
abbrev U3:=List Prq->(Int->Prop)->Prop
def q3l(Qr:J5):U3:=fun l K=>Fits l->Cnd ((4:Int)<(↑l.length:Int)) (K (5:Int)) (Lp1 (fun Qh q4i=>Fits l->CAt l Qh (fun y3=>Qr y3.1 fun Qx=>Cnd (Qx=true) (Cnd ((0:Int)<Qh) (At l Qh fun y6=>InI (Qh - 1)/\((0:Int)<=Qh - 1/\Qh - 1<(↑l.length:Int))/\∀y8,l[(Qh - 1).toNat]? =some y8->Cnd (Lk.blt y8.1 y6.1) (At l Qh fun y10=>Cnd (y10.2<1) (K (3:Int)) (At l Qh fun y12=>Cnd ((8:Int)<y12.2) (K (3:Int)) (InI (Qh+1)/\q4i (Qh+1)))) (K (9:Int))) (At l Qh fun y6=>Cnd (y6.2<1) (K (3:Int)) (At l Qh fun y8=>Cnd ((8:Int)<y8.2) (K (3:Int)) (InI (Qh+1)/\q4i (Qh+1))))) (K (6:Int))) (K (0:Int))) (0:Int))
def Rz:U3:=q3l Ry
abbrev q5u:=List Tgt->Int->(Int->Prop)->Prop
def z5o(Qr:J5)(Ub:Bk):q5u:=fun l n K=>Fits l->Cnd ((8:Int)<(↑l.length:Int)) (K (5:Int)) (Lp1 (fun Qh q4i=>Fits l->CAt l Qh (fun y3=>Qr y3.1 fun Qx=>Cnd (Qx=true) (At l Qh fun y6=>Cnd (y6.2<1) (K (3:Int)) (At l Qh fun y8=>Cnd (n<y8.2) (K (3:Int)) (At l Qh fun y10=>Fits y10.3->Cnd ((↑y10.3.length:Int)=0) (K (3:Int)) (At l Qh fun y13=>Ub y13.3 fun q0y=>Cnd (q0y=0) (InI (Qh+1)/\q4i (Qh+1)) (K q0y))))) (K (6:Int))) (K (0:Int))) (0:Int))
def q91:q5u:=z5o Ry q5s
abbrev q71:=List Rng->Int->(Int->Prop)->Prop
def z1n:q71:=fun l variations K=>Fits l->Cnd ((16:Int)<(↑l.length:Int)) (K (5:Int)) (Lp2 (fun Qh Jp q54=>Fits l->CAt l Jp (fun y3=>Cnd (y3.3<1) (K (3:Int)) (At l Jp fun y5=>Cnd (variations<y5.3) (K (3:Int)) (At l Jp fun y7=>Cnd (y7.1=Qh) (At l Jp fun y9=>Cnd (y9.2<=Qh) (K (9:Int)) (Cnd ((0:Int)<Jp) (At l Jp fun y11=>InI (Jp - 1)/\((0:Int)<=Jp - 1/\Jp - 1<(↑l.length:Int))/\∀y13,l[(Jp - 1).toNat]? =some y13->Cnd (y11.3=y13.3) (K (9:Int)) (At l Jp fun y15=>InI (Jp+1)/\q54 y15.2 (Jp+1))) (At l Jp fun y11=>InI (Jp+1)/\q54 y11.2 (Jp+1)))) (K (9:Int))))) (Cnd (Qh=10000) (K (0:Int)) (K (3:Int)))) (0:Int) (0:Int))
abbrev q4o:=Srv->Int->(Int->Prop)->Prop
def j3k(Qr:J5)(Q2:Wn)(q0s:q71):q4o:=fun v variations K=>Cnd (v.1=0) (Qr v.2 fun Qb=>Cnd (Qb=true) (Qr v.3 fun Qh=>Cnd (Qh=true) (Q2 v.4 fun Qk=>Cnd (Qk=true) (q0s v.5 variations fun Qo=>K Qo) (K (2:Int))) (K (6:Int))) (K (6:Int))) (Cnd (v.1<1) (K (3:Int)) (Cnd (variations<v.1) (K (3:Int)) (Cnd (v.2=B8 []) (Cnd (v.3=B8 []) (Cnd (v.4=B8 []) (Fits v.5->Cnd ((0:Int)<(↑v.5.length:Int)) (K (15:Int)) (K (0:Int))) (K (15:Int))) (K (15:Int))) (K (15:Int)))))
def z1o:q4o:=j3k Ry Rr z1n
abbrev z1p:=List Rul->Int->(Int->Prop)->Prop
def j3l(Qr:J5)(U9:q3i)(q0t:q4o):z1p:=fun l n K=>Fits l->Cnd ((12:Int)<(↑l.length:Int)) (K (5:Int)) (Lp1 (fun Qh q4i=>Fits l->CAt l Qh (fun y3=>Qr y3.1 fun Qx=>Cnd (Qx=true) (Lp1 (fun Q1 v4u=>Cnd (Q1<Qh) (At l Q1 fun y7=>At l Qh fun y9=>Cnd (y7.1=y9.1) (K (10:Int)) (InI (Q1+1)/\v4u (Q1+1))) (At l Qh fun y7=>U9 (Ex.mk y7.2.1 y7.2.2 y7.2.3 y7.2.4 y7.2.5) fun Zg=>Cnd (Zg=0) (At l Qh fun y10=>q0t (Srv.mk y10.3.1 y10.3.2 y10.3.3 y10.3.4 y10.3.5) n fun Q3=>Cnd (Q3=0) (InI (Qh+1)/\q4i (Qh+1)) (K Q3)) (K Zg))) (0:Int)) (K (6:Int))) (K (0:Int))) (0:Int))
def z7p:z1p:=j3l Ry z1m z1o
abbrev z5p:=Flg->(Int->Prop)->Prop
def j75(Qr:J5)(q4b:Bl)(R4:U3)(z0l:q5u)(z78:z1p)(q0t:q4o):z5p:=fun f K=>Fits f.3->Qr f.1 fun Qh=>Cnd (Qh=true) (Cnd (f.2<1) (K (7:Int)) (Cnd ((5:Int)<f.2) (K (7:Int)) (q4b (Flg.mk f.1 f.2 f.3 f.4 f.5 f.6 f.7 f.8 (Srv.mk f.9.1 f.9.2 f.9.3 f.9.4 f.9.5)) fun Qk=>Cnd (Qk=0) (R4 f.6 fun Qo=>Cnd (Qo=0) (z0l f.7 (↑f.3.length:Int) fun Qy=>Cnd (Qy=0) (z78 f.8 (↑f.3.length:Int) fun Qx=>Cnd (Qx=0) (q0t (Srv.mk f.9.1 f.9.2 f.9.3 f.9.4 f.9.5) (↑f.3.length:Int) fun Q1=>K Q1) (K Qx)) (K Qy)) (K Qo)) (K Qk)))) (K (6:Int))
def j1e:z5p:=j75 Ry q3k Rz q91 z7p z1o
abbrev z1q:=List Flg->(Int->Prop)->Prop
def j3m(j2v:z5p):z1q:=fun l K=>Fits l->Cnd ((30:Int)<(↑l.length:Int)) (K (5:Int)) (Lp1 (fun Qh q4i=>Fits l->CAt l Qh (fun y3=>j2v (Flg.mk y3.1 y3.2 y3.3 y3.4 y3.5 y3.6 y3.7 y3.8 (Srv.mk y3.9.1 y3.9.2 y3.9.3 y3.9.4 y3.9.5)) fun Qx=>Cnd (Qx=0) (Cnd ((0:Int)<Qh) (At l Qh fun y6=>InI (Qh - 1)/\((0:Int)<=Qh - 1/\Qh - 1<(↑l.length:Int))/\∀y8,l[(Qh - 1).toNat]? =some y8->Cnd (Lk.blt y8.1 y6.1) (InI (Qh+1)/\q4i (Qh+1)) (K (9:Int))) (InI (Qh+1)/\q4i (Qh+1))) (K Qx)) (K (0:Int))) (0:Int))
def z7q:z1q:=j3m j1e
abbrev z1r:=Lay_->(Int->Prop)->Prop
def j3n(Qr:J5)(Q2:Wn):z1r:=fun l K=>Qr l.1 fun Qb=>Cnd (Qb=true) (Qr l.2 fun Qh=>Cnd (Qh=true) (Q2 l.3 fun Qk=>Cnd (Qk=true) (Cnd (l.4<0) (K (3:Int)) (Cnd ((10000:Int)<l.4) (K (3:Int)) (Cnd (l.5<0) (K (3:Int)) (Cnd ((1099511627776:Int)<l.5) (K (3:Int)) (Fits l.6->Cnd ((32:Int)<(↑l.6.length:Int)) (K (5:Int)) (Lp1 (fun Qy v4y=>Fits l.6->CAt l.6 Qy (fun y6=>Cnd (y6.1<0) (K (3:Int)) (Cnd (y6.2<=y6.1) (K (3:Int)) (Cnd ((10000:Int)<y6.2) (K (3:Int)) (Cnd (y6.3<0) (K (3:Int)) (Cnd ((1099511627776:Int)<y6.3) (K (3:Int)) (Cnd ((0:Int)<Qy) (InI (Qy - 1)/\((0:Int)<=Qy - 1/\Qy - 1<(↑l.6.length:Int))/\∀y8,l.6[(Qy - 1).toNat]? =some y8->Cnd (y6.1<y8.2) (K (9:Int)) (InI (Qy+1)/\v4y (Qy+1))) (InI (Qy+1)/\v4y (Qy+1)))))))) (K (0:Int))) (0:Int))))))) (K (2:Int))) (K (6:Int))) (K (6:Int))
def z7r:z1r:=j3n Ry Rr
abbrev q8v:=List Lay_->(Int->Prop)->Prop
def z9j(z79:z1r):q8v:=fun l K=>Fits l->Cnd ((6:Int)<(↑l.length:Int)) (K (5:Int)) (Lp1 (fun Qh q4i=>Fits l->CAt l Qh (fun y3=>z79 y3 fun Qx=>Cnd (Qx=0) (Cnd ((0:Int)<Qh) (At l Qh fun y6=>InI (Qh - 1)/\((0:Int)<=Qh - 1/\Qh - 1<(↑l.length:Int))/\∀y8,l[(Qh - 1).toNat]? =some y8->Cnd (Lk.blt y8.1 y6.1) (InI (Qh+1)/\q4i (Qh+1)) (K (9:Int))) (InI (Qh+1)/\q4i (Qh+1))) (K Qx)) (K (0:Int))) (0:Int))
def z3f:q8v:=z9j z7r
abbrev z7s:=List Spn->(Int->Prop)->Prop
def z7t:z7s:=fun l K=>Fits l->Cnd ((16:Int)<(↑l.length:Int)) (K (5:Int)) (Lp1 (fun Qh q4i=>Fits l->CAt l Qh (fun y3=>Cnd (y3.1<0) (K (3:Int)) (At l Qh fun y5=>At l Qh fun y7=>Cnd (y7.2<=y5.1) (K (3:Int)) (At l Qh fun y9=>Cnd ((10000:Int)<y9.2) (K (3:Int)) (Cnd ((0:Int)<Qh) (At l Qh fun y11=>InI (Qh - 1)/\((0:Int)<=Qh - 1/\Qh - 1<(↑l.length:Int))/\∀y13,l[(Qh - 1).toNat]? =some y13->Cnd (y11.1<=y13.2) (K (9:Int)) (InI (Qh+1)/\q4i (Qh+1))) (InI (Qh+1)/\q4i (Qh+1)))))) (K (0:Int))) (0:Int))
abbrev Bn:=Exper->(Int->Prop)->Prop
def q8w(Qr:J5)(Q2:Wn)(z8a:z7s)(q0s:q71)(U9:q3i):Bn:=fun x K=>Qr x.1 fun Qb=>Cnd (Qb=true) (Qr x.2 fun Qh=>Cnd (Qh=true) (Qr x.3 fun Qk=>Cnd (Qk=true) (Q2 x.4 fun Qo=>Cnd (Qo=true) (Cnd (x.5<1) (K (7:Int)) (Cnd ((3:Int)<x.5) (K (7:Int)) (z8a x.6 fun Qy=>Cnd (Qy=0) (q0s x.7 (8:Int) fun Qx=>Cnd (Qx=0) (U9 (Ex.mk x.8.1 x.8.2 x.8.3 x.8.4 x.8.5) fun Q1=>K Q1) (K Qx)) (K Qy)))) (K (2:Int))) (K (6:Int))) (K (6:Int))) (K (6:Int))
def q3m:Bn:=q8w Ry Rr z7t z1n z1m
abbrev Rg:=List Exper->(Int->Prop)->Prop
def q6e(q4c:Bn):Rg:=fun l K=>Fits l->Cnd ((16:Int)<(↑l.length:Int)) (K (5:Int)) (Lp1 (fun Qh q4i=>Fits l->CAt l Qh (fun y3=>q4c (Exper.mk y3.1 y3.2 y3.3 y3.4 y3.5 y3.6 y3.7 (Ex.mk y3.8.1 y3.8.2 y3.8.3 y3.8.4 y3.8.5)) fun Qx=>Cnd (Qx=0) (Cnd ((0:Int)<Qh) (At l Qh fun y6=>InI (Qh - 1)/\((0:Int)<=Qh - 1/\Qh - 1<(↑l.length:Int))/\∀y8,l[(Qh - 1).toNat]? =some y8->Cnd (Lk.blt y8.1 y6.1) (InI (Qh+1)/\q4i (Qh+1)) (K (9:Int))) (InI (Qh+1)/\q4i (Qh+1))) (K Qx)) (K (0:Int))) (0:Int))
def q1h:Rg:=q6e q3m
abbrev Rh:=Envt->(Int->Prop)->Prop
def q6f(q7u:q3g)(q7v:q3h)(q7w:q3j)(z8b:z1q)(z4e:q8v)(q1n:Rg):Rh:=fun v K=>q7u (Sett.mk v.1.1 v.1.2 v.1.3) fun Qb=>Cnd (Qb=0) (q7v v.2 fun Qh=>Cnd (Qh=0) (q7w v.3 fun Qk=>Cnd (Qk=0) (z8b v.4 fun Qo=>Cnd (Qo=0) (z4e v.5 fun Qy=>Cnd (Qy=0) (q1n v.6 fun Qx=>K Qx) (K Qy)) (K Qo)) (K Qk)) (K Qh)) (K Qb)
def q1i:Rh:=q6f q67 q68 q69 z7q z3f q1h
abbrev q2d:=List Seg->(List BA->Prop)->Prop
def z1s:q2d:=fun l K=>Lp2 (fun Qb Zk G8=>Fits l->CAt l Zk (fun y2=>Sml (Qb++[y2.1]).length/\InI (Zk+1)/\G8 (Qb++[y2.1]) (Zk+1)) (K Qb)) [] (0:Int)
abbrev z3g:=List BA->BA->(Bool->Prop)->Prop
def q92:z3g:=fun l s K=>Lp1 (fun Qb Gn=>Fits l->CAt l Qb (fun y2=>Cnd (y2=s) (K true) (InI (Qb+1)/\Gn (Qb+1))) (K false)) (0:Int)
abbrev z5q:=List Decl->BA->BA->(Int->Prop)->Prop
def q5v:z5q:=fun l kind name K=>Lp1 (fun Qb Gn=>Fits l->CAt l Qb (fun y2=>Cnd (y2.1=kind) (At l Qb fun y4=>Cnd (y4.2=name) (At l Qb fun y6=>K y6.3) (InI (Qb+1)/\Gn (Qb+1))) (InI (Qb+1)/\Gn (Qb+1))) (Cnd (name=B8 [107,101,121]) (K (3:Int)) (K (0:Int)))) (0:Int)
abbrev j76:=Int->Ex->(Bool->Prop)->Prop
def q8x:j76:=fun t e K=>Cnd (e.1=6) (K true) (Cnd (e.1=8) (Lp1 (fun Qb Gn=>Fits e.4->CAt e.4 Qb (fun y2=>Cnd (y2.1=t) (InI (Qb+1)/\Gn (Qb+1)) (K false)) (K (match decide ((t,e,()).1=5) with|true=>false|false=>true))) (0:Int)) (Fits e.4->Cnd ((↑e.4.length:Int)=0) (K false) (((0:Int)<=(0:Int)/\(0:Int)<(↑e.4.length:Int))/\∀y1,e.4[Int.toNat (0:Int)]? =some y1->Cnd (e.1=7) (K (decide (y1.1=t))) (Jn1 (fun Qo=>Cnd (Qo=true) (Cnd (t=3) (K (decide (y1.1=3))) (K false)) (Cnd (e.1=11) (Cnd (t=3) (K (decide (y1.1=3))) (Cnd (t=5) (K (decide (y1.1=3))) (K false))) (Cnd (t=2) (K (decide (y1.1=t))) (Cnd (t=3) (K (decide (y1.1=t))) (Cnd (t=4) (K (decide (y1.1=t))) (K false)))))) fun v4v=>Cnd (e.1=9) (v4v (decide (e.1=9))) (v4v (decide (e.1=10)))))))
abbrev Bo:=List Decl->List BA->Ex->(Int->Prop)->Prop
def j77(q4d:z3g)(Jn:Bg)(q9l:z5q)(w76:j76)(X:Bo):Bo:=fun l segments e K=>Cnd (e.1=5) (q4d segments e.3 fun Qb=>Cnd (Qb=true) (Jn0 (Lp1 (fun Qh q4i=>Fits e.5->CAt e.5 Qh (fun y3=>X l segments (Ex.mk y3.1 y3.2 y3.3 y3.4 y3.5) fun Qx=>Cnd (Qx=0) (InI (Qh+1)/\q4i (Qh+1)) (K Qx)) (K (0:Int))) (0:Int)) fun Qh=>Jn e.1 fun Qk=>Cnd (Qk=true) (q9l l e.2 e.3 fun Qo=>Cnd (Qo=0) (K (11:Int)) (w76 Qo (Ex.mk e.1 e.2 e.3 e.4 e.5) fun Qy=>Cnd (Qy=true) Qh (K (8:Int)))) Qh) (K (11:Int))) (Jn0 (Lp1 (fun Qb Gn=>Fits e.5->CAt e.5 Qb (fun y2=>X l segments (Ex.mk y2.1 y2.2 y2.3 y2.4 y2.5) fun Qy=>Cnd (Qy=0) (InI (Qb+1)/\Gn (Qb+1)) (K Qy)) (K (0:Int))) (0:Int)) fun Qb=>Jn e.1 fun Qh=>Cnd (Qh=true) (q9l l e.2 e.3 fun Qk=>Cnd (Qk=0) (K (11:Int)) (w76 Qk (Ex.mk e.1 e.2 e.3 e.4 e.5) fun Qo=>Cnd (Qo=true) Qb (K (8:Int)))) Qb)
def z1t:Bo:=fun l segments e K=> ∀X:Bo,(∀l segments e K,j77 q92 Vs q5v q8x X l segments e K->X l segments e K)->X l segments e K
abbrev z3h:=List BA->BA->(List BA->Prop)->Prop
def q93:z3h:=fun l s K=>Lp1 (fun Qb Gn=>Fits l->CAt l Qb (fun y2=>Cnd (Lk.blt y2 s) (InI (Qb+1)/\Gn (Qb+1)) (Fits l->CAt l Qb (fun y5=>Cnd (y5=s) (K l) (((0:Int)<=(0:Int)/\(0:Int)<=Qb/\Qb<=(↑l.length:Int))/\Sml ([]++List.drop (Int.toNat (0:Int)) (List.take Qb.toNat l)).length/\((0:Int)<=Qb/\Qb<=(↑l.length:Int)/\(↑l.length:Int)<=(↑l.length:Int))/\Sml ([]++List.drop (Int.toNat (0:Int)) (List.take Qb.toNat l)++[s]).length/\Sml ([]++List.drop (Int.toNat (0:Int)) (List.take Qb.toNat l)++[s]++List.drop Qb.toNat (List.take (↑l.length:Int).toNat l)).length/\K ([]++List.drop (Int.toNat (0:Int)) (List.take Qb.toNat l)++[s]++List.drop Qb.toNat (List.take (↑l.length:Int).toNat l)))) (((0:Int)<=(0:Int)/\(0:Int)<=Qb/\Qb<=(↑l.length:Int))/\Sml ([]++List.drop (Int.toNat (0:Int)) (List.take Qb.toNat l)).length/\((0:Int)<=Qb/\Qb<=(↑l.length:Int)/\(↑l.length:Int)<=(↑l.length:Int))/\Sml ([]++List.drop (Int.toNat (0:Int)) (List.take Qb.toNat l)++[s]).length/\Sml ([]++List.drop (Int.toNat (0:Int)) (List.take Qb.toNat l)++[s]++List.drop Qb.toNat (List.take (↑l.length:Int).toNat l)).length/\K ([]++List.drop (Int.toNat (0:Int)) (List.take Qb.toNat l)++[s]++List.drop Qb.toNat (List.take (↑l.length:Int).toNat l))))) (Fits l->CAt l Qb (fun y3=>Cnd (y3=s) (K l) (((0:Int)<=(0:Int)/\(0:Int)<=Qb/\Qb<=(↑l.length:Int))/\Sml ([]++List.drop (Int.toNat (0:Int)) (List.take Qb.toNat l)).length/\((0:Int)<=Qb/\Qb<=(↑l.length:Int)/\(↑l.length:Int)<=(↑l.length:Int))/\Sml ([]++List.drop (Int.toNat (0:Int)) (List.take Qb.toNat l)++[s]).length/\Sml ([]++List.drop (Int.toNat (0:Int)) (List.take Qb.toNat l)++[s]++List.drop Qb.toNat (List.take (↑l.length:Int).toNat l)).length/\K ([]++List.drop (Int.toNat (0:Int)) (List.take Qb.toNat l)++[s]++List.drop Qb.toNat (List.take (↑l.length:Int).toNat l)))) (((0:Int)<=(0:Int)/\(0:Int)<=Qb/\Qb<=(↑l.length:Int))/\Sml ([]++List.drop (Int.toNat (0:Int)) (List.take Qb.toNat l)).length/\((0:Int)<=Qb/\Qb<=(↑l.length:Int)/\(↑l.length:Int)<=(↑l.length:Int))/\Sml ([]++List.drop (Int.toNat (0:Int)) (List.take Qb.toNat l)++[s]).length/\Sml ([]++List.drop (Int.toNat (0:Int)) (List.take Qb.toNat l)++[s]++List.drop Qb.toNat (List.take (↑l.length:Int).toNat l)).length/\K ([]++List.drop (Int.toNat (0:Int)) (List.take Qb.toNat l)++[s]++List.drop Qb.toNat (List.take (↑l.length:Int).toNat l))))) (0:Int)
abbrev Bp:=List BA->Ex->(List BA->Prop)->Prop
def z5r(q4e:z3h)(X:Bp):Bp:=fun l e K=>Jn1 (fun Qb=>Lp2 (fun Qh Jp q54=>Fits e.5->CAt e.5 Jp (fun y3=>X Qh (Ex.mk y3.1 y3.2 y3.3 y3.4 y3.5) fun Qx=>InI (Jp+1)/\q54 Qx (Jp+1)) (K Qh)) Qb (0:Int)) fun z0f=>Cnd (e.1=5) (q4e l e.3 fun Qh=>z0f Qh) (z0f l)
def q94:Bp:=fun l e K=> ∀X:Bp,(∀l e K,z5r q93 X l e K->X l e K)->X l e K
abbrev q5w:=Ex->(List BA->Prop)->Prop
def z5s(z0m:Bp):q5w:=fun e K=>z0m [] (Ex.mk e.1 e.2 e.3 e.4 e.5) fun Qb=>K Qb
def q95:q5w:=z5s q94
abbrev q8y:=List Seg->(List Edg->Prop)->Prop
def z9k(z0n:q5w):q8y:=fun l K=>Lp2 (fun Qb Zk G8=>Fits l->CAt l Zk (fun y2=>z0n (Ex.mk y2.5.1 y2.5.2 y2.5.3 y2.5.4 y2.5.5) fun Qy=>Lp2 (fun Qx q41 v0n=>Fits Qy->Cnd (q41<(↑Qy.length:Int)) (At l Zk fun y7=>At Qy q41 fun y9=>Sml (Qx++[Edg.mk y7.1 y9]).length/\InI (q41+1)/\v0n (Qx++[Edg.mk y7.1 y9]) (q41+1)) (InI (Zk+1)/\G8 Qx (Zk+1))) Qb (0:Int)) (K Qb)) [] (0:Int)
def z3i:q8y:=z9k q95
abbrev z1u:=List Edg->BA->(List BA->Prop)->Prop
def j3o(q4d:z3g)(q4e:z3h):z1u:=fun edges node K=>Lp2 (fun Qb Zk G8=>Fits Zk->Cnd ((0:Int)<(↑Zk.length:Int)) (((0:Int)<=(0:Int)/\(0:Int)<(↑Zk.length:Int))/\∀y2,Zk[Int.toNat (0:Int)]? =some y2->((0:Int)<=(1:Int)/\(1:Int)<=(↑Zk.length:Int)/\(↑Zk.length:Int)<=(↑Zk.length:Int))/\Lp3 (fun Qy Vz j0g v9i=>Fits edges->CAt edges j0g (fun y6=>Cnd (y6.1=y2) (At edges j0g fun y8=>q4d Qy y8.2 fun Qu=>Cnd (Qu=true) (InI (j0g+1)/\v9i Qy Vz (j0g+1)) (At edges j0g fun y11=>q4e Qy y11.2 fun Qg=>At edges j0g fun y14=>(Sml ([]++Vz).length/\Sml ([]++Vz++[y14.2]).length/\InI (j0g+1)/\v9i Qg ([]++Vz++[y14.2]) (j0g+1))/\Sml ([]++Vz).length/\Sml ([]++Vz++[y14.2]).length/\InI (j0g+1)/\v9i Qg ([]++Vz++[y14.2]) (j0g+1))) (InI (j0g+1)/\v9i Qy Vz (j0g+1))) (G8 Qy Vz)) Qb (List.drop (Int.toNat (1:Int)) (List.take (↑Zk.length:Int).toNat Zk)) (0:Int)) (K Qb)) [] [node]
def z7u:z1u:=j3o q92 q93
abbrev q8z:=List BA->List Edg->(List BA->Prop)->Prop
def z9l(z8c:z1u)(q4d:z3g)(q4e:z3h):q8z:=fun nodes edges K=>Lp2 (fun Qb Zk G8=>Fits nodes->CAt nodes Zk (fun y2=>At nodes Zk fun y4=>z8c edges y2 fun Q1=>q4d Q1 y4 fun Z2=>Cnd (Z2=true) (At nodes Zk fun y8=>q4e Qb y8 fun Qu=>InI (Zk+1)/\G8 Qu (Zk+1)) (InI (Zk+1)/\G8 Qb (Zk+1))) (K Qb)) [] (0:Int)
def z3j:q8z:=z9l z7u q92 q93
abbrev q80:=List BA->List Edg->(BA->Bool->Prop)->Prop
def z9m(z4f:q8z):q80:=fun nodes edges K=>z4f nodes edges fun Qb=>Fits Qb->Cnd ((↑Qb.length:Int)=0) (K (B8 []) false) (((0:Int)<=(0:Int)/\(0:Int)<(↑Qb.length:Int))/\∀y2,Qb[Int.toNat (0:Int)]? =some y2->K y2 true)
def z3k:q80:=z9m z3j
abbrev q2e:=Envt->BA->(Int->Prop)->Prop
def q96:q2e:=fun v key K=>Lp1 (fun Qb Gn=>Fits v.4->CAt v.4 Qb (fun y2=>Cnd (y2.1=key) (K Qb) (InI (Qb+1)/\Gn (Qb+1))) (K (-1:Int))) (0:Int)
abbrev z1v:=List Decl->Srv->(Int->Prop)->Prop
def j3p(q9l:z5q):z1v:=fun l v K=>Cnd (v.1=0) (q9l l v.2 v.3 fun Qb=>Cnd (Qb=0) (K (11:Int)) (Cnd (Qb=5) (K (8:Int)) (K (0:Int)))) (K (0:Int))
def z7v:z1v:=j3p q5v
abbrev Bq:=Envt->Flg->(Int->Prop)->Prop
def q81(Vr:q2d)(Ga:q2e)(Gb:Bo)(z19:z1v)(Q5:Jt):Bq:=fun v f K=>Vr v.3 fun Qb=>Lp2 (fun Qh Jp q54=>Fits f.6->CAt f.6 Qh (fun y3=>Ga (Envt.mk (Sett.mk v.1.1 v.1.2 v.1.3) v.2 v.3 v.4 v.5 v.6) y3.1 fun Qx=>Cnd (Qx<0) (K (11:Int)) (At f.6 Qh fun y6=>At v.4 Qx fun y8=>Fits y8.3->Cnd ((↑y8.3.length:Int)<y6.2) (K (3:Int)) (InI (Qh+1)/\q54 (Qh+1) Jp))) (Lp2 (fun Qo Vv z6z=>Fits f.8->CAt f.8 Qo (fun y5=>Gb v.2 Vv (Ex.mk y5.2.1 y5.2.2 y5.2.3 y5.2.4 y5.2.5) fun Z2=>Cnd (Z2=0) (At f.8 Qo fun y8=>z19 v.2 (Srv.mk y8.3.1 y8.3.2 y8.3.3 y8.3.4 y8.3.5) fun Qu=>Cnd (Qu=0) (InI (Qo+1)/\z6z (Qo+1) Vv) (K Qu)) (K Z2)) (z19 v.2 (Srv.mk f.9.1 f.9.2 f.9.3 f.9.4 f.9.5) fun Qx=>Cnd (Qx=0) (Q5 f.8 fun Q1 _ y7h=>Cnd (y7h=true) (Fits Q1->Cnd ((0:Int)<(↑Q1.length:Int)) (K (13:Int)) (K (0:Int))) (K (19:Int))) (K Qx))) (0:Int) Jp)) (0:Int) Qb
def q3n:Bq:=q81 z1s q96 z1t z7v W9
abbrev q5b:=Envt->(List BA->Prop)->Prop
def z0w:q5b:=fun v K=>Lp2 (fun Qb Zk G8=>Fits v.4->CAt v.4 Zk (fun y2=>Sml (Qb++[y2.1]).length/\InI (Zk+1)/\G8 (Qb++[y2.1]) (Zk+1)) (K Qb)) [] (0:Int)
abbrev q3o:=Envt->(List Edg->Prop)->Prop
def q3p:q3o:=fun v K=>Lp2 (fun Qb Zk G8=>Fits v.4->Cnd (Zk<(↑v.4.length:Int)) (Lp2 (fun Qk Zq q2g=>At v.4 Zk fun y3=>Fits y3.6->Cnd (Zq<(↑y3.6.length:Int)) (At v.4 Zk fun y6=>At v.4 Zk fun y8=>At y8.6 Zq fun y10=>Sml (Qk++[Edg.mk y6.1 y10.1]).length/\InI (Zq+1)/\q2g (Qk++[Edg.mk y6.1 y10.1]) (Zq+1)) (InI (Zk+1)/\G8 Qk (Zk+1))) Qb (0:Int)) (K Qb)) [] (0:Int)
abbrev q5x:=List Spn->List Spn->(List Spn->Prop)->Prop
def z5t(Z0:Rf)(Zf:Vu):q5x:=fun a b K=>Z0 a fun Qb=>Z0 b fun Qh=>Lp2 (fun Qk Zq q2g=>Fits Zq->CAt Zq Qk (fun y4=>Cnd (y4=true) (At Qh Qk fun y6=>At Zq Qk fun _=>InI (Qk+1)/\q2g (Qk+1) (Zq.set Qk.toNat y6)) (At Zq Qk fun _=>InI (Qk+1)/\q2g (Qk+1) (Zq.set Qk.toNat false))) (Zf Zq fun Qy=>K Qy)) (0:Int) Qb
def q97:q5x:=z5t q05 Bj
abbrev Vj:=Envt->Int->(Int->Prop)->Prop
def Br(Jf:U2)(Ga:q2e)(Vr:q2d)(Gb:Bo)(z0o:q5x):Vj:=fun v i K=>At v.6 i fun y0=>Jf (Envt.mk (Sett.mk v.1.1 v.1.2 v.1.3) v.2 v.3 v.4 v.5 v.6) y0.2 fun Qk=>Ga (Envt.mk (Sett.mk v.1.1 v.1.2 v.1.3) v.2 v.3 v.4 v.5 v.6) y0.3 fun Qo=>Cnd (Qk<0) (K (11:Int)) (Cnd (Qo<0) (K (11:Int)) (Lp1 (fun Qy v4y=>Fits y0.7->CAt y0.7 Qy (fun y6=>At v.4 Qo fun y8=>Fits y8.3->Cnd ((↑y8.3.length:Int)<y6.3) (K (3:Int)) (InI (Qy+1)/\v4y (Qy+1))) (Vr v.3 fun Q1=>Gb v.2 Q1 (Ex.mk y0.8.1 y0.8.2 y0.8.3 y0.8.4 y0.8.5) fun Z2=>Cnd (Z2=0) (Cnd (y0.5=3) (K (0:Int)) (At v.5 Qk fun y8=>Lp3 (fun Qu Vy q0o j9z=>Cnd (Vy<i) (At v.6 Vy fun y11=>Cnd (y11.2=y0.2) (Cnd (y11.5=3) (InI (Vy+1)/\j9z Qu (Vy+1) q0o) (Sml (Qu++y11.6).length/\InI (Vy+1)/\j9z (Qu++y11.6) (Vy+1) q0o)) (InI (Vy+1)/\j9z Qu (Vy+1) q0o)) (z0o y0.6 Qu fun Zl=>Fits Zl->Cnd ((0:Int)<(↑Zl.length:Int)) (K (14:Int)) (Lp4 (fun Qg z05 v0q v0r y66=>Cnd (Qg<i) (Cnd (y0.5=2) (At v.6 Qg fun y14=>Cnd (y14.5=2) (Cnd (y14.3=y0.3) (Cnd (y14.2=y0.2) (InI (Qg+1)/\y66 (Qg+1) z05 v0q v0r) (K (14:Int))) (InI (Qg+1)/\y66 (Qg+1) z05 v0q v0r)) (InI (Qg+1)/\y66 (Qg+1) z05 v0q v0r)) (K (0:Int))) (K (0:Int))) (0:Int) Zl Qu q0o))) [Spn.mk (0:Int) y8.4] (0:Int) Q1)) (K Z2))) (0:Int)))
def U4:Vj:=Br q3d q96 z1s z1t q97
abbrev G0:=Envt->(BA->Int->Prop)->Prop
def q4p(q1o:Rh)(Vr:q2d)(Gb:Bo)(z4g:q8y)(q9m:q80)(q4f:Bq)(q5g:q5b)(q4g:q3o)(Gc:Vj):G0:=fun v K=>q1o (Envt.mk (Sett.mk v.1.1 v.1.2 v.1.3) v.2 v.3 v.4 v.5 v.6) fun Qb=>Cnd (Qb=0) (Vr v.3 fun Qh=>Lp2 (fun Qk Zq q2g=>Fits v.3->CAt v.3 Qk (fun y4=>Cnd (y4.5.1=0) (InI (Qk+1)/\q2g (Qk+1) Zq) (At v.3 Qk fun y6=>Gb v.2 Zq (Ex.mk y6.5.1 y6.5.2 y6.5.3 y6.5.4 y6.5.5) fun Zu=>Cnd (Zu=0) (InI (Qk+1)/\q2g (Qk+1) Zq) (At v.3 Qk fun y9=>(↑((B8 [115,101,103,109,101,110,116,32]).size+y9.1.size):Int)<=(9223372036854775807:Int)/\K (B8 [115,101,103,109,101,110,116,32]++y9.1) Zu))) (z4g v.3 fun Qy=>q9m Zq Qy fun Qx q41=>Cnd (q41=true) ((↑((B8 [115,101,103,109,101,110,116,32]).size+Qx.size):Int)<=(9223372036854775807:Int)/\K (B8 [115,101,103,109,101,110,116,32]++Qx) (12:Int)) (Lp3 (fun Q1 z60 y7h u08=>Fits v.4->CAt v.4 Q1 (fun y8=>q4f (Envt.mk (Sett.mk v.1.1 v.1.2 v.1.3) v.2 v.3 v.4 v.5 v.6) (Flg.mk y8.1 y8.2 y8.3 y8.4 y8.5 y8.6 y8.7 y8.8 (Srv.mk y8.9.1 y8.9.2 y8.9.3 y8.9.4 y8.9.5)) fun Qu=>Cnd (Qu=0) (InI (Q1+1)/\u08 (Q1+1) z60 y7h) (At v.4 Q1 fun y11=>(↑((B8 [102,108,97,103,32]).size+y11.1.size):Int)<=(9223372036854775807:Int)/\K (B8 [102,108,97,103,32]++y11.1) Qu)) (q5g (Envt.mk (Sett.mk v.1.1 v.1.2 v.1.3) v.2 v.3 v.4 v.5 v.6) fun Zu=>q4g (Envt.mk (Sett.mk v.1.1 v.1.2 v.1.3) v.2 v.3 v.4 v.5 v.6) fun Zg=>q9m Zu Zg fun Qu Vy=>Cnd (Vy=true) ((↑((B8 [102,108,97,103,32]).size+Qu.size):Int)<=(9223372036854775807:Int)/\K (B8 [102,108,97,103,32]++Qu) (12:Int)) (Lp5 (fun Zl z04 u1c y64 u1d u1e=>Fits v.6->Cnd (Zl<(↑v.6.length:Int)) (Gc (Envt.mk (Sett.mk v.1.1 v.1.2 v.1.3) v.2 v.3 v.4 v.5 v.6) Zl fun Qg=>Cnd (Qg=0) (InI (Zl+1)/\u1e (Zl+1) z04 u1c y64 u1d) (At v.6 Zl fun y14=>(↑((B8 [101,120,112,101,114,105,109,101,110,116,32]).size+y14.1.size):Int)<=(9223372036854775807:Int)/\K (B8 [101,120,112,101,114,105,109,101,110,116,32]++y14.1) Qg)) (K (B8 []) (0:Int))) (0:Int) Zu Zg y7h z60))) (0:Int) Zq Qy))) (0:Int) Qh) (K (B8 []) Qb)
def q0h:G0:=q4p q1i z1s z1t z3i z3k q3n z0w q3p U4
abbrev q82:=Envt->(Bool->Prop)->Prop
def z9n(q0u:G0):q82:=fun v K=>q0u (Envt.mk (Sett.mk v.1.1 v.1.2 v.1.3) v.2 v.3 v.4 v.5 v.6) fun _ Zk=>K (decide (Zk=0))
def q4q:q82:=z9n q0h
abbrev Bt:=List Int->Int->Int->(Envt->Int->Prop)->Prop
def q83(Z4:Hc)(z0p:q5r)(Qd:Ji)(q37:z7f)(Jw:q26)(U8:q64)(Gd:q8i)(Jo:Gu)(Gq:q27)(Q5:Jt)(j2w:z5k)(J8:q0d)(q38:q8g)(z8d:z1i)(J9:q25)(Rb:q1s)(Rd:q1t)(q12:q82):Bt:=fun list at_ now K=>Z4 fun Qb=>Jn1 (fun (Qh:BA×BA×Int×Int×List Decl×Unit)=>z0p list Qh.2.2.2.1 Qh.1 Qh.2.1 Qh.2.2.1 Qh.2.2.2.2.1 [] [] [] [] fun Qk Zq j2o q55 v9l u16 u17 u18 u19=>Qd list Qk (5:Int) fun Qo Vv=>q37 Qo [B8 [102,97],B8 [102,98],B8 [102,99],B8 [102,100]] fun Qy=>LpH (fun (Qx:Int×Int×List Flg×List Seg×List Lay_×List Exper×Unit) v9b=>Fits Qy->CAt Qy Qx.1 (fun y7=>Qd list Qx.2.1 (5:Int) fun Zg z4q=>InI ((1:Int)+Zg)/\Qd list z4q (6:Int) fun Qu Vy=>Qd list Vy (4:Int) fun Zl z04=>InI ((1:Int)+Zl)/\LpH (fun (Q3:Int×Int×List Val×List Exper×List Lay_×List Flg×List Seg×Unit) (u1f:Int×Int×List Val×List Exper×List Lay_×List Flg×List Seg×Unit->Prop)=>Cnd (Q3.1<1+Zl) (Jw list Q3.2.1 ((1:Int)+Zg) fun Qg z05=>Sml (Q3.2.2.1++[Qg]).length/\InI (Q3.1+1)/\u1f (Q3.1+1,z05,Q3.2.2.1++[Qg],Q3.2.2.2.1,Q3.2.2.2.2.1,Q3.2.2.2.2.2.1,Q3.2.2.2.2.2.2.1,())) (Qd list Q3.2.1 ((1:Int)+Zl) fun Qg z05=>InI ((1:Int)+Qg)/\LpH (fun (Zt:Int×List Prq×Int×List Seg×List Flg×List Lay_×List Exper×List Val×Unit) (y2j:Int×List Prq×Int×List Seg×List Flg×List Lay_×List Exper×List Val×Unit->Prop)=>Fits Zt.2.2.2.2.1->Cnd (Zt.1<(↑Zt.2.2.2.2.1.length:Int)) (Qd list Zt.2.2.1 (4:Int) fun Z3 v4w=>Cnd (Z3=1) (At Zt.2.2.2.2.1 Zt.1 fun y17=>At Zt.2.2.2.2.1 Zt.1 fun y19=>Fits y19.3->Qd list v4w (↑y19.3.length:Int) fun z06 v9e=>InI ((1:Int)+z06)/\Sml (Zt.2.1++[Prq.mk y17.1 ((1:Int)+z06)]).length/\InI (Zt.1+1)/\y2j (Zt.1+1,Zt.2.1++[Prq.mk y17.1 ((1:Int)+z06)],v9e,Zt.2.2.2.1,Zt.2.2.2.2.1,Zt.2.2.2.2.2.1,Zt.2.2.2.2.2.2.1,Zt.2.2.2.2.2.2.2.1,())) (InI (Zt.1+1)/\y2j (Zt.1+1,Zt.2.1,v4w,Zt.2.2.2.1,Zt.2.2.2.2.1,Zt.2.2.2.2.2.1,Zt.2.2.2.2.2.2.1,Zt.2.2.2.2.2.2.2.1,()))) (LpH (fun (Z3:Int×List Tgt×Int×List Val×List Exper×List Lay_×List Flg×List Seg×List Prq×Unit) (y2l:Int×List Tgt×Int×List Val×List Exper×List Lay_×List Flg×List Seg×List Prq×Unit->Prop)=>Qd list Z3.2.2.1 (3:Int) fun q44 v9f=>Cnd (Z3.1<q44) (Qd list v9f ((1:Int)+Zl) fun Qm w77=>InI ((1:Int)+Qm)/\U8 list w77 fun Ze j91=>Jn1 (fun (B1:BA×Int×List BA×List Prq×List Seg×List Flg×List Lay_×List Exper×List Val×List Tgt×Unit)=>Fits B1.2.2.1->Cnd ((0:Int)<(↑B1.2.2.1.length:Int)) (Sml (B1.2.2.2.2.2.2.2.2.2.1++[Tgt.mk B1.1 ((1:Int)+Qm) B1.2.2.1]).length/\InI (Z3.1+1)/\y2l (Z3.1+1,B1.2.2.2.2.2.2.2.2.2.1++[Tgt.mk B1.1 ((1:Int)+Qm) B1.2.2.1],B1.2.1,B1.2.2.2.2.2.2.2.2.1,B1.2.2.2.2.2.2.2.1,B1.2.2.2.2.2.2.1,B1.2.2.2.2.2.1,B1.2.2.2.2.1,B1.2.2.2.1,())) (InI (Z3.1+1)/\y2l (Z3.1+1,B1.2.2.2.2.2.2.2.2.2.1,B1.2.1,B1.2.2.2.2.2.2.2.2.1,B1.2.2.2.2.2.2.2.1,B1.2.2.2.2.2.2.1,B1.2.2.2.2.2.1,B1.2.2.2.2.1,B1.2.2.2.1,()))) fun (y9j:BA×Int×List BA×List Prq×List Seg×List Flg×List Lay_×List Exper×List Val×List Tgt×Unit->Prop)=>Qd list j91 (4:Int) fun Zv y2m=>Cnd (Zv=1) (y9j (B8 [100,101,118,105,99,101],y2m,Ze,Z3.2.2.2.2.2.2.2.2.1,Z3.2.2.2.2.2.2.2.1,Z3.2.2.2.2.2.2.1,Z3.2.2.2.2.2.1,Z3.2.2.2.2.1,Z3.2.2.2.1,Z3.2.1,())) (y9j (B8 [117,115,101,114],y2m,Ze,Z3.2.2.2.2.2.2.2.2.1,Z3.2.2.2.2.2.2.2.1,Z3.2.2.2.2.2.2.1,Z3.2.2.2.2.2.1,Z3.2.2.2.2.1,Z3.2.2.2.1,Z3.2.1,()))) (Jn1 (fun (Qm:Int×List Rul×List BA×List Prq×List Seg×List Flg×List Lay_×List Exper×List Val×List Tgt×Unit)=>Gd list Qm.1 ((1:Int)+Zl) fun Ze j91=>Sml (Qm.2.2.2.2.2.1++[Flg.mk y7 ((1:Int)+Zg) Qm.2.2.2.2.2.2.2.2.1 (decide (Qu<5)) ((1:Int)+Qg) Qm.2.2.2.1 Qm.2.2.2.2.2.2.2.2.2.1 Qm.2.1 Ze]).length/\InI (Qx.1+1)/\v9b (Qx.1+1,j91,Qm.2.2.2.2.2.1++[Flg.mk y7 ((1:Int)+Zg) Qm.2.2.2.2.2.2.2.2.1 (decide (Qu<5)) ((1:Int)+Qg) Qm.2.2.2.1 Qm.2.2.2.2.2.2.2.2.2.1 Qm.2.1 Ze],Qm.2.2.2.2.1,Qm.2.2.2.2.2.2.1,Qm.2.2.2.2.2.2.2.1,())) fun (y67:Int×List Rul×List BA×List Prq×List Seg×List Flg×List Lay_×List Exper×List Val×List Tgt×Unit->Prop)=>LpH (fun (Ze:Int×Int×List Rul×List BA×List Prq×List Seg×List Flg×List Lay_×List Exper×List Val×List Tgt×Unit) (u1g:Int×Int×List Rul×List BA×List Prq×List Seg×List Flg×List Lay_×List Exper×List Val×List Tgt×Unit->Prop)=>Qd list Ze.2.1 (5:Int) fun B1 y2n=>Cnd (Ze.1<B1) (At Ze.2.2.2.1 Ze.1 fun y21=>Jo (Envt.mk (Sett.mk Zq j2o q55) v9l Ze.2.2.2.2.2.1 Ze.2.2.2.2.2.2.1 Ze.2.2.2.2.2.2.2.1 Ze.2.2.2.2.2.2.2.2.1) fun y2o=>Gq list y2n y2o (3:Int) fun Zx u1h=>Gd list u1h ((1:Int)+Zl) fun z4h v9g=>Sml (Ze.2.2.1++[Rul.mk y21 (Ex.mk Zx.1 Zx.2 Zx.3 Zx.4 Zx.5) z4h]).length/\Q5 (Ze.2.2.1++[Rul.mk y21 (Ex.mk Zx.1 Zx.2 Zx.3 Zx.4 Zx.5) z4h]) fun y9k _ u1i=>Cnd (u1i=true) (Fits y9k->Cnd ((0:Int)<(↑y9k.length:Int)) ((Ze.2.2.1++[Rul.mk y21 (Ex.mk Zx.1 Zx.2 Zx.3 Zx.4 Zx.5) z4h]).length<=(9223372036854775807:Nat)->InI ((↑(Ze.2.2.1++[Rul.mk y21 (Ex.mk Zx.1 Zx.2 Zx.3 Zx.4 Zx.5) z4h]).length:Int) - 1)/\((0:Int)<=(↑(Ze.2.2.1++[Rul.mk y21 (Ex.mk Zx.1 Zx.2 Zx.3 Zx.4 Zx.5) z4h]).length:Int) - 1/\(↑(Ze.2.2.1++[Rul.mk y21 (Ex.mk Zx.1 Zx.2 Zx.3 Zx.4 Zx.5) z4h]).length:Int) - 1<=(↑(Ze.2.2.1++[Rul.mk y21 (Ex.mk Zx.1 Zx.2 Zx.3 Zx.4 Zx.5) z4h]).length:Int))/\y67 (v9g,List.take ((↑(Ze.2.2.1++[Rul.mk y21 (Ex.mk Zx.1 Zx.2 Zx.3 Zx.4 Zx.5) z4h]).length:Int) - 1).toNat (Ze.2.2.1++[Rul.mk y21 (Ex.mk Zx.1 Zx.2 Zx.3 Zx.4 Zx.5) z4h]),Ze.2.2.2.1,Ze.2.2.2.2.1,Ze.2.2.2.2.2.1,Ze.2.2.2.2.2.2.1,Ze.2.2.2.2.2.2.2.1,Ze.2.2.2.2.2.2.2.2.1,Ze.2.2.2.2.2.2.2.2.2.1,Ze.2.2.2.2.2.2.2.2.2.2.1,())) (InI (Ze.1+1)/\u1g (Ze.1+1,v9g,Ze.2.2.1++[Rul.mk y21 (Ex.mk Zx.1 Zx.2 Zx.3 Zx.4 Zx.5) z4h],Ze.2.2.2.1,Ze.2.2.2.2.1,Ze.2.2.2.2.2.1,Ze.2.2.2.2.2.2.1,Ze.2.2.2.2.2.2.2.1,Ze.2.2.2.2.2.2.2.2.1,Ze.2.2.2.2.2.2.2.2.2.1,Ze.2.2.2.2.2.2.2.2.2.2.1,()))) ((Ze.2.2.1++[Rul.mk y21 (Ex.mk Zx.1 Zx.2 Zx.3 Zx.4 Zx.5) z4h]).length<=(9223372036854775807:Nat)->InI ((↑(Ze.2.2.1++[Rul.mk y21 (Ex.mk Zx.1 Zx.2 Zx.3 Zx.4 Zx.5) z4h]).length:Int) - 1)/\((0:Int)<=(↑(Ze.2.2.1++[Rul.mk y21 (Ex.mk Zx.1 Zx.2 Zx.3 Zx.4 Zx.5) z4h]).length:Int) - 1/\(↑(Ze.2.2.1++[Rul.mk y21 (Ex.mk Zx.1 Zx.2 Zx.3 Zx.4 Zx.5) z4h]).length:Int) - 1<=(↑(Ze.2.2.1++[Rul.mk y21 (Ex.mk Zx.1 Zx.2 Zx.3 Zx.4 Zx.5) z4h]).length:Int))/\y67 (v9g,List.take ((↑(Ze.2.2.1++[Rul.mk y21 (Ex.mk Zx.1 Zx.2 Zx.3 Zx.4 Zx.5) z4h]).length:Int) - 1).toNat (Ze.2.2.1++[Rul.mk y21 (Ex.mk Zx.1 Zx.2 Zx.3 Zx.4 Zx.5) z4h]),Ze.2.2.2.1,Ze.2.2.2.2.1,Ze.2.2.2.2.2.1,Ze.2.2.2.2.2.2.1,Ze.2.2.2.2.2.2.2.1,Ze.2.2.2.2.2.2.2.2.1,Ze.2.2.2.2.2.2.2.2.2.1,Ze.2.2.2.2.2.2.2.2.2.2.1,()))) (y67 (y2n,Ze.2.2.1,Ze.2.2.2.1,Ze.2.2.2.2.1,Ze.2.2.2.2.2.1,Ze.2.2.2.2.2.2.1,Ze.2.2.2.2.2.2.2.1,Ze.2.2.2.2.2.2.2.2.1,Ze.2.2.2.2.2.2.2.2.2.1,Ze.2.2.2.2.2.2.2.2.2.2.1,()))) ((0:Int),v9f,[],[B8 [102,105,114,115,116],B8 [115,101,99,111,110,100],B8 [116,104,105,114,100],B8 [102,111,117,114,116,104]],Z3.2.2.2.2.2.2.2.2.1,Z3.2.2.2.2.2.2.2.1,Z3.2.2.2.2.2.2.1,Z3.2.2.2.2.2.1,Z3.2.2.2.2.1,Z3.2.2.2.1,Z3.2.1,()))) ((0:Int),[],Zt.2.2.1,Zt.2.2.2.2.2.2.2.1,Zt.2.2.2.2.2.2.1,Zt.2.2.2.2.2.1,Zt.2.2.2.2.1,Zt.2.2.2.1,Zt.2.1,()))) ((0:Int),[],z05,Q3.2.2.2.2.2.2.1,Q3.2.2.2.2.2.1,Q3.2.2.2.2.1,Q3.2.2.2.1,Q3.2.2.1,()))) ((0:Int),z04,[],Qx.2.2.2.2.2.1,Qx.2.2.2.2.1,Qx.2.2.1,Qx.2.2.2.1,())) (Qd list Qx.2.1 (3:Int) fun Z2 q9n=>q37 Z2 [B8 [108,97],B8 [108,98]] fun Zu=>LpH (fun (Zg:Int×Int×List Lay_×List Exper×List Seg×List Flg×Unit) (j9y:Int×Int×List Lay_×List Exper×List Seg×List Flg×Unit->Prop)=>Fits Zu->CAt Zu Zg.1 (fun y11=>j2w list Zg.2.1 y11 fun Qg z05=>Sml (Zg.2.2.1++[Qg]).length/\InI (Zg.1+1)/\j9y (Zg.1+1,z05,Zg.2.2.1++[Qg],Zg.2.2.2.1,Zg.2.2.2.2.1,Zg.2.2.2.2.2.1,())) (Qd list Zg.2.1 (4:Int) fun Zl z04=>q37 Zl [B8 [120,97],B8 [120,98],B8 [120,99]] fun Q3=>LpH (fun (Qg:Int×Int×List Exper×List Flg×List Seg×List Lay_×Unit) (v4x:Int×Int×List Exper×List Flg×List Seg×List Lay_×Unit->Prop)=>Fits Q3->Cnd (Qg.1<(↑Q3.length:Int)) (Fits Qg.2.2.2.1->Cnd ((0:Int)<(↑Qg.2.2.2.1.length:Int)) (Fits Qg.2.2.2.2.2.1->Cnd ((0:Int)<(↑Qg.2.2.2.2.2.1.length:Int)) (At Q3 Qg.1 fun y17=>Fits Qg.2.2.2.1->Qd list Qg.2.1 (↑Qg.2.2.2.1.length:Int) fun B1 y2n=>At Qg.2.2.2.1 B1 fun y21=>Fits Qg.2.2.2.2.2.1->Fits y21.3->Qd list y2n (↑Qg.2.2.2.2.2.1.length:Int) fun z4h v9g=>At Qg.2.2.2.2.2.1 z4h fun y26=>J8 list v9g fun w0y u1j=>Qd list u1j (3:Int) fun y2p u1k=>InI ((1:Int)+y2p)/\q38 list u1k (↑y21.3.length:Int) fun y68 y9l=>Jn1 (fun (q6n:Int×Int×List Rng×List Exper×List Lay_×List Flg×List Seg×Unit)=>Jn1 (fun (Zw:Int×BA×BA×List Val×List Ex×Int×List Seg×List Flg×List Lay_×List Exper×List Rng×Unit)=>z8d (Envt.mk (Sett.mk Zq j2o q55) v9l Zw.2.2.2.2.2.2.1 Zw.2.2.2.2.2.2.2.1 Zw.2.2.2.2.2.2.2.2.1 Zw.2.2.2.2.2.2.2.2.2.1) y26.1 now fun (y69:List Spn) (_:Int)=>J9 list Zw.2.2.2.2.2.1 (8000:Int) fun (y7a u1l:Int)=>J9 list u1l (8000:Int) fun (v0s y7b:Int)=>Rb y69 [Spn.mk y7a v0s] fun (u1m:List Spn)=>J9 list y7b (7000:Int) fun (u1n y9m:Int)=>Rd u1m u1n fun (w0z:List Spn)=>Sml (Zw.2.2.2.2.2.2.2.2.2.1++[Exper.mk y17 y26.1 y21.1 w0y q6n.1 w0z Zw.2.2.2.2.2.2.2.2.2.2.1 (Ex.mk Zw.1 Zw.2.1 Zw.2.2.1 Zw.2.2.2.1 Zw.2.2.2.2.1)]).length/\q12 (Envt.mk (Sett.mk Zq j2o q55) v9l Zw.2.2.2.2.2.2.1 Zw.2.2.2.2.2.2.2.1 Zw.2.2.2.2.2.2.2.2.1 (Zw.2.2.2.2.2.2.2.2.2.1++[Exper.mk y17 y26.1 y21.1 w0y q6n.1 w0z Zw.2.2.2.2.2.2.2.2.2.2.1 (Ex.mk Zw.1 Zw.2.1 Zw.2.2.1 Zw.2.2.2.1 Zw.2.2.2.2.1)])) fun (u1o:Bool)=>Cnd (u1o=true) (InI (Qg.1+1)/\v4x (Qg.1+1,y9m,Zw.2.2.2.2.2.2.2.2.2.1++[Exper.mk y17 y26.1 y21.1 w0y q6n.1 w0z Zw.2.2.2.2.2.2.2.2.2.2.1 (Ex.mk Zw.1 Zw.2.1 Zw.2.2.1 Zw.2.2.2.1 Zw.2.2.2.2.1)],Zw.2.2.2.2.2.2.2.1,Zw.2.2.2.2.2.2.1,Zw.2.2.2.2.2.2.2.2.1,())) ((Zw.2.2.2.2.2.2.2.2.2.1++[Exper.mk y17 y26.1 y21.1 w0y q6n.1 w0z Zw.2.2.2.2.2.2.2.2.2.2.1 (Ex.mk Zw.1 Zw.2.1 Zw.2.2.1 Zw.2.2.2.1 Zw.2.2.2.2.1)]).length<=(9223372036854775807:Nat)->InI ((↑(Zw.2.2.2.2.2.2.2.2.2.1++[Exper.mk y17 y26.1 y21.1 w0y q6n.1 w0z Zw.2.2.2.2.2.2.2.2.2.2.1 (Ex.mk Zw.1 Zw.2.1 Zw.2.2.1 Zw.2.2.2.1 Zw.2.2.2.2.1)]).length:Int) - 1)/\((0:Int)<=(↑(Zw.2.2.2.2.2.2.2.2.2.1++[Exper.mk y17 y26.1 y21.1 w0y q6n.1 w0z Zw.2.2.2.2.2.2.2.2.2.2.1 (Ex.mk Zw.1 Zw.2.1 Zw.2.2.1 Zw.2.2.2.1 Zw.2.2.2.2.1)]).length:Int) - 1/\(↑(Zw.2.2.2.2.2.2.2.2.2.1++[Exper.mk y17 y26.1 y21.1 w0y q6n.1 w0z Zw.2.2.2.2.2.2.2.2.2.2.1 (Ex.mk Zw.1 Zw.2.1 Zw.2.2.1 Zw.2.2.2.1 Zw.2.2.2.2.1)]).length:Int) - 1<=(↑(Zw.2.2.2.2.2.2.2.2.2.1++[Exper.mk y17 y26.1 y21.1 w0y q6n.1 w0z Zw.2.2.2.2.2.2.2.2.2.2.1 (Ex.mk Zw.1 Zw.2.1 Zw.2.2.1 Zw.2.2.2.1 Zw.2.2.2.2.1)]).length:Int))/\InI (Qg.1+1)/\v4x (Qg.1+1,y9m,List.take ((↑(Zw.2.2.2.2.2.2.2.2.2.1++[Exper.mk y17 y26.1 y21.1 w0y q6n.1 w0z Zw.2.2.2.2.2.2.2.2.2.2.1 (Ex.mk Zw.1 Zw.2.1 Zw.2.2.1 Zw.2.2.2.1 Zw.2.2.2.2.1)]).length:Int) - 1).toNat (Zw.2.2.2.2.2.2.2.2.2.1++[Exper.mk y17 y26.1 y21.1 w0y q6n.1 w0z Zw.2.2.2.2.2.2.2.2.2.2.1 (Ex.mk Zw.1 Zw.2.1 Zw.2.2.1 Zw.2.2.2.1 Zw.2.2.2.2.1)]),Zw.2.2.2.2.2.2.2.1,Zw.2.2.2.2.2.2.1,Zw.2.2.2.2.2.2.2.2.1,()))) fun (y9n:Int×BA×BA×List Val×List Ex×Int×List Seg×List Flg×List Lay_×List Exper×List Rng×Unit->Prop)=>Qd list q6n.2.1 (2:Int) fun (y69 y9o:Int)=>Cnd (y69=1) (Jo (Envt.mk (Sett.mk Zq j2o q55) v9l q6n.2.2.2.2.2.2.1 q6n.2.2.2.2.2.1 q6n.2.2.2.2.1 q6n.2.2.2.1) fun (y7a:List BA)=>Gq list y9o y7a (2:Int) fun (v0s:Ex) (y7b:Int)=>y9n (v0s.1,v0s.2,v0s.3,v0s.4,v0s.5,y7b,q6n.2.2.2.2.2.2.1,q6n.2.2.2.2.2.1,q6n.2.2.2.2.1,q6n.2.2.2.1,q6n.2.2.1,())) (y9n ((1:Int),B8 [],B8 [],[],[],y9o,q6n.2.2.2.2.2.2.1,q6n.2.2.2.2.2.1,q6n.2.2.2.2.1,q6n.2.2.2.1,q6n.2.2.1,()))) fun (y7c:Int×Int×List Rng×List Exper×List Lay_×List Flg×List Seg×Unit->Prop)=>Cnd ((1:Int)+y2p=1) (Qd list y9l (2:Int) fun Zw y9p=>Cnd (Zw=0) (y7c ((2:Int),y9p,y68,Qg.2.2.1,Qg.2.2.2.2.2.1,Qg.2.2.2.1,Qg.2.2.2.2.1,())) (y7c ((1:Int)+y2p,y9p,y68,Qg.2.2.1,Qg.2.2.2.2.2.1,Qg.2.2.2.1,Qg.2.2.2.2.1,()))) (y7c ((1:Int)+y2p,y9l,y68,Qg.2.2.1,Qg.2.2.2.2.2.1,Qg.2.2.2.1,Qg.2.2.2.2.1,()))) (q12 (Envt.mk (Sett.mk Zq j2o q55) v9l Qg.2.2.2.2.1 Qg.2.2.2.1 Qg.2.2.2.2.2.1 Qg.2.2.1) fun q44=>Cnd (q44=true) (K (Envt.mk (Sett.mk Zq j2o q55) v9l Qg.2.2.2.2.1 Qg.2.2.2.1 Qg.2.2.2.2.2.1 Qg.2.2.1) Qg.2.1) (Z4 fun Qm=>K (Envt.mk (Sett.mk (B8 []) (B8 []) (0:Int)) Qm [] [] [] []) Qg.2.1))) (q12 (Envt.mk (Sett.mk Zq j2o q55) v9l Qg.2.2.2.2.1 Qg.2.2.2.1 Qg.2.2.2.2.2.1 Qg.2.2.1) fun Z3=>Cnd (Z3=true) (K (Envt.mk (Sett.mk Zq j2o q55) v9l Qg.2.2.2.2.1 Qg.2.2.2.1 Qg.2.2.2.2.2.1 Qg.2.2.1) Qg.2.1) (Z4 fun q44=>K (Envt.mk (Sett.mk (B8 []) (B8 []) (0:Int)) q44 [] [] [] []) Qg.2.1))) (q12 (Envt.mk (Sett.mk Zq j2o q55) v9l Qg.2.2.2.2.1 Qg.2.2.2.1 Qg.2.2.2.2.2.1 Qg.2.2.1) fun q0y=>Cnd (q0y=true) (K (Envt.mk (Sett.mk Zq j2o q55) v9l Qg.2.2.2.2.1 Qg.2.2.2.1 Qg.2.2.2.2.2.1 Qg.2.2.1) Qg.2.1) (Z4 fun Z3=>K (Envt.mk (Sett.mk (B8 []) (B8 []) (0:Int)) Z3 [] [] [] []) Qg.2.1))) ((0:Int),z04,Zg.2.2.2.1,Zg.2.2.2.2.2.1,Zg.2.2.2.2.1,Zg.2.2.1,()))) ((0:Int),q9n,Qx.2.2.2.2.1,Qx.2.2.2.2.2.1,Qx.2.2.2.1,Qx.2.2.1,()))) ((0:Int),Vv,u17,u16,u18,u19,())) fun j9w=>Qd list at_ (2:Int) fun Qk Zq=>Cnd (Qk=1) (J8 list Zq fun Qo Vv=>J9 list Vv (2500:Int) fun Qy Vz=>j9w (Qo,B8 [117,115,101,114],Qy,Vz,Qb,())) (j9w (B8 [],B8 [],(0:Int),Zq,Qb,()))
def Bu:Bt:=q83 Be q9z Jb j6p Bf z23 q28 Gv q9y W9 j06 q9x q8h z7l z22 q8q q8r q4q
abbrev z1w:=List Int->Int->Envt->Int->(Envt->Int->Prop)->Prop
def j3q(Qd:Ji)(J8:q0d)(J9:q25)(U8:q64)(Gd:q8i)(Jw:q26)(Jo:Gu)(Gq:q27)(Q5:Jt)(Rd:q1t):z1w:=fun list at_ v _ K=>Sml ([]++v.2).length/\Sml ([]++v.3).length/\Sml ([]++v.4).length/\Sml ([]++v.5).length/\Sml ([]++v.6).length/\LpH (fun (Qb:Int×BA×BA×Int×List Decl×List Flg×List Exper×Int×List Lay_×List Seg×Unit) (Gn:Int×BA×BA×Int×List Decl×List Flg×List Exper×Int×List Lay_×List Seg×Unit->Prop)=>Qd list Qb.2.2.2.2.2.2.2.1 (3:Int) fun Qh Jp=>Cnd (Qb.1<=Qh) (Qd list Jp (10:Int) fun Qk Zq=>Cnd (Qk=0) (J8 list Zq fun Qo Vv=>J9 list Vv (2500:Int) fun Qy Vz=>InI (Qb.1+1)/\Gn (Qb.1+1,Qo,B8 [117,115,101,114],Qy,Qb.2.2.2.2.1,Qb.2.2.2.2.2.1,Qb.2.2.2.2.2.2.1,Vz,Qb.2.2.2.2.2.2.2.2.1,Qb.2.2.2.2.2.2.2.2.2.1,())) (Cnd (Qk=1) (Qd list Zq (4:Int) fun Qo Vv=>Fits Qb.2.2.2.2.2.2.2.2.2.1->Cnd (Qo<(↑Qb.2.2.2.2.2.2.2.2.2.1.length:Int)) (U8 list Vv fun Qx q41=>At Qb.2.2.2.2.2.2.2.2.2.1 Qo fun y6=>InI (Qb.1+1)/\Gn (Qb.1+1,Qb.2.1,Qb.2.2.1,Qb.2.2.2.1,Qb.2.2.2.2.1,Qb.2.2.2.2.2.1,Qb.2.2.2.2.2.2.1,q41,Qb.2.2.2.2.2.2.2.2.1,Qb.2.2.2.2.2.2.2.2.2.1.set Qo.toNat (Seg.mk y6.1 y6.2 Qx y6.4 (Ex.mk y6.5.1 y6.5.2 y6.5.3 y6.5.4 y6.5.5)),())) (InI (Qb.1+1)/\Gn (Qb.1+1,Qb.2.1,Qb.2.2.1,Qb.2.2.2.1,Qb.2.2.2.2.1,Qb.2.2.2.2.2.1,Qb.2.2.2.2.2.2.1,Vv,Qb.2.2.2.2.2.2.2.2.1,Qb.2.2.2.2.2.2.2.2.2.1,()))) (Cnd (Qk=2) (Qd list Zq (4:Int) fun Qo Vv=>Fits Qb.2.2.2.2.2.1->CAt Qb.2.2.2.2.2.1 Qo (fun y5=>At Qb.2.2.2.2.2.1 Qo fun y7=>InI (Qb.1+1)/\Gn (Qb.1+1,Qb.2.1,Qb.2.2.1,Qb.2.2.2.1,Qb.2.2.2.2.1,Qb.2.2.2.2.2.1.set Qo.toNat (Flg.mk y7.1 y7.2 y7.3 (match decide ((flC C.flag y5).2.2.2.1=true) with|true=>false|false=>true) y7.5 y7.6 y7.7 y7.8 (Srv.mk y7.9.1 y7.9.2 y7.9.3 y7.9.4 y7.9.5)),Qb.2.2.2.2.2.2.1,Vv,Qb.2.2.2.2.2.2.2.2.1,Qb.2.2.2.2.2.2.2.2.2.1,())) (InI (Qb.1+1)/\Gn (Qb.1+1,Qb.2.1,Qb.2.2.1,Qb.2.2.2.1,Qb.2.2.2.2.1,Qb.2.2.2.2.2.1,Qb.2.2.2.2.2.2.1,Vv,Qb.2.2.2.2.2.2.2.2.1,Qb.2.2.2.2.2.2.2.2.2.1,()))) (Cnd (Qk=3) (Qd list Zq (4:Int) fun Qo Vv=>Fits Qb.2.2.2.2.2.1->CAt Qb.2.2.2.2.2.1 Qo (fun y5=>Fits y5.3->Gd list Vv (↑y5.3.length:Int) fun Zu z4s=>At Qb.2.2.2.2.2.1 Qo fun y9=>InI (Qb.1+1)/\Gn (Qb.1+1,Qb.2.1,Qb.2.2.1,Qb.2.2.2.1,Qb.2.2.2.2.1,Qb.2.2.2.2.2.1.set Qo.toNat (Flg.mk y9.1 y9.2 y9.3 y9.4 y9.5 y9.6 y9.7 y9.8 Zu),Qb.2.2.2.2.2.2.1,z4s,Qb.2.2.2.2.2.2.2.2.1,Qb.2.2.2.2.2.2.2.2.2.1,())) (InI (Qb.1+1)/\Gn (Qb.1+1,Qb.2.1,Qb.2.2.1,Qb.2.2.2.1,Qb.2.2.2.2.1,Qb.2.2.2.2.2.1,Qb.2.2.2.2.2.2.1,Vv,Qb.2.2.2.2.2.2.2.2.1,Qb.2.2.2.2.2.2.2.2.2.1,()))) (Cnd (Qk=4) (Qd list Zq (4:Int) fun Qo Vv=>Fits Qb.2.2.2.2.2.1->Cnd (Qo<(↑Qb.2.2.2.2.2.1.length:Int)) (((0:Int)<=(0:Int)/\(0:Int)<=Qo/\Qo<=(↑Qb.2.2.2.2.2.1.length:Int))/\InI (Qo+1)/\((0:Int)<=Qo+1/\Qo+1<=(↑Qb.2.2.2.2.2.1.length:Int)/\(↑Qb.2.2.2.2.2.1.length:Int)<=(↑Qb.2.2.2.2.2.1.length:Int))/\((0:Int)=(0:Int)/\(0:Int)<=Qo/\Qo<=Qo+1/\Qo+1<=(↑Qb.2.2.2.2.2.1.length:Int)/\(↑Qb.2.2.2.2.2.1.length:Int)<=(↑Qb.2.2.2.2.2.1.length:Int))/\Sml (List.take Qo.toNat Qb.2.2.2.2.2.1++List.drop (Qo+1).toNat (List.take (↑Qb.2.2.2.2.2.1.length:Int).toNat Qb.2.2.2.2.2.1)).length/\InI (Qb.1+1)/\Gn (Qb.1+1,Qb.2.1,Qb.2.2.1,Qb.2.2.2.1,Qb.2.2.2.2.1,List.take Qo.toNat Qb.2.2.2.2.2.1++List.drop (Qo+1).toNat (List.take (↑Qb.2.2.2.2.2.1.length:Int).toNat Qb.2.2.2.2.2.1),Qb.2.2.2.2.2.2.1,Vv,Qb.2.2.2.2.2.2.2.2.1,Qb.2.2.2.2.2.2.2.2.2.1,())) (InI (Qb.1+1)/\Gn (Qb.1+1,Qb.2.1,Qb.2.2.1,Qb.2.2.2.1,Qb.2.2.2.2.1,Qb.2.2.2.2.2.1,Qb.2.2.2.2.2.2.1,Vv,Qb.2.2.2.2.2.2.2.2.1,Qb.2.2.2.2.2.2.2.2.2.1,()))) (Cnd (Qk=5) (Fits Qb.2.2.2.2.2.1->Cnd ((↑Qb.2.2.2.2.2.1.length:Int)=0) (Qd list Zq (5:Int) fun Qy Vz=>InI ((1:Int)+Qy)/\Qd list Vz (6:Int) fun Qx q41=>Qd list q41 (4:Int) fun Q1 z60=>InI ((1:Int)+Q1)/\Lp4 (fun Z2 q9n y7d w73 y3r=>Cnd (Z2<1+Q1) (Jw list q9n ((1:Int)+Qy) fun Zu z4s=>Sml (y7d++[Zu]).length/\InI (Z2+1)/\y3r (Z2+1) z4s (y7d++[Zu]) w73) (Qd list q9n ((1:Int)+Q1) fun Zu z4s=>InI ((1:Int)+Zu)/\Lp4 (fun Zg z4q y65 v0o u1p=>Cnd (Zg<0) (Qd list z4q (4:Int) fun Qu Vy=>Cnd (Qu=1) False (InI (Zg+1)/\u1p (Zg+1) Vy y65 v0o)) (Lp5 (fun Qu Vy q0o j6c v0t v9h=>Qd list Vy (3:Int) fun Zl z04=>Cnd (Qu<Zl) (Qd list z04 ((1:Int)+Q1) fun Q3 w40=>InI ((1:Int)+Q3)/\U8 list w40 fun Qg z05=>Jn1 (fun (Zt:BA×Int×List BA×List Seg×List Val×List Tgt×Unit)=>Fits Zt.2.2.1->Cnd ((0:Int)<(↑Zt.2.2.1.length:Int)) (Sml (Zt.2.2.2.2.2.1++[Tgt.mk Zt.1 ((1:Int)+Q3) Zt.2.2.1]).length/\InI (Qu+1)/\v9h (Qu+1) Zt.2.1 (Zt.2.2.2.2.2.1++[Tgt.mk Zt.1 ((1:Int)+Q3) Zt.2.2.1]) Zt.2.2.2.2.1 Zt.2.2.2.1) (InI (Qu+1)/\v9h (Qu+1) Zt.2.1 Zt.2.2.2.2.2.1 Zt.2.2.2.2.1 Zt.2.2.2.1)) fun (w75:BA×Int×List BA×List Seg×List Val×List Tgt×Unit->Prop)=>Qd list z05 (4:Int) fun q0y v0u=>Cnd (q0y=1) (w75 (B8 [100,101,118,105,99,101],v0u,Qg,v0t,j6c,q0o,())) (w75 (B8 [117,115,101,114],v0u,Qg,v0t,j6c,q0o,()))) (Jn1 (fun (Q3:Int×List Rul×List BA×List Seg×List Val×List Tgt×Unit)=>Gd list Q3.1 ((1:Int)+Q1) fun Qg z05=>Sml (Qb.2.2.2.2.2.1++[Flg.mk (B8 [102,122]) ((1:Int)+Qy) Q3.2.2.2.2.1 (decide (Qx<5)) ((1:Int)+Zu) [] Q3.2.2.2.2.2.1 Q3.2.1 Qg]).length/\InI (Qb.1+1)/\Gn (Qb.1+1,Qb.2.1,Qb.2.2.1,Qb.2.2.2.1,Qb.2.2.2.2.1,Qb.2.2.2.2.2.1++[Flg.mk (B8 [102,122]) ((1:Int)+Qy) Q3.2.2.2.2.1 (decide (Qx<5)) ((1:Int)+Zu) [] Q3.2.2.2.2.2.1 Q3.2.1 Qg],Qb.2.2.2.2.2.2.1,z05,Qb.2.2.2.2.2.2.2.2.1,Q3.2.2.2.1,())) fun (v0v:Int×List Rul×List BA×List Seg×List Val×List Tgt×Unit->Prop)=>LpH (fun (Qg:Int×Int×List Rul×List BA×List Seg×List Val×List Tgt×Unit) (v4x:Int×Int×List Rul×List BA×List Seg×List Val×List Tgt×Unit->Prop)=>Qd list Qg.2.1 (5:Int) fun Zt w78=>Cnd (Qg.1<Zt) (At Qg.2.2.2.1 Qg.1 fun y15=>Jo (Envt.mk (Sett.mk (B8 []) (B8 []) (0:Int)) [] Qg.2.2.2.2.1 [] [] []) fun q44=>Gq list w78 q44 (3:Int) fun Qm w77=>Gd list w77 ((1:Int)+Q1) fun Ze j91=>Sml (Qg.2.2.1++[Rul.mk y15 (Ex.mk Qm.1 Qm.2 Qm.3 Qm.4 Qm.5) Ze]).length/\Q5 (Qg.2.2.1++[Rul.mk y15 (Ex.mk Qm.1 Qm.2 Qm.3 Qm.4 Qm.5) Ze]) fun B1 _ y7e=>Cnd (y7e=true) (Fits B1->Cnd ((0:Int)<(↑B1.length:Int)) ((Qg.2.2.1++[Rul.mk y15 (Ex.mk Qm.1 Qm.2 Qm.3 Qm.4 Qm.5) Ze]).length<=(9223372036854775807:Nat)->InI ((↑(Qg.2.2.1++[Rul.mk y15 (Ex.mk Qm.1 Qm.2 Qm.3 Qm.4 Qm.5) Ze]).length:Int) - 1)/\((0:Int)<=(↑(Qg.2.2.1++[Rul.mk y15 (Ex.mk Qm.1 Qm.2 Qm.3 Qm.4 Qm.5) Ze]).length:Int) - 1/\(↑(Qg.2.2.1++[Rul.mk y15 (Ex.mk Qm.1 Qm.2 Qm.3 Qm.4 Qm.5) Ze]).length:Int) - 1<=(↑(Qg.2.2.1++[Rul.mk y15 (Ex.mk Qm.1 Qm.2 Qm.3 Qm.4 Qm.5) Ze]).length:Int))/\v0v (j91,List.take ((↑(Qg.2.2.1++[Rul.mk y15 (Ex.mk Qm.1 Qm.2 Qm.3 Qm.4 Qm.5) Ze]).length:Int) - 1).toNat (Qg.2.2.1++[Rul.mk y15 (Ex.mk Qm.1 Qm.2 Qm.3 Qm.4 Qm.5) Ze]),Qg.2.2.2.1,Qg.2.2.2.2.1,Qg.2.2.2.2.2.1,Qg.2.2.2.2.2.2.1,())) (InI (Qg.1+1)/\v4x (Qg.1+1,j91,Qg.2.2.1++[Rul.mk y15 (Ex.mk Qm.1 Qm.2 Qm.3 Qm.4 Qm.5) Ze],Qg.2.2.2.1,Qg.2.2.2.2.1,Qg.2.2.2.2.2.1,Qg.2.2.2.2.2.2.1,()))) ((Qg.2.2.1++[Rul.mk y15 (Ex.mk Qm.1 Qm.2 Qm.3 Qm.4 Qm.5) Ze]).length<=(9223372036854775807:Nat)->InI ((↑(Qg.2.2.1++[Rul.mk y15 (Ex.mk Qm.1 Qm.2 Qm.3 Qm.4 Qm.5) Ze]).length:Int) - 1)/\((0:Int)<=(↑(Qg.2.2.1++[Rul.mk y15 (Ex.mk Qm.1 Qm.2 Qm.3 Qm.4 Qm.5) Ze]).length:Int) - 1/\(↑(Qg.2.2.1++[Rul.mk y15 (Ex.mk Qm.1 Qm.2 Qm.3 Qm.4 Qm.5) Ze]).length:Int) - 1<=(↑(Qg.2.2.1++[Rul.mk y15 (Ex.mk Qm.1 Qm.2 Qm.3 Qm.4 Qm.5) Ze]).length:Int))/\v0v (j91,List.take ((↑(Qg.2.2.1++[Rul.mk y15 (Ex.mk Qm.1 Qm.2 Qm.3 Qm.4 Qm.5) Ze]).length:Int) - 1).toNat (Qg.2.2.1++[Rul.mk y15 (Ex.mk Qm.1 Qm.2 Qm.3 Qm.4 Qm.5) Ze]),Qg.2.2.2.1,Qg.2.2.2.2.1,Qg.2.2.2.2.2.1,Qg.2.2.2.2.2.2.1,()))) (v0v (w78,Qg.2.2.1,Qg.2.2.2.1,Qg.2.2.2.2.1,Qg.2.2.2.2.2.1,Qg.2.2.2.2.2.2.1,()))) ((0:Int),z04,[],[B8 [102,105,114,115,116],B8 [115,101,99,111,110,100],B8 [116,104,105,114,100],B8 [102,111,117,114,116,104]],v0t,j6c,q0o,()))) (0:Int) z4q [] v0o y65)) (0:Int) z4s w73 y7d)) (0:Int) z60 [] Qb.2.2.2.2.2.2.2.2.2.1) (Fits Qb.2.2.2.2.2.1->InI ((↑Qb.2.2.2.2.2.1.length:Int) - 1)/\((0:Int)<=(↑Qb.2.2.2.2.2.1.length:Int) - 1/\(↑Qb.2.2.2.2.2.1.length:Int) - 1<(↑Qb.2.2.2.2.2.1.length:Int))/\∀y5,Qb.2.2.2.2.2.1[((↑Qb.2.2.2.2.2.1.length:Int) - 1).toNat]? =some y5->Cnd (Lk.blt y5.1 (B8 [102,122])) (Qd list Zq (5:Int) fun Z2 q9n=>InI ((1:Int)+Z2)/\Qd list q9n (6:Int) fun Zu z4s=>Qd list z4s (4:Int) fun Zg z4q=>InI ((1:Int)+Zg)/\Lp4 (fun Qu Vy q0o j6c u1q=>Cnd (Qu<1+Zg) (Jw list Vy ((1:Int)+Z2) fun Zl z04=>Sml (q0o++[Zl]).length/\InI (Qu+1)/\u1q (Qu+1) z04 (q0o++[Zl]) j6c) (Qd list Vy ((1:Int)+Zg) fun Zl z04=>InI ((1:Int)+Zl)/\Lp4 (fun Q3 w40 y9q v9a u1r=>Cnd (Q3<0) (Qd list w40 (4:Int) fun Qg z05=>Cnd (Qg=1) False (InI (Q3+1)/\u1r (Q3+1) z05 y9q v9a)) (Lp5 (fun Qg z05 v0q v0r y7f y9r=>Qd list z05 (3:Int) fun Zt w78=>Cnd (Qg<Zt) (Qd list w78 ((1:Int)+Zg) fun q0y v0u=>InI ((1:Int)+q0y)/\U8 list v0u fun Z3 v4w=>Jn1 (fun (q44:BA×Int×List BA×List Seg×List Val×List Tgt×Unit)=>Fits q44.2.2.1->Cnd ((0:Int)<(↑q44.2.2.1.length:Int)) (Sml (q44.2.2.2.2.2.1++[Tgt.mk q44.1 ((1:Int)+q0y) q44.2.2.1]).length/\InI (Qg+1)/\y9r (Qg+1) q44.2.1 (q44.2.2.2.2.2.1++[Tgt.mk q44.1 ((1:Int)+q0y) q44.2.2.1]) q44.2.2.2.2.1 q44.2.2.2.1) (InI (Qg+1)/\y9r (Qg+1) q44.2.1 q44.2.2.2.2.2.1 q44.2.2.2.2.1 q44.2.2.2.1)) fun (y9s:BA×Int×List BA×List Seg×List Val×List Tgt×Unit->Prop)=>Qd list v4w (4:Int) fun Qm w77=>Cnd (Qm=1) (y9s (B8 [100,101,118,105,99,101],w77,Z3,y7f,v0r,v0q,())) (y9s (B8 [117,115,101,114],w77,Z3,y7f,v0r,v0q,()))) (Jn1 (fun (q0y:Int×List Rul×List BA×List Seg×List Val×List Tgt×Unit)=>Gd list q0y.1 ((1:Int)+Zg) fun Z3 v4w=>Sml (Qb.2.2.2.2.2.1++[Flg.mk (B8 [102,122]) ((1:Int)+Z2) q0y.2.2.2.2.1 (decide (Zu<5)) ((1:Int)+Zl) [] q0y.2.2.2.2.2.1 q0y.2.1 Z3]).length/\InI (Qb.1+1)/\Gn (Qb.1+1,Qb.2.1,Qb.2.2.1,Qb.2.2.2.1,Qb.2.2.2.2.1,Qb.2.2.2.2.2.1++[Flg.mk (B8 [102,122]) ((1:Int)+Z2) q0y.2.2.2.2.1 (decide (Zu<5)) ((1:Int)+Zl) [] q0y.2.2.2.2.2.1 q0y.2.1 Z3],Qb.2.2.2.2.2.2.1,v4w,Qb.2.2.2.2.2.2.2.2.1,q0y.2.2.2.1,())) fun (y7g:Int×List Rul×List BA×List Seg×List Val×List Tgt×Unit->Prop)=>LpH (fun (Z3:Int×Int×List Rul×List BA×List Seg×List Val×List Tgt×Unit) (y2l:Int×Int×List Rul×List BA×List Seg×List Val×List Tgt×Unit->Prop)=>Qd list Z3.2.1 (5:Int) fun q44 v9f=>Cnd (Z3.1<q44) (At Z3.2.2.2.1 Z3.1 fun y18=>Jo (Envt.mk (Sett.mk (B8 []) (B8 []) (0:Int)) [] Z3.2.2.2.2.1 [] [] []) fun (B1:List BA)=>Gq list v9f B1 (3:Int) fun (Zv:Ex) (y2m:Int)=>Gd list y2m ((1:Int)+Zg) fun (z06:Srv) (v9e:Int)=>Sml (Z3.2.2.1++[Rul.mk y18 (Ex.mk Zv.1 Zv.2 Zv.3 Zv.4 Zv.5) z06]).length/\Q5 (Z3.2.2.1++[Rul.mk y18 (Ex.mk Zv.1 Zv.2 Zv.3 Zv.4 Zv.5) z06]) fun (y2o:List Int) (_:Int) (u1s:Bool)=>Cnd (u1s=true) (Fits y2o->Cnd ((0:Int)<(↑y2o.length:Int)) ((Z3.2.2.1++[Rul.mk y18 (Ex.mk Zv.1 Zv.2 Zv.3 Zv.4 Zv.5) z06]).length<=(9223372036854775807:Nat)->InI ((↑(Z3.2.2.1++[Rul.mk y18 (Ex.mk Zv.1 Zv.2 Zv.3 Zv.4 Zv.5) z06]).length:Int) - 1)/\((0:Int)<=(↑(Z3.2.2.1++[Rul.mk y18 (Ex.mk Zv.1 Zv.2 Zv.3 Zv.4 Zv.5) z06]).length:Int) - 1/\(↑(Z3.2.2.1++[Rul.mk y18 (Ex.mk Zv.1 Zv.2 Zv.3 Zv.4 Zv.5) z06]).length:Int) - 1<=(↑(Z3.2.2.1++[Rul.mk y18 (Ex.mk Zv.1 Zv.2 Zv.3 Zv.4 Zv.5) z06]).length:Int))/\y7g (v9e,List.take ((↑(Z3.2.2.1++[Rul.mk y18 (Ex.mk Zv.1 Zv.2 Zv.3 Zv.4 Zv.5) z06]).length:Int) - 1).toNat (Z3.2.2.1++[Rul.mk y18 (Ex.mk Zv.1 Zv.2 Zv.3 Zv.4 Zv.5) z06]),Z3.2.2.2.1,Z3.2.2.2.2.1,Z3.2.2.2.2.2.1,Z3.2.2.2.2.2.2.1,())) (InI (Z3.1+1)/\y2l (Z3.1+1,v9e,Z3.2.2.1++[Rul.mk y18 (Ex.mk Zv.1 Zv.2 Zv.3 Zv.4 Zv.5) z06],Z3.2.2.2.1,Z3.2.2.2.2.1,Z3.2.2.2.2.2.1,Z3.2.2.2.2.2.2.1,()))) ((Z3.2.2.1++[Rul.mk y18 (Ex.mk Zv.1 Zv.2 Zv.3 Zv.4 Zv.5) z06]).length<=(9223372036854775807:Nat)->InI ((↑(Z3.2.2.1++[Rul.mk y18 (Ex.mk Zv.1 Zv.2 Zv.3 Zv.4 Zv.5) z06]).length:Int) - 1)/\((0:Int)<=(↑(Z3.2.2.1++[Rul.mk y18 (Ex.mk Zv.1 Zv.2 Zv.3 Zv.4 Zv.5) z06]).length:Int) - 1/\(↑(Z3.2.2.1++[Rul.mk y18 (Ex.mk Zv.1 Zv.2 Zv.3 Zv.4 Zv.5) z06]).length:Int) - 1<=(↑(Z3.2.2.1++[Rul.mk y18 (Ex.mk Zv.1 Zv.2 Zv.3 Zv.4 Zv.5) z06]).length:Int))/\y7g (v9e,List.take ((↑(Z3.2.2.1++[Rul.mk y18 (Ex.mk Zv.1 Zv.2 Zv.3 Zv.4 Zv.5) z06]).length:Int) - 1).toNat (Z3.2.2.1++[Rul.mk y18 (Ex.mk Zv.1 Zv.2 Zv.3 Zv.4 Zv.5) z06]),Z3.2.2.2.1,Z3.2.2.2.2.1,Z3.2.2.2.2.2.1,Z3.2.2.2.2.2.2.1,()))) (y7g (v9f,Z3.2.2.1,Z3.2.2.2.1,Z3.2.2.2.2.1,Z3.2.2.2.2.2.1,Z3.2.2.2.2.2.2.1,()))) ((0:Int),w78,[],[B8 [102,105,114,115,116],B8 [115,101,99,111,110,100],B8 [116,104,105,114,100],B8 [102,111,117,114,116,104]],y7f,v0r,v0q,()))) (0:Int) w40 [] v9a y9q)) (0:Int) z04 j6c q0o)) (0:Int) z4q [] Qb.2.2.2.2.2.2.2.2.2.1) (InI (Qb.1+1)/\Gn (Qb.1+1,Qb.2.1,Qb.2.2.1,Qb.2.2.2.1,Qb.2.2.2.2.1,Qb.2.2.2.2.2.1,Qb.2.2.2.2.2.2.1,Zq,Qb.2.2.2.2.2.2.2.2.1,Qb.2.2.2.2.2.2.2.2.2.1,())))) (Cnd (Qk=6) (Qd list Zq (3:Int) fun Qo Vv=>Fits Qb.2.2.2.2.2.2.2.2.1->CAt Qb.2.2.2.2.2.2.2.2.1 Qo (fun y5=>InI (Qb.1+1)/\Gn (Qb.1+1,Qb.2.1,Qb.2.2.1,Qb.2.2.2.1,Qb.2.2.2.2.1,Qb.2.2.2.2.2.1,Qb.2.2.2.2.2.2.1,Vv,Qb.2.2.2.2.2.2.2.2.1.set Qo.toNat (Lay_.mk y5.1 y5.2 y5.3 y5.4 y5.5 []),Qb.2.2.2.2.2.2.2.2.2.1,())) (InI (Qb.1+1)/\Gn (Qb.1+1,Qb.2.1,Qb.2.2.1,Qb.2.2.2.1,Qb.2.2.2.2.1,Qb.2.2.2.2.2.1,Qb.2.2.2.2.2.2.1,Vv,Qb.2.2.2.2.2.2.2.2.1,Qb.2.2.2.2.2.2.2.2.2.1,()))) (Cnd (Qk=7) (Qd list Zq (4:Int) fun Qo Vv=>Fits Qb.2.2.2.2.2.2.1->Cnd (Qo<(↑Qb.2.2.2.2.2.2.1.length:Int)) (Qd list Vv (3:Int) fun Qx q41=>InI ((1:Int)+Qx)/\At Qb.2.2.2.2.2.2.1 Qo fun y6=>InI (Qb.1+1)/\Gn (Qb.1+1,Qb.2.1,Qb.2.2.1,Qb.2.2.2.1,Qb.2.2.2.2.1,Qb.2.2.2.2.2.1,Qb.2.2.2.2.2.2.1.set Qo.toNat (Exper.mk y6.1 y6.2 y6.3 y6.4 ((1:Int)+Qx) y6.6 y6.7 (Ex.mk y6.8.1 y6.8.2 y6.8.3 y6.8.4 y6.8.5)),q41,Qb.2.2.2.2.2.2.2.2.1,Qb.2.2.2.2.2.2.2.2.2.1,())) (InI (Qb.1+1)/\Gn (Qb.1+1,Qb.2.1,Qb.2.2.1,Qb.2.2.2.1,Qb.2.2.2.2.1,Qb.2.2.2.2.2.1,Qb.2.2.2.2.2.2.1,Vv,Qb.2.2.2.2.2.2.2.2.1,Qb.2.2.2.2.2.2.2.2.2.1,()))) (Cnd (Qk=8) (Qd list Zq (4:Int) fun Qo Vv=>Fits Qb.2.2.2.2.2.2.1->CAt Qb.2.2.2.2.2.2.1 Qo (fun y5=>J9 list Vv (4000:Int) fun Z2 q9n=>Rd y5.6 Z2 fun Zu=>At Qb.2.2.2.2.2.2.1 Qo fun y9=>InI (Qb.1+1)/\Gn (Qb.1+1,Qb.2.1,Qb.2.2.1,Qb.2.2.2.1,Qb.2.2.2.2.1,Qb.2.2.2.2.2.1,Qb.2.2.2.2.2.2.1.set Qo.toNat (Exper.mk y9.1 y9.2 y9.3 y9.4 y9.5 Zu y9.7 (Ex.mk y9.8.1 y9.8.2 y9.8.3 y9.8.4 y9.8.5)),q9n,Qb.2.2.2.2.2.2.2.2.1,Qb.2.2.2.2.2.2.2.2.2.1,())) (InI (Qb.1+1)/\Gn (Qb.1+1,Qb.2.1,Qb.2.2.1,Qb.2.2.2.1,Qb.2.2.2.2.1,Qb.2.2.2.2.2.1,Qb.2.2.2.2.2.2.1,Vv,Qb.2.2.2.2.2.2.2.2.1,Qb.2.2.2.2.2.2.2.2.2.1,()))) (Cnd (Qk=9) (Fits Qb.2.2.2.2.1->Cnd ((0:Int)<(↑Qb.2.2.2.2.1.length:Int)) (Qd list Zq (2:Int) fun Qy Vz=>Cnd (Qy=1) (Fits Qb.2.2.2.2.1->InI ((↑Qb.2.2.2.2.1.length:Int) - 1)/\((0:Int)<=(↑Qb.2.2.2.2.1.length:Int) - 1/\(↑Qb.2.2.2.2.1.length:Int) - 1<=(↑Qb.2.2.2.2.1.length:Int))/\InI (Qb.1+1)/\Gn (Qb.1+1,Qb.2.1,Qb.2.2.1,Qb.2.2.2.1,List.take ((↑Qb.2.2.2.2.1.length:Int) - 1).toNat Qb.2.2.2.2.1,Qb.2.2.2.2.2.1,Qb.2.2.2.2.2.2.1,Vz,Qb.2.2.2.2.2.2.2.2.1,Qb.2.2.2.2.2.2.2.2.2.1,())) (Qd list Vz (4:Int) fun Qx q41=>Fits Qb.2.2.2.2.2.2.1->Cnd (Qx<(↑Qb.2.2.2.2.2.2.1.length:Int)) (((0:Int)<=(0:Int)/\(0:Int)<=Qx/\Qx<=(↑Qb.2.2.2.2.2.2.1.length:Int))/\InI (Qx+1)/\((0:Int)<=Qx+1/\Qx+1<=(↑Qb.2.2.2.2.2.2.1.length:Int)/\(↑Qb.2.2.2.2.2.2.1.length:Int)<=(↑Qb.2.2.2.2.2.2.1.length:Int))/\((0:Int)=(0:Int)/\(0:Int)<=Qx/\Qx<=Qx+1/\Qx+1<=(↑Qb.2.2.2.2.2.2.1.length:Int)/\(↑Qb.2.2.2.2.2.2.1.length:Int)<=(↑Qb.2.2.2.2.2.2.1.length:Int))/\Sml (List.take Qx.toNat Qb.2.2.2.2.2.2.1++List.drop (Qx+1).toNat (List.take (↑Qb.2.2.2.2.2.2.1.length:Int).toNat Qb.2.2.2.2.2.2.1)).length/\InI (Qb.1+1)/\Gn (Qb.1+1,Qb.2.1,Qb.2.2.1,Qb.2.2.2.1,Qb.2.2.2.2.1,Qb.2.2.2.2.2.1,List.take Qx.toNat Qb.2.2.2.2.2.2.1++List.drop (Qx+1).toNat (List.take (↑Qb.2.2.2.2.2.2.1.length:Int).toNat Qb.2.2.2.2.2.2.1),q41,Qb.2.2.2.2.2.2.2.2.1,Qb.2.2.2.2.2.2.2.2.2.1,())) (InI (Qb.1+1)/\Gn (Qb.1+1,Qb.2.1,Qb.2.2.1,Qb.2.2.2.1,Qb.2.2.2.2.1,Qb.2.2.2.2.2.1,Qb.2.2.2.2.2.2.1,q41,Qb.2.2.2.2.2.2.2.2.1,Qb.2.2.2.2.2.2.2.2.2.1,())))) (Qd list Zq (4:Int) fun Qy Vz=>Fits Qb.2.2.2.2.2.2.1->Cnd (Qy<(↑Qb.2.2.2.2.2.2.1.length:Int)) (((0:Int)<=(0:Int)/\(0:Int)<=Qy/\Qy<=(↑Qb.2.2.2.2.2.2.1.length:Int))/\InI (Qy+1)/\((0:Int)<=Qy+1/\Qy+1<=(↑Qb.2.2.2.2.2.2.1.length:Int)/\(↑Qb.2.2.2.2.2.2.1.length:Int)<=(↑Qb.2.2.2.2.2.2.1.length:Int))/\((0:Int)=(0:Int)/\(0:Int)<=Qy/\Qy<=Qy+1/\Qy+1<=(↑Qb.2.2.2.2.2.2.1.length:Int)/\(↑Qb.2.2.2.2.2.2.1.length:Int)<=(↑Qb.2.2.2.2.2.2.1.length:Int))/\Sml (List.take Qy.toNat Qb.2.2.2.2.2.2.1++List.drop (Qy+1).toNat (List.take (↑Qb.2.2.2.2.2.2.1.length:Int).toNat Qb.2.2.2.2.2.2.1)).length/\InI (Qb.1+1)/\Gn (Qb.1+1,Qb.2.1,Qb.2.2.1,Qb.2.2.2.1,Qb.2.2.2.2.1,Qb.2.2.2.2.2.1,List.take Qy.toNat Qb.2.2.2.2.2.2.1++List.drop (Qy+1).toNat (List.take (↑Qb.2.2.2.2.2.2.1.length:Int).toNat Qb.2.2.2.2.2.2.1),Vz,Qb.2.2.2.2.2.2.2.2.1,Qb.2.2.2.2.2.2.2.2.2.1,())) (InI (Qb.1+1)/\Gn (Qb.1+1,Qb.2.1,Qb.2.2.1,Qb.2.2.2.1,Qb.2.2.2.2.1,Qb.2.2.2.2.2.1,Qb.2.2.2.2.2.2.1,Vz,Qb.2.2.2.2.2.2.2.2.1,Qb.2.2.2.2.2.2.2.2.2.1,())))) (InI (Qb.1+1)/\Gn (Qb.1+1,Qb.2.1,Qb.2.2.1,Qb.2.2.2.1,Qb.2.2.2.2.1,Qb.2.2.2.2.2.1,Qb.2.2.2.2.2.2.1,Zq,Qb.2.2.2.2.2.2.2.2.1,Qb.2.2.2.2.2.2.2.2.2.1,())))))))))))) (K (Envt.mk (Sett.mk Qb.2.1 Qb.2.2.1 Qb.2.2.2.1) Qb.2.2.2.2.1 Qb.2.2.2.2.2.2.2.2.2.1 Qb.2.2.2.2.2.1 Qb.2.2.2.2.2.2.2.2.1 Qb.2.2.2.2.2.2.1) Jp)) ((0:Int),v.1.1,v.1.2,v.1.3,[]++v.2,[]++v.4,[]++v.6,at_,[]++v.5,[]++v.3,())
def z7w:z1w:=j3q Jb q9x z22 z23 q28 Bf Gv q9y W9 q8r
abbrev w25:=Int->Int->(Int->Prop)->Prop
def w26:w25:=fun x n K=>n≠(0:Int)/\Cnd (x.tmod n<0) (InI (x.tmod n+n)/\K (x.tmod n+n)) (K (x.tmod n))
abbrev q1u:=List Int->Int->(Bool->Prop)->Prop
def q1v(q7x:q24)(w43:w2t)(q4h:Bt)(z8e:z1w)(Z9:Wg)(w44:w25)(Z0:Rf):q1u:=fun codes bucket K=>q7x fun Qb=>Cnd (Qb=true) (w43 codes (450:Int) fun Qh Jp=>q4h Qh Jp (10:Int) fun Qk Zq=>z8e Qh Zq (Envt.mk (Sett.mk Qk.1.1 Qk.1.2 Qk.1.3) Qk.2 Qk.3 Qk.4 Qk.5 Qk.6) (10:Int) fun Qo _=>Z9 (Envt.mk (Sett.mk Qo.1.1 Qo.1.2 Qo.1.3) Qo.2 Qo.3 Qo.4 Qo.5 Qo.6) fun _ Vz=>Cnd (Vz=0) (w44 bucket (10000:Int) fun Qx=>Lp1 (fun Q1 v4u=>Fits Qo.5->Cnd (Q1<(↑Qo.5.length:Int)) (Lp2 (fun Zu z4s v9j=>Fits Qo.6->CAt Qo.6 z4s (fun y10=>At Qo.5 Q1 fun y12=>Cnd (y10.2=y12.1) (Cnd (y10.5=3) (InI (z4s+1)/\v9j Zu (z4s+1)) (Z0 y10.6 fun Zt=>At Zt Qx fun y15=>Cnd (y15=true) (InI (Zu+1)/\InI (z4s+1)/\v9j (Zu+1) (z4s+1)) (InI (z4s+1)/\v9j Zu (z4s+1)))) (InI (z4s+1)/\v9j Zu (z4s+1))) (Cnd ((1:Int)<Zu) (K false) (Cnd ((0:Int)<Zu) (At Qo.5 Q1 fun y10=>Cnd (Qx<y10.4) (K false) (InI (Q1+1)/\v4u (Q1+1))) (InI (Q1+1)/\v4u (Q1+1))))) (0:Int) (0:Int)) (K true)) (0:Int)) (K true)) (K false)
def Wi:q1u:=q1v q63 w2u Bu z7w Wh w26 q05
end Go.En
end
noncomputable section
namespace Go.Proofs
open Go.Shelf
def Tryz.lays106_ren:Go.Shelf.Ren:=⟨fun|106=>157|213=>211|265=>242|n=>n,fun|9=>9|3=>3|n=>n,fun|n=>n⟩
theorem Tryz.lays106:Go.Proofs.Lays.n106 Tryz.prog Tryz.lays106_ren:={
 mixed:=by kernel_rfl
 f106:=Tryz.func157.trans (congrArg some (by kernel_rfl))
 f213:=Tryz.func211.trans (congrArg some (by kernel_rfl))
 f265:=Tryz.func242.trans (congrArg some (by kernel_rfl))
 t3:=Tryz.underlying3
 a3:=Tryz.isAgg3
 z3:=Tryz.sizeOf3
 v3:=Tryz.zeroValue3
 t9:=Tryz.underlying9
 a9:=Tryz.isAgg9
 z9:=Tryz.sizeOf9
 v9:=Tryz.zeroValue9}
open Go.RowKit in
theorem Tryz.strings_Compare(a b:BA)(w:World):
  Calls Tryz.prog 157 #[.string a,.string b] w fun e w'=>e= .returned (.int .i64 (Lib.compareBytes a.data.toList b.data.toList))/\w'=w:=Any.strings_Compare Tryz.lays106 a b w
def Tryz.laysC172_ren:Go.Shelf.Ren:=⟨fun|172=>279|244=>291|245=>292|247=>303|279=>304|280=>305|281=>306|282=>307|287=>315|316=>316|171=>318|205=>317|321=>321|322=>322|243=>323|246=>324|283=>325|284=>326|285=>327|286=>328|129=>226|317=>329|318=>330|319=>331|320=>332|337=>333|338=>334|n=>n,fun|9=>9|3=>3|75=>324|76=>325|4=>4|5=>5|167=>340|37=>22|0=>0|85=>341|2=>2|168=>343|53=>282|175=>346|46=>36|210=>350|127=>356|145=>359|143=>357|21=>21|171=>361|173=>363|212=>366|51=>280|20=>20|213=>367|232=>368|233=>369|80=>92|n=>n,fun|15=>8|16=>9|17=>10|18=>11|19=>12|n=>n⟩
theorem Tryz.laysC172:Go.Proofs.LaysC.n172 Tryz.prog Tryz.laysC172_ren:={
 mixed:=by kernel_rfl
 f129:=Tryz.func226.trans (congrArg some (by kernel_rfl))
 f171:=Tryz.func318.trans (congrArg some (by kernel_rfl))
 f172:=Tryz.func279.trans (congrArg some (by kernel_rfl))
 f205:=Tryz.func317.trans (congrArg some (by kernel_rfl))
 f243:=Tryz.func323.trans (congrArg some (by kernel_rfl))
 f244:=Tryz.func291.trans (congrArg some (by kernel_rfl))
 f245:=Tryz.func292.trans (congrArg some (by kernel_rfl))
 f246:=Tryz.func324.trans (congrArg some (by kernel_rfl))
 f247:=Tryz.func303.trans (congrArg some (by kernel_rfl))
 f279:=Tryz.func304.trans (congrArg some (by kernel_rfl))
 f280:=Tryz.func305.trans (congrArg some (by kernel_rfl))
 f281:=Tryz.func306.trans (congrArg some (by kernel_rfl))
 f282:=Tryz.func307.trans (congrArg some (by kernel_rfl))
 f283:=Tryz.func325.trans (congrArg some (by kernel_rfl))
 f284:=Tryz.func326.trans (congrArg some (by kernel_rfl))
 f285:=Tryz.func327.trans (congrArg some (by kernel_rfl))
 f286:=Tryz.func328.trans (congrArg some (by kernel_rfl))
 f287:=Tryz.func315.trans (congrArg some (by kernel_rfl))
 f316:=Tryz.func316.trans (congrArg some (by kernel_rfl))
 f317:=Tryz.func329.trans (congrArg some (by kernel_rfl))
 f318:=Tryz.func330.trans (congrArg some (by kernel_rfl))
 f319:=Tryz.func331.trans (congrArg some (by kernel_rfl))
 f320:=Tryz.func332.trans (congrArg some (by kernel_rfl))
 f321:=Tryz.func321.trans (congrArg some (by kernel_rfl))
 f322:=Tryz.func322.trans (congrArg some (by kernel_rfl))
 f337:=Tryz.func333.trans (congrArg some (by kernel_rfl))
 f338:=Tryz.func334.trans (congrArg some (by kernel_rfl))
 t0:=Tryz.underlying0
 a0:=Tryz.isAgg0
 z0:=Tryz.sizeOf0
 v0:=Tryz.zeroValue0
 t2:=Tryz.underlying2
 a2:=Tryz.isAgg2
 z2:=Tryz.sizeOf2
 v2:=Tryz.zeroValue2
 t3:=Tryz.underlying3
 a3:=Tryz.isAgg3
 z3:=Tryz.sizeOf3
 v3:=Tryz.zeroValue3
 t4:=Tryz.underlying4
 a4:=Tryz.isAgg4
 z4:=Tryz.sizeOf4
 v4:=Tryz.zeroValue4
 t5:=Tryz.underlying5
 a5:=Tryz.isAgg5
 z5:=Tryz.sizeOf5
 v5:=Tryz.zeroValue5
 t9:=Tryz.underlying9
 a9:=Tryz.isAgg9
 z9:=Tryz.sizeOf9
 v9:=Tryz.zeroValue9
 t20:=Tryz.underlying20
 a20:=Tryz.isAgg20
 z20:=Tryz.sizeOf20
 v20:=Tryz.zeroValue20
 t21:=Tryz.underlying21
 a21:=Tryz.isAgg21
 z21:=Tryz.sizeOf21
 v21:=Tryz.zeroValue21
 t37:=Tryz.underlying22
 a37:=Tryz.isAgg22
 z37:=Tryz.sizeOf22
 v37:=Tryz.zeroValue22
 t46:=Tryz.underlying36
 a46:=Tryz.isAgg36
 z46:=Tryz.sizeOf36
 v46:=Tryz.zeroValue36
 t51:=Tryz.underlying280
 a51:=Tryz.isAgg280
 z51:=Tryz.sizeOf280
 v51:=Tryz.zeroValue280
 t53:=Tryz.underlying282
 a53:=Tryz.isAgg282
 z53:=Tryz.sizeOf282
 v53:=Tryz.zeroValue282
 t75:=Tryz.underlying324
 a75:=Tryz.isAgg324
 z75:=Tryz.sizeOf324
 v75:=Tryz.zeroValue324
 t76:=Tryz.underlying325
 a76:=Tryz.isAgg325
 z76:=Tryz.sizeOf325
 v76:=Tryz.zeroValue325
 t85:=Tryz.underlying341
 a85:=Tryz.isAgg341
 z85:=Tryz.sizeOf341
 v85:=Tryz.zeroValue341
 t127:=Tryz.underlying356
 a127:=Tryz.isAgg356
 z127:=Tryz.sizeOf356
 v127:=Tryz.zeroValue356
 t143:=Tryz.underlying357
 a143:=Tryz.isAgg357
 z143:=Tryz.sizeOf357
 v143:=Tryz.zeroValue357
 t145:=Tryz.underlying359
 a145:=Tryz.isAgg359
 z145:=Tryz.sizeOf359
 v145:=Tryz.zeroValue359
 t167:=Tryz.underlying340
 a167:=Tryz.isAgg340
 z167:=Tryz.sizeOf340
 v167:=Tryz.zeroValue340
 t168:=Tryz.underlying343
 a168:=Tryz.isAgg343
 z168:=Tryz.sizeOf343
 v168:=Tryz.zeroValue343
 t171:=Tryz.underlying361
 a171:=Tryz.isAgg361
 z171:=Tryz.sizeOf361
 v171:=Tryz.zeroValue361
 t173:=Tryz.underlying363
 a173:=Tryz.isAgg363
 z173:=Tryz.sizeOf363
 v173:=Tryz.zeroValue363
 t175:=Tryz.underlying346
 a175:=Tryz.isAgg346
 z175:=Tryz.sizeOf346
 v175:=Tryz.zeroValue346
 t210:=Tryz.underlying350
 a210:=Tryz.isAgg350
 z210:=Tryz.sizeOf350
 v210:=Tryz.zeroValue350
 t212:=Tryz.underlying366
 a212:=Tryz.isAgg366
 z212:=Tryz.sizeOf366
 v212:=Tryz.zeroValue366
 t213:=Tryz.underlying367
 a213:=Tryz.isAgg367
 z213:=Tryz.sizeOf367
 t232:=Tryz.underlying368
 a232:=Tryz.isAgg368
 z232:=Tryz.sizeOf368
 v232:=Tryz.zeroValue368
 t233:=Tryz.underlying369
 a233:=Tryz.isAgg369
 z233:=Tryz.sizeOf369
 v233:=Tryz.zeroValue369
 g15:=by kernel_rfl
 g16:=by kernel_rfl
 g17:=by kernel_rfl
 g18:=by kernel_rfl
 g19:=by kernel_rfl
 t80:=Tryz.underlying92
 a80:=Tryz.isAgg92
 z80:=Tryz.sizeOf92
 v80:=Tryz.zeroValue92
 i0:=by kernel_rfl
 i2:=by kernel_rfl
 i3:=by kernel_rfl
 i4:=by kernel_rfl
 i5:=by kernel_rfl
 i9:=by kernel_rfl
 i20:=by kernel_rfl
 i21:=by kernel_rfl
 i37:=by kernel_rfl
 i46:=by kernel_rfl
 i51:=by kernel_rfl
 i53:=by kernel_rfl
 i75:=by kernel_rfl
 i76:=by kernel_rfl
 i80:=by kernel_rfl
 i85:=by kernel_rfl
 i127:=by kernel_rfl
 i143:=by kernel_rfl
 i145:=by kernel_rfl
 i167:=by kernel_rfl
 i168:=by kernel_rfl
 i171:=by kernel_rfl
 i173:=by kernel_rfl
 i175:=by kernel_rfl
 i210:=by kernel_rfl
 i212:=by kernel_rfl
 i232:=by kernel_rfl
 i233:=by kernel_rfl
 m15:=by kernel_rfl
 m16:=by kernel_rfl
 m17:=by kernel_rfl
 m18:=by kernel_rfl
 m19:=by kernel_rfl
 c0:=by kernel_rfl
 c2:=by kernel_rfl
 c3:=by kernel_rfl
 c4:=by kernel_rfl
 c5:=by kernel_rfl
 c9:=by kernel_rfl
 c20:=by kernel_rfl
 c21:=by kernel_rfl
 c37:=by kernel_rfl
 c46:=by kernel_rfl
 c51:=by kernel_rfl
 c53:=by kernel_rfl
 c75:=by kernel_rfl
 c76:=by kernel_rfl
 c80:=by kernel_rfl
 c85:=by kernel_rfl
 c127:=by kernel_rfl
 c143:=by kernel_rfl
 c145:=by kernel_rfl
 c167:=by kernel_rfl
 c168:=by kernel_rfl
 c171:=by kernel_rfl
 c173:=by kernel_rfl
 c175:=by kernel_rfl
 c210:=by kernel_rfl
 c212:=by kernel_rfl
 c213:=by kernel_rfl
 c232:=by kernel_rfl
 c233:=by kernel_rfl}
open Go.RowKit in
theorem Tryz.strconv_Atoi_ok(s:BA)(hmax:s.size<=9223372036854775806)(v:Int)(h:Lib.atoiAll s.data.toList= .ok v)(w:World):
  Calls Tryz.prog 279 #[.string s] w fun e w'=>e= .returned (.tuple #[.int .i64 v,.nilIface])/\(w'=w\/ ∃t,w'=Lib.bytesWorld w 5 t):=Any.strconv_Atoi_ok Tryz.laysC172 s hmax v h w
open Go.RowKit in
theorem Tryz.strconv_Atoi_syntax(s:BA)(hlim:s.size<=281474976710656)(h:Lib.atoiAll s.data.toList=Go.Lib.NumEnd.syntax)(ev:Value)(w:World)(hv:w.cell? ⟨8,0,none⟩=some ev)(hev:ev= .nilIface\/ ∃te pe,ev= .iface te pe):
  Calls Tryz.prog 279 #[.string s] w fun e w'=> ∃N,e= .returned (.tuple #[.int .i64 (0),.iface 343 (.pointer (some ⟨N,0,none⟩))])/\w.heap.size<=N/\w'.heap[N]? =some (.cells #[.string ⟨#[65,116,111,105]⟩,.string s,ev] 350 (0,0))/\Below w.heap.size w w':=Any.strconv_Atoi_syntax Tryz.laysC172 s hlim h ev w hv hev
open Go.RowKit in
theorem Tryz.strconv_Atoi_range(s:BA)(hlim:s.size<=281474976710656)(h:Lib.atoiAll s.data.toList= .range)(ev:Value)(w:World)(hv:w.cell? ⟨9,0,none⟩=some ev)(hev:ev= .nilIface\/ ∃te pe,ev= .iface te pe):
  Calls Tryz.prog 279 #[.string s] w fun e w'=> ∃N,e= .returned (.tuple #[.int .i64 (Lib.atoiSat s.data.toList),.iface 343 (.pointer (some ⟨N,0,none⟩))])/\w.heap.size<=N/\w'.heap[N]? =some (.cells #[.string ⟨#[65,116,111,105]⟩,.string s,ev] 350 (0,0))/\Below w.heap.size w w':=Any.strconv_Atoi_range Tryz.laysC172 s hlim h ev w hv hev
def Tryz.lays189_ren:Go.Shelf.Ren:=⟨fun|189=>185|125=>172|257=>230|128=>225|129=>226|294=>252|295=>253|296=>254|297=>255|298=>256|299=>257|216=>258|300=>259|301=>260|328=>281|329=>247|330=>248|331=>282|332=>283|215=>284|343=>293|n=>n,fun|28=>26|3=>3|46=>36|0=>0|51=>280|53=>282|4=>4|183=>273|182=>272|131=>194|5=>5|9=>9|218=>300|222=>267|228=>327|229=>249|n=>n,fun|n=>n⟩
theorem Tryz.lays189:Go.Proofs.Lays.n189 Tryz.prog Tryz.lays189_ren:={
 mixed:=by kernel_rfl
 f125:=Tryz.func172.trans (congrArg some (by kernel_rfl))
 f128:=Tryz.func225.trans (congrArg some (by kernel_rfl))
 f129:=Tryz.func226.trans (congrArg some (by kernel_rfl))
 f189:=Tryz.func185.trans (congrArg some (by kernel_rfl))
 f215:=Tryz.func284.trans (congrArg some (by kernel_rfl))
 f216:=Tryz.func258.trans (congrArg some (by kernel_rfl))
 f257:=Tryz.func230.trans (congrArg some (by kernel_rfl))
 f294:=Tryz.func252.trans (congrArg some (by kernel_rfl))
 f295:=Tryz.func253.trans (congrArg some (by kernel_rfl))
 f296:=Tryz.func254.trans (congrArg some (by kernel_rfl))
 f297:=Tryz.func255.trans (congrArg some (by kernel_rfl))
 f298:=Tryz.func256.trans (congrArg some (by kernel_rfl))
 f299:=Tryz.func257.trans (congrArg some (by kernel_rfl))
 f300:=Tryz.func259.trans (congrArg some (by kernel_rfl))
 f301:=Tryz.func260.trans (congrArg some (by kernel_rfl))
 f328:=Tryz.func281.trans (congrArg some (by kernel_rfl))
 f329:=Tryz.func247.trans (congrArg some (by kernel_rfl))
 f330:=Tryz.func248.trans (congrArg some (by kernel_rfl))
 f331:=Tryz.func282.trans (congrArg some (by kernel_rfl))
 f332:=Tryz.func283.trans (congrArg some (by kernel_rfl))
 f343:=Tryz.func293.trans (congrArg some (by kernel_rfl))
 t0:=Tryz.underlying0
 a0:=Tryz.isAgg0
 z0:=Tryz.sizeOf0
 v0:=Tryz.zeroValue0
 t3:=Tryz.underlying3
 a3:=Tryz.isAgg3
 z3:=Tryz.sizeOf3
 v3:=Tryz.zeroValue3
 t4:=Tryz.underlying4
 a4:=Tryz.isAgg4
 z4:=Tryz.sizeOf4
 v4:=Tryz.zeroValue4
 t5:=Tryz.underlying5
 a5:=Tryz.isAgg5
 z5:=Tryz.sizeOf5
 v5:=Tryz.zeroValue5
 t9:=Tryz.underlying9
 a9:=Tryz.isAgg9
 z9:=Tryz.sizeOf9
 v9:=Tryz.zeroValue9
 t28:=Tryz.underlying26
 a28:=Tryz.isAgg26
 z28:=Tryz.sizeOf26
 v28:=Tryz.zeroValue26
 t46:=Tryz.underlying36
 a46:=Tryz.isAgg36
 z46:=Tryz.sizeOf36
 v46:=Tryz.zeroValue36
 t51:=Tryz.underlying280
 a51:=Tryz.isAgg280
 z51:=Tryz.sizeOf280
 v51:=Tryz.zeroValue280
 t53:=Tryz.underlying282
 a53:=Tryz.isAgg282
 z53:=Tryz.sizeOf282
 v53:=Tryz.zeroValue282
 t131:=Tryz.underlying194
 a131:=Tryz.isAgg194
 z131:=Tryz.sizeOf194
 v131:=Tryz.zeroValue194
 t182:=Tryz.underlying272
 a182:=Tryz.isAgg272
 z182:=Tryz.sizeOf272
 v182:=Tryz.zeroValue272
 t183:=Tryz.underlying273
 a183:=Tryz.isAgg273
 z183:=Tryz.sizeOf273
 v183:=Tryz.zeroValue273
 t218:=Tryz.underlying300
 a218:=Tryz.isAgg300
 z218:=Tryz.sizeOf300
 v218:=Tryz.zeroValue300
 t222:=Tryz.underlying267
 a222:=Tryz.isAgg267
 z222:=Tryz.sizeOf267
 v222:=Tryz.zeroValue267
 t228:=Tryz.underlying327
 a228:=Tryz.isAgg327
 z228:=Tryz.sizeOf327
 v228:=Tryz.zeroValue327
 t229:=Tryz.underlying249
 a229:=Tryz.isAgg249
 z229:=Tryz.sizeOf249
 v229:=Tryz.zeroValue249}
open Go.Sort Go.RowKit in
theorem Tryz.slices_Sort_int(blk off cap:Nat)(zs:List Int)(w:World)(hH:Holds (Value.int .i64) w blk off zs.toArray)(hblk:blk<w.heap.size)(hsz:zs.length<4611686018427387904):
  Calls Tryz.prog 185 #[.slice (some ⟨blk,off,none⟩) zs.length cap] w fun e w'=>
   e= .returned (.tuple #[])/\∃n os,w'=grow (putRow (Value.int .i64) (Sort.ahead w n) blk off (zs.mergeSort fun x y=>decide (x<=y)).toArray) os:=Any.slices_Sort_int Tryz.lays189 blk off cap zs w hH hblk hsz
def Tryz.lays190_ren:Go.Shelf.Ren:=⟨fun|190=>111|125=>172|258=>171|128=>225|129=>226|302=>216|303=>217|304=>218|305=>219|306=>220|307=>221|308=>222|309=>223|310=>224|333=>246|329=>247|330=>248|334=>249|335=>250|336=>251|344=>280|n=>n,fun|31=>72|9=>9|3=>3|46=>36|0=>0|51=>280|53=>282|4=>4|183=>273|182=>272|131=>194|5=>5|218=>300|222=>267|228=>327|229=>249|n=>n,fun|n=>n⟩
theorem Tryz.lays190:Go.Proofs.Lays.n190 Tryz.prog Tryz.lays190_ren:={
 mixed:=by kernel_rfl
 f125:=Tryz.func172.trans (congrArg some (by kernel_rfl))
 f128:=Tryz.func225.trans (congrArg some (by kernel_rfl))
 f129:=Tryz.func226.trans (congrArg some (by kernel_rfl))
 f190:=Tryz.func111.trans (congrArg some (by kernel_rfl))
 f258:=Tryz.func171.trans (congrArg some (by kernel_rfl))
 f302:=Tryz.func216.trans (congrArg some (by kernel_rfl))
 f303:=Tryz.func217.trans (congrArg some (by kernel_rfl))
 f304:=Tryz.func218.trans (congrArg some (by kernel_rfl))
 f305:=Tryz.func219.trans (congrArg some (by kernel_rfl))
 f306:=Tryz.func220.trans (congrArg some (by kernel_rfl))
 f307:=Tryz.func221.trans (congrArg some (by kernel_rfl))
 f308:=Tryz.func222.trans (congrArg some (by kernel_rfl))
 f309:=Tryz.func223.trans (congrArg some (by kernel_rfl))
 f310:=Tryz.func224.trans (congrArg some (by kernel_rfl))
 f329:=Tryz.func247.trans (congrArg some (by kernel_rfl))
 f330:=Tryz.func248.trans (congrArg some (by kernel_rfl))
 f333:=Tryz.func246.trans (congrArg some (by kernel_rfl))
 f334:=Tryz.func249.trans (congrArg some (by kernel_rfl))
 f335:=Tryz.func250.trans (congrArg some (by kernel_rfl))
 f336:=Tryz.func251.trans (congrArg some (by kernel_rfl))
 f344:=Tryz.func280.trans (congrArg some (by kernel_rfl))
 t0:=Tryz.underlying0
 a0:=Tryz.isAgg0
 z0:=Tryz.sizeOf0
 v0:=Tryz.zeroValue0
 t3:=Tryz.underlying3
 a3:=Tryz.isAgg3
 z3:=Tryz.sizeOf3
 v3:=Tryz.zeroValue3
 t4:=Tryz.underlying4
 a4:=Tryz.isAgg4
 z4:=Tryz.sizeOf4
 v4:=Tryz.zeroValue4
 t5:=Tryz.underlying5
 a5:=Tryz.isAgg5
 z5:=Tryz.sizeOf5
 v5:=Tryz.zeroValue5
 t9:=Tryz.underlying9
 a9:=Tryz.isAgg9
 z9:=Tryz.sizeOf9
 v9:=Tryz.zeroValue9
 t31:=Tryz.underlying72
 a31:=Tryz.isAgg72
 z31:=Tryz.sizeOf72
 v31:=Tryz.zeroValue72
 t46:=Tryz.underlying36
 a46:=Tryz.isAgg36
 z46:=Tryz.sizeOf36
 v46:=Tryz.zeroValue36
 t51:=Tryz.underlying280
 a51:=Tryz.isAgg280
 z51:=Tryz.sizeOf280
 v51:=Tryz.zeroValue280
 t53:=Tryz.underlying282
 a53:=Tryz.isAgg282
 z53:=Tryz.sizeOf282
 v53:=Tryz.zeroValue282
 t131:=Tryz.underlying194
 a131:=Tryz.isAgg194
 z131:=Tryz.sizeOf194
 v131:=Tryz.zeroValue194
 t182:=Tryz.underlying272
 a182:=Tryz.isAgg272
 z182:=Tryz.sizeOf272
 v182:=Tryz.zeroValue272
 t183:=Tryz.underlying273
 a183:=Tryz.isAgg273
 z183:=Tryz.sizeOf273
 v183:=Tryz.zeroValue273
 t218:=Tryz.underlying300
 a218:=Tryz.isAgg300
 z218:=Tryz.sizeOf300
 v218:=Tryz.zeroValue300
 t222:=Tryz.underlying267
 a222:=Tryz.isAgg267
 z222:=Tryz.sizeOf267
 v222:=Tryz.zeroValue267
 t228:=Tryz.underlying327
 a228:=Tryz.isAgg327
 z228:=Tryz.sizeOf327
 v228:=Tryz.zeroValue327
 t229:=Tryz.underlying249
 a229:=Tryz.isAgg249
 z229:=Tryz.sizeOf249
 v229:=Tryz.zeroValue249}
open Go.Sort Go.RowKit in
theorem Tryz.slices_Sort_string(blk off cap:Nat)(ss:List (List UInt8))(w:World)(hH:Holds encStr w blk off ss.toArray)(hblk:blk<w.heap.size)(hsz:ss.length<4611686018427387904):
  Calls Tryz.prog 111 #[.slice (some ⟨blk,off,none⟩) ss.length cap] w fun e w'=>
   e= .returned (.tuple #[])/\∃n os,w'=grow (putRow encStr (Sort.ahead w n) blk off (ss.mergeSort fun x y=>decide (x<=y)).toArray) os:=Any.slices_Sort_string Tryz.lays190 blk off cap ss w hH hblk hsz
def Tryz.lays146_ren:Go.Shelf.Ren:=⟨fun|146=>244|221=>277|268=>287|138=>288|143=>289|195=>298|197=>299|218=>300|219=>301|260=>310|217=>311|225=>312|224=>313|267=>314|266=>319|314=>320|n=>n,fun|9=>9|31=>72|3=>3|4=>4|0=>0|105=>337|21=>21|5=>5|46=>36|119=>260|139=>263|138=>262|146=>353|51=>280|n=>n,fun|1=>7|3=>3|4=>4|n=>n⟩
theorem Tryz.lays146:Go.Proofs.Lays.n146 Tryz.prog Tryz.lays146_ren:={
 mixed:=by kernel_rfl
 f138:=Tryz.func288.trans (congrArg some (by kernel_rfl))
 f143:=Tryz.func289.trans (congrArg some (by kernel_rfl))
 f146:=Tryz.func244.trans (congrArg some (by kernel_rfl))
 f195:=Tryz.func298.trans (congrArg some (by kernel_rfl))
 f197:=Tryz.func299.trans (congrArg some (by kernel_rfl))
 f217:=Tryz.func311.trans (congrArg some (by kernel_rfl))
 f218:=Tryz.func300.trans (congrArg some (by kernel_rfl))
 f219:=Tryz.func301.trans (congrArg some (by kernel_rfl))
 f221:=Tryz.func277.trans (congrArg some (by kernel_rfl))
 f224:=Tryz.func313.trans (congrArg some (by kernel_rfl))
 f225:=Tryz.func312.trans (congrArg some (by kernel_rfl))
 f260:=Tryz.func310.trans (congrArg some (by kernel_rfl))
 f266:=Tryz.func319.trans (congrArg some (by kernel_rfl))
 f267:=Tryz.func314.trans (congrArg some (by kernel_rfl))
 f268:=Tryz.func287.trans (congrArg some (by kernel_rfl))
 f314:=Tryz.func320.trans (congrArg some (by kernel_rfl))
 t0:=Tryz.underlying0
 a0:=Tryz.isAgg0
 z0:=Tryz.sizeOf0
 v0:=Tryz.zeroValue0
 t3:=Tryz.underlying3
 a3:=Tryz.isAgg3
 z3:=Tryz.sizeOf3
 v3:=Tryz.zeroValue3
 t4:=Tryz.underlying4
 a4:=Tryz.isAgg4
 z4:=Tryz.sizeOf4
 v4:=Tryz.zeroValue4
 t5:=Tryz.underlying5
 a5:=Tryz.isAgg5
 z5:=Tryz.sizeOf5
 v5:=Tryz.zeroValue5
 t9:=Tryz.underlying9
 a9:=Tryz.isAgg9
 z9:=Tryz.sizeOf9
 v9:=Tryz.zeroValue9
 t21:=Tryz.underlying21
 a21:=Tryz.isAgg21
 z21:=Tryz.sizeOf21
 v21:=Tryz.zeroValue21
 t31:=Tryz.underlying72
 a31:=Tryz.isAgg72
 z31:=Tryz.sizeOf72
 v31:=Tryz.zeroValue72
 t46:=Tryz.underlying36
 a46:=Tryz.isAgg36
 z46:=Tryz.sizeOf36
 v46:=Tryz.zeroValue36
 t51:=Tryz.underlying280
 a51:=Tryz.isAgg280
 z51:=Tryz.sizeOf280
 v51:=Tryz.zeroValue280
 t105:=Tryz.underlying337
 a105:=Tryz.isAgg337
 z105:=Tryz.sizeOf337
 v105:=Tryz.zeroValue337
 t119:=Tryz.underlying260
 a119:=Tryz.isAgg260
 z119:=Tryz.sizeOf260
 t138:=Tryz.underlying262
 a138:=Tryz.isAgg262
 z138:=Tryz.sizeOf262
 v138:=Tryz.zeroValue262
 t139:=Tryz.underlying263
 a139:=Tryz.isAgg263
 z139:=Tryz.sizeOf263
 v139:=Tryz.zeroValue263
 t146:=Tryz.underlying353
 a146:=Tryz.isAgg353
 z146:=Tryz.sizeOf353
 v146:=Tryz.zeroValue353
 g1:=by kernel_rfl
 g3:=by kernel_rfl
 g4:=by kernel_rfl}
open Go.RowKit Go.Lib in
theorem Tryz.strings_Split(s sep:BA)(m:Int)(w:World)(hs:s.size<4294967281)(hm:w.cell? ⟨7,0,none⟩=some (.int .i64 m))(h1:1<=sep.size):
  Calls Tryz.prog 244 #[.string s,.string sep] w fun e w'=>
   e= .returned (.slice (some ⟨w.heap.size,0,none⟩) (Lib.countB s sep+1) (Lib.countB s sep+1))/\w'=w.alloc (.cells ((Lib.splitB sep 0 (Lib.countB s sep) s).map Value.string).toArray 9):=Any.strings_Split Tryz.lays146 (by kernel_rfl) s sep m w hs hm h1
def Tryz.lays157_ren:Go.Shelf.Ren:=⟨fun|157=>155|229=>209|199=>210|261=>241|311=>273|312=>274|n=>n,fun|9=>9|31=>72|3=>3|5=>5|4=>4|119=>260|0=>0|40=>265|152=>291|21=>21|154=>293|51=>280|141=>295|196=>313|193=>310|198=>316|49=>314|194=>311|201=>319|226=>331|46=>36|227=>332|n=>n,fun|0=>5|6=>6|n=>n⟩
theorem Tryz.lays157:Go.Proofs.Lays.n157 Tryz.prog Tryz.lays157_ren:={
 mixed:=by kernel_rfl
 f157:=Tryz.func155.trans (congrArg some (by kernel_rfl))
 f199:=Tryz.func210.trans (congrArg some (by kernel_rfl))
 f229:=Tryz.func209.trans (congrArg some (by kernel_rfl))
 f261:=Tryz.func241.trans (congrArg some (by kernel_rfl))
 f311:=Tryz.func273.trans (congrArg some (by kernel_rfl))
 f312:=Tryz.func274.trans (congrArg some (by kernel_rfl))
 t0:=Tryz.underlying0
 a0:=Tryz.isAgg0
 z0:=Tryz.sizeOf0
 v0:=Tryz.zeroValue0
 t3:=Tryz.underlying3
 a3:=Tryz.isAgg3
 z3:=Tryz.sizeOf3
 v3:=Tryz.zeroValue3
 t4:=Tryz.underlying4
 a4:=Tryz.isAgg4
 z4:=Tryz.sizeOf4
 v4:=Tryz.zeroValue4
 t5:=Tryz.underlying5
 a5:=Tryz.isAgg5
 z5:=Tryz.sizeOf5
 v5:=Tryz.zeroValue5
 t9:=Tryz.underlying9
 a9:=Tryz.isAgg9
 z9:=Tryz.sizeOf9
 v9:=Tryz.zeroValue9
 t21:=Tryz.underlying21
 a21:=Tryz.isAgg21
 z21:=Tryz.sizeOf21
 v21:=Tryz.zeroValue21
 t31:=Tryz.underlying72
 a31:=Tryz.isAgg72
 z31:=Tryz.sizeOf72
 v31:=Tryz.zeroValue72
 t40:=Tryz.underlying265
 a40:=Tryz.isAgg265
 z40:=Tryz.sizeOf265
 v40:=Tryz.zeroValue265
 t46:=Tryz.underlying36
 a46:=Tryz.isAgg36
 z46:=Tryz.sizeOf36
 v46:=Tryz.zeroValue36
 t49:=Tryz.underlying314
 a49:=Tryz.isAgg314
 z49:=Tryz.sizeOf314
 v49:=Tryz.zeroValue314
 t51:=Tryz.underlying280
 a51:=Tryz.isAgg280
 z51:=Tryz.sizeOf280
 v51:=Tryz.zeroValue280
 t119:=Tryz.underlying260
 a119:=Tryz.isAgg260
 z119:=Tryz.sizeOf260
 t141:=Tryz.underlying295
 a141:=Tryz.isAgg295
 z141:=Tryz.sizeOf295
 v141:=Tryz.zeroValue295
 t152:=Tryz.underlying291
 a152:=Tryz.isAgg291
 z152:=Tryz.sizeOf291
 v152:=Tryz.zeroValue291
 t154:=Tryz.underlying293
 a154:=Tryz.isAgg293
 z154:=Tryz.sizeOf293
 v154:=Tryz.zeroValue293
 t193:=Tryz.underlying310
 a193:=Tryz.isAgg310
 z193:=Tryz.sizeOf310
 v193:=Tryz.zeroValue310
 t194:=Tryz.underlying311
 a194:=Tryz.isAgg311
 z194:=Tryz.sizeOf311
 v194:=Tryz.zeroValue311
 t196:=Tryz.underlying313
 a196:=Tryz.isAgg313
 z196:=Tryz.sizeOf313
 v196:=Tryz.zeroValue313
 t198:=Tryz.underlying316
 a198:=Tryz.isAgg316
 z198:=Tryz.sizeOf316
 v198:=Tryz.zeroValue316
 t201:=Tryz.underlying319
 a201:=Tryz.isAgg319
 z201:=Tryz.sizeOf319
 v201:=Tryz.zeroValue319
 t226:=Tryz.underlying331
 a226:=Tryz.isAgg331
 z226:=Tryz.sizeOf331
 v226:=Tryz.zeroValue331
 t227:=Tryz.underlying332
 a227:=Tryz.isAgg332
 z227:=Tryz.sizeOf332
 v227:=Tryz.zeroValue332
 g0:=by kernel_rfl
 g6:=by kernel_rfl}
def Tryz.lays194_ren:Go.Shelf.Ren:=⟨fun|194=>112|n=>n,fun|31=>72|9=>9|3=>3|4=>4|0=>0|n=>n,fun|n=>n⟩
theorem Tryz.lays194:Go.Proofs.Lays.n194 Tryz.prog Tryz.lays194_ren:={
 mixed:=by kernel_rfl
 f194:=Tryz.func112.trans (congrArg some (by kernel_rfl))
 t0:=Tryz.underlying0
 a0:=Tryz.isAgg0
 z0:=Tryz.sizeOf0
 v0:=Tryz.zeroValue0
 t3:=Tryz.underlying3
 a3:=Tryz.isAgg3
 z3:=Tryz.sizeOf3
 v3:=Tryz.zeroValue3
 t4:=Tryz.underlying4
 a4:=Tryz.isAgg4
 z4:=Tryz.sizeOf4
 v4:=Tryz.zeroValue4
 t9:=Tryz.underlying9
 a9:=Tryz.isAgg9
 z9:=Tryz.sizeOf9
 v9:=Tryz.zeroValue9
 t31:=Tryz.underlying72
 a31:=Tryz.isAgg72
 z31:=Tryz.sizeOf72
 v31:=Tryz.zeroValue72}
open Go.RowKit Go.Lib Go.Sort in
theorem Tryz.slices_Compact_string(blk off cap:Nat)(zs:List (List UInt8))(w:World)(hH:Holds encStr w blk off zs.toArray)(hsz:zs.length<=9223372036854775807)(hcap:zs.length<=cap):
  Calls Tryz.prog 112 #[.slice (some ⟨blk,off,none⟩) zs.length cap] w fun e w'=>e= .returned (.slice (some ⟨blk,off,none⟩) (Lib.compact zs).length cap)/\∃q,w'=putRow encStr (Sort.ahead w q) blk off (Lib.compact zs++List.replicate (zs.length - (Lib.compact zs).length) []).toArray:=Any.slices_Compact_string Tryz.lays194 blk off cap zs w hH hsz hcap
open Go.RowKit Go.Lib Go.Sort in
theorem Tryz.slices_Compact_string_empty(a:Option Addr)(cap:Nat)(w:World):
  Calls Tryz.prog 112 #[.slice a 0 cap] w fun e w'=>e= .returned (.slice a 0 cap)/\w'=w:=Any.slices_Compact_string_empty Tryz.lays194 a cap w
open Go.RowKit Go.Sort in
theorem Tryz.slices_Sort_string_none(p:Option Addr)(cap:Nat)(w:World):
  Calls Tryz.prog 111 #[.slice p 0 cap] w fun e w'=>e= .returned (.tuple #[])/\w'=w:=Any.slices_Sort_string_none Tryz.lays190 p cap w
open Go.RowKit Go.Sort in
theorem Tryz.slices_Sort_int_none(p:Option Addr)(cap:Nat)(w:World):
  Calls Tryz.prog 185 #[.slice p 0 cap] w fun e w'=>e= .returned (.tuple #[])/\w'=w:=Any.slices_Sort_int_none Tryz.lays189 p cap w
def Tryz.lays196_ren:Go.Shelf.Ren:=⟨fun|196=>154|259=>208|n=>n,fun|9=>9|4=>4|3=>3|5=>5|12=>12|119=>260|0=>0|46=>36|139=>263|138=>262|53=>282|n=>n,fun|3=>3|4=>4|n=>n⟩
theorem Tryz.lays196:Go.Proofs.Lays.n196 Tryz.prog Tryz.lays196_ren:={
 mixed:=by kernel_rfl
 f196:=Tryz.func154.trans (congrArg some (by kernel_rfl))
 f259:=Tryz.func208.trans (congrArg some (by kernel_rfl))
 t0:=Tryz.underlying0
 a0:=Tryz.isAgg0
 z0:=Tryz.sizeOf0
 v0:=Tryz.zeroValue0
 t3:=Tryz.underlying3
 a3:=Tryz.isAgg3
 z3:=Tryz.sizeOf3
 v3:=Tryz.zeroValue3
 t4:=Tryz.underlying4
 a4:=Tryz.isAgg4
 z4:=Tryz.sizeOf4
 v4:=Tryz.zeroValue4
 t5:=Tryz.underlying5
 a5:=Tryz.isAgg5
 z5:=Tryz.sizeOf5
 v5:=Tryz.zeroValue5
 t9:=Tryz.underlying9
 a9:=Tryz.isAgg9
 z9:=Tryz.sizeOf9
 v9:=Tryz.zeroValue9
 t12:=Tryz.underlying12
 a12:=Tryz.isAgg12
 z12:=Tryz.sizeOf12
 v12:=Tryz.zeroValue12
 t46:=Tryz.underlying36
 a46:=Tryz.isAgg36
 z46:=Tryz.sizeOf36
 v46:=Tryz.zeroValue36
 t53:=Tryz.underlying282
 a53:=Tryz.isAgg282
 z53:=Tryz.sizeOf282
 v53:=Tryz.zeroValue282
 t119:=Tryz.underlying260
 a119:=Tryz.isAgg260
 z119:=Tryz.sizeOf260
 t138:=Tryz.underlying262
 a138:=Tryz.isAgg262
 z138:=Tryz.sizeOf262
 v138:=Tryz.zeroValue262
 t139:=Tryz.underlying263
 a139:=Tryz.isAgg263
 z139:=Tryz.sizeOf263
 v139:=Tryz.zeroValue263
 g3:=by kernel_rfl
 g4:=by kernel_rfl}
def Tryz.sorted114_ren:Go.Shelf.Ren:=⟨fun|6=>114|8=>173|9=>111|11=>227|13=>172|12=>171|23=>225|24=>226|14=>216|15=>217|16=>218|17=>219|18=>220|19=>221|20=>222|21=>223|22=>224|25=>246|26=>247|27=>248|28=>249|29=>250|30=>251|31=>280|n=>n,fun|26=>9|28=>180|24=>72|0=>0|3=>3|37=>36|48=>280|50=>282|4=>4|40=>273|39=>272|45=>194|5=>5|9=>9|51=>300|55=>267|57=>327|58=>249|33=>159|n=>n,fun|n=>n⟩
theorem Tryz.sorted114:Go.Proofs.SlLaysZ.n6 Tryz.prog Tryz.sorted114_ren:={
 mixed:=by kernel_rfl
 f6:=⟨Tryz.f114.name,by decide,Tryz.func114.trans (congrArg some (by kernel_rfl))⟩
 f8:=⟨Tryz.f173.name,by decide,Tryz.func173.trans (congrArg some (by kernel_rfl))⟩
 f11:=⟨Tryz.f227.name,by decide,Tryz.func227.trans (congrArg some (by kernel_rfl))⟩
 t0:=Tryz.underlying0
 a0:=Tryz.isAgg0
 z0:=Tryz.sizeOf0
 v0:=Tryz.zeroValue0
 t24:=Tryz.underlying72
 a24:=Tryz.isAgg72
 z24:=Tryz.sizeOf72
 v24:=Tryz.zeroValue72
 t26:=Tryz.underlying9
 a26:=Tryz.isAgg9
 z26:=Tryz.sizeOf9
 v26:=Tryz.zeroValue9
 t28:=Tryz.underlying180
 a28:=Tryz.isAgg180
 z28:=Tryz.sizeOf180
 v28:=Tryz.zeroValue180
 i26:=by kernel_rfl}
end Go.Proofs
end
noncomputable section
namespace Go.Fl
open Go Go.Proofs Go.RowKit Go.Maps Go.Sort Go.Shelf
variable {P:Program}{ρ:Ren}
def v7b(F:Fence)(n:Nat)(P:Program)(g:Nat)(lb:Array Value)(ss:List (List UInt8))(w:World):Prop:=
 ∀(l:Nat) (J:List (List UInt8)->World->Prop) (W:World),Below w.heap.size w W->AbidesFrom W.heap.size J->(∀pre W1,J pre W1->Below w.heap.size w W1)->
  (∀pre x W1,J pre W1->pre.length<ss.length->YieldAt F (n - 1) P l #[encStr x] W1 fun e W'=>e= .returned (.bool true)/\J (pre++[x]) W'/\KeepsWalks W1 W')->
  J [] W->CallsIn F n P g (#[.func (.yield l) #[] #[]]++lb) W fun e W'=>(∃v,e= .returned v)/\J ss W'
theorem w1o{W:World}{base j:Nat}{e:TypeId}{v:Value}{k:Nat}{xs:List Value}{o:Obj}(h:W.ownsRow base e 1 v k xs)(hj:W.heap[j]? =some o)(hno: ∀cur,o≠ .cells cur e (0,0))(o':Obj):(W.putObj j o').ownsRow base e 1 v k xs:=
 h.kept (grownBy_putObj_a W j o') (ownsRow_ne_a h hj hno)
set_option maxHeartbeats 2000000 in
theorem j78(L:SlLaysZ.n11 P ρ)(F:Fence)(n:Nat)(hf:F.fn (ρ.f 11))(hro:F.round=none)(hn:2<=n)(g:Nat)(lb:Array Value)(hg:F.fn g)(eg: ∀args w,(callFunc g args).run P w= .ok (.enter g args) w)
  (ss:List (List UInt8))(hN:ss.length<=maxLen)(hNb:ss.length*16<=140737488355328)(w:World)(hseq:v7b F (n - 1) P g lb ss w):
  CallsIn F n P (ρ.f 11) #[.slice none 0 0,.func (.func g) #[] lb] w fun e w'=> ∃v,e= .returned v/\w'.ownsRow w.heap.size (ρ.t 26) 1 v ss.length (ss.map encStr)/\Below w.heap.size w w':=by
 have mixed:=L.mixed;have t0:=L.t0;have a0:=L.a0;have z0:=L.z0;have v0:=L.v0;have t24:=L.t24;have a24:=L.a24;have z24:=L.z24;have v24:=L.v24;have t26:=L.t26;have a26:=L.a26;have z26:=L.z26;have v26:=L.v26;have u0:=run_underlying L.t0;have u24:=run_underlying L.t24;have u26:=run_underlying L.t26;have apart:ρ.t 24≠ρ.t 26:=fun e=>by have h:=L.t24;rw[e,L.t26] at h;cases h
 obtain⟨_,_,body⟩:=L.f11;refine callsIn_of_wp_marks body rfl hf ?_ hro;simp only[SlBodyZ.n11_ntmps ρ,List.size_toArray,List.length_cons,List.length_nil,Nat.reduceAdd,Nat.reduceSub,Array.replicate_succ,Array.replicate_zero,List.push_toArray,List.append_toArray,List.nil_append,List.cons_append]
 gi_wp2
 refine wpIn_rangeFunc fun fn hfn=> ?_
 rw[hro];generalize hA:w.alloc (.cells #[.slice none 0 0] (ρ.t 24))=A;have sA:A.heap.size=w.heap.size+1:=by rw[<-hA];simp
 have bA:Below w.heap.size w A:=by rw[<-hA];exact (Below.refl _ w).alloc (Nat.le_refl _) _
 have xA:A.heap[w.heap.size]? =some (.cells #[.slice none 0 0] (ρ.t 24) (0,0)):=by rw[<-hA];exact World.alloc_heap_new w _
 generalize hrec:AnyZ.apRec ρ fn (.func (.func g) #[] lb) w.heap.size A.heap.size .ready none=rec;generalize hB:(A.alloc (.deferred (some []))).alloc (.loop rec)=B;have oldB: ∀k,k<A.heap.size->B.heap[k]? =A.heap[k]? :=fun k hk=>by rw[<-hB];exact (Below.heap_alloc _ _ k (by simp;omega)).trans (Below.heap_alloc _ _ k hk)
 have bB:Below w.heap.size w B:=by rw[<-hB];exact (bA.alloc bA.size _).alloc (by have:=bA.size;simp;omega) _
 have dB:B.heap[A.heap.size]? =some (.deferred (some [])):=by rw[<-hB];exact (Below.heap_alloc _ _ _ (by simp)).trans (World.alloc_heap_new A _)
 have lB:B.heap[A.heap.size+1]? =some (.loop rec):=by rw[<-hB];have:=World.alloc_heap_new (A.alloc (.deferred (some []))) (.loop rec);rwa [World.size_alloc] at this
 have start:AnyZ.ApAt ρ w fn (.func (.func g) #[] lb) w.heap.size (A.heap.size+1) A.heap.size [] B:=
  ⟨⟨_,(oldB _ (by omega)).trans xA,⟨rfl,.inl ⟨rfl,rfl⟩⟩,by simp⟩,by rw[hrec];exact lB,dB,bB⟩
 refine⟨A.heap.size+1,[{target:= .collected A.heap.size,args:= #[]}],B,{target:= .fn (.func g) lb,args:= #[.func (.yield (A.heap.size+1)) #[] #[]]},B,g,#[.func (.yield (A.heap.size+1)) #[] #[]]++lb,B,?_,?_,?_,?_,fun _=>(by omega),?_⟩
 .rw[<-hB,<-hrec];exact run_enterLoop_outer _ _ _ _ _
 .simp[resolve,go_sem]
 .intro f' h';simp[Target.leads] at h';exact h'▸hg
 .simp[invoke,go_sem,eg]
 refine (hseq _ (AnyZ.ApAt ρ w fn (.func (.func g) #[] lb) w.heap.size (A.heap.size+1) A.heap.size) B bB (AnyZ.ap_abides ρ _ _ _ _ _ _ _ bB.size) (fun _ _ h=>h.below)
  (fun pre x W h hl=>AnyZ.apYield {L with} F _ w fn hfn _ _ _ _ (by omega) (by omega) (by omega) (Nat.le_refl _) (by omega) ss.length hN hNb pre x W h hl) start).mono ?_
 rintro e C ⟨⟨_,rfl⟩,hC⟩;obtain⟨v,hv,hrow,_⟩:=hC.box;have hend:=run_endLoop (P:=P) hC.L (by simp[AnyZ.apRec]);generalize hD:C.putObj (A.heap.size+1) (.loop {AnyZ.apRec ρ fn (.func (.func g) #[] lb) w.heap.size A.heap.size .ready none with state:= .exhausted})=D at hend;have rowD:D.ownsRow w.heap.size (ρ.t 26) 1 v ss.length (ss.map encStr):=by rw[<-hD];exact w1o hrow hC.L (fun _ h=>by cases h) _
 have boxD:D.heap[w.heap.size]? =some (.cells #[v] (ρ.t 24) (0,0)):=by rw[<-hD];exact (World.putObj_heap_other (by omega)).trans hv
 have defD:D.heap[A.heap.size]? =some (.deferred (some [])):=by rw[<-hD];exact (World.putObj_heap_other (by omega)).trans hC.K
 have belD:Below w.heap.size w D:=by rw[<-hD];exact hC.below.grown (grownBy_putObj_a _ _ _) hC.below.size (fun k h=>by cases h;omega)
 obtain⟨cellD,markD⟩:=cell_of_box_a boxD;clear hD;refine⟨none,D,hend,?_⟩
 gi_wp2
 rw[<-sA];refine⟨by simp,.inl ⟨_,_,rfl,run_takeDeferred defD,?_⟩⟩;exact⟨_,results_tmp rfl _ _ _,v,rfl,w1o rowD defD (fun _ h=>by cases h) _,belD.grown (grownBy_putObj_a _ _ _) belD.size (fun k h=>by cases h;omega)⟩
end Go.Fl
end
noncomputable section
namespace Go.Proofs.YtlmjknifmlifiaaGreatDoor
open Go Go.Proofs Go.RowKit Go.Fl Go.Maps Go.Sort Go.Shelf
attribute [local go_sem] Oper.semAt_some
set_option maxHeartbeats 2000000 in
theorem w85(n:Nat)(hn:1<=n)(w W:World)(l Bs b off cap:Nat)(zs:List (List UInt8))(hreach:zs.length<=140737488355328)(hBs:Bs<w.heap.size)(hb:b<w.heap.size)(J:List (List UInt8)->World->Prop)
  (hJ: ∀pre W1,J pre W1->Below w.heap.size w W1)(hc:w.cell? ⟨Bs,0,none⟩=some (.slice (some ⟨b,off,none⟩) zs.length cap))(hcs: ∀j,j<zs.length->w.cell? ⟨b,off+j,none⟩=some (encStr (zs[j]?.getD [])))
  (hY: ∀pre x W1,J pre W1->pre.length<zs.length->YieldAt Fence.wide (n - 1) Tryz.prog l #[encStr x] W1 fun e W'=>e= .returned (.bool true)/\J (pre++[x]) W'/\KeepsWalks W1 W')(h0:J [] W):
  CallsIn Fence.wide n Tryz.prog 174 #[.func (.yield l) #[] #[],.pointer (some ⟨Bs,0,none⟩)] W fun e W'=>(∃v,e= .returned v)/\J zs W':=by
 have hc0:=((hJ _ _ h0).cell (p:=⟨Bs,0,none⟩) hBs).trans hc;refine callsIn_of_wp Tryz.func174 rfl trivial ?_ rfl;simp only[Tryz.ntmps174,List.size_toArray,List.length_cons,List.length_nil,Nat.reduceAdd,Nat.reduceSub,Array.replicate_succ,Array.replicate_zero,List.push_toArray,List.append_toArray,List.nil_append,List.cons_append]
 gi_wp2
 gi_loopw [7] (fun i wr=> ∃k:Nat,k<=zs.length/\i= .int .i64 k/\J (zs.take k) wr) (fun i _=>zs.length - (intOf i).toNat)
 case atStart=>exact⟨0,Nat.zero_le _,rfl,h0⟩
 case round=>
  obtain⟨k,hk,rfl,hJk⟩:=hrel;by_cases hlt:k<zs.length
  .have hck:=((hJ _ _ hJk).cell (p:=⟨b,off+k,none⟩) hb).trans (hcs k hlt);obtain⟨fn,tmps,assign,body,hy,hR⟩:=hY _ zs[k] wr hJk (by rw[List.length_take];omega)
   gi_wp2
   refine hR.mono ?_;rintro e W3 ⟨rfl,hJ3,_⟩
   gi_wp2
   go_roundw
   case rel=>exact⟨k+1,by omega,by simp,by rw[List.take_succ_eq_append_getElem hlt];exact hJ3⟩
   case measure=>simp[intOf];omega
  .obtain rfl:k=zs.length:=by omega
   rw[List.take_length] at hJk
   gi_wp2
   go_end0
   exact⟨⟨_,rfl⟩,hJk⟩
set_option maxHeartbeats 2000000 in
theorem w86(n:Nat)(w W:World)(l Bs cap:Nat)(a:Option Addr)(hBs:Bs<w.heap.size)(J:List (List UInt8)->World->Prop)(hJ: ∀pre W1,J pre W1->Below w.heap.size w W1)(hc:w.cell? ⟨Bs,0,none⟩=some (.slice a 0 cap))(h0:J [] W):
  CallsIn Fence.wide n Tryz.prog 174 #[.func (.yield l) #[] #[],.pointer (some ⟨Bs,0,none⟩)] W fun e W'=>(∃v,e= .returned v)/\J [] W':=by
 have hc0:=((hJ _ _ h0).cell (p:=⟨Bs,0,none⟩) hBs).trans hc;refine callsIn_of_wp Tryz.func174 rfl trivial ?_ rfl;simp only[Tryz.ntmps174,List.size_toArray,List.length_cons,List.length_nil,Nat.reduceAdd,Nat.reduceSub,Array.replicate_succ,Array.replicate_zero,List.push_toArray,List.append_toArray,List.nil_append,List.cons_append]
 gi_wp2
 gi_loopw [7] (fun i wr=>i= .int .i64 0/\J [] wr) (fun _ _=>0)
 case atStart=>exact⟨rfl,h0⟩
 case round=>
  obtain⟨rfl,hJs⟩:=hrel
  gi_wp2
  go_end0
  exact⟨⟨_,rfl⟩,hJs⟩
theorem u0r{σ:Hv}{w:World}(Bs:Nat)(v:Value)(l:List BA)(hV:View σ w)(hB:σ Bs=some (.cells #[v] 72 (0,0)))(hr:RSl 1 (REnc Zh) σ v l)(hs:Sml l.length):
  Calls Tryz.prog 227 #[.slice none 0 0,.func (.func 174) #[] #[.pointer (some ⟨Bs,0,none⟩)]] w fun e w1=> ∃v1,e= .returned v1/\Grow [] σ w σ w1/\((vec v1 9 1 l.length (l.flatMap Zh)).ok w1/\∀k,(vec v1 9 1 l.length (l.flatMap Zh)).foot=some k->w.heap.size<=k/\σ k=none):=by
 have hBw:=hV _ _ hB;have hBl:=lt_of_block hBw;have hBc:w.cell? ⟨Bs,0,none⟩=some v:=by simp[World.cell?,hBw]
 have hlen:(l.map (·.data.toList)).length=l.length:=List.length_map _;have hgive:v7b Fence.wide 2 Tryz.prog 174 #[.pointer (some ⟨Bs,0,none⟩)] (l.map (·.data.toList)) w:=by
  intro lp J W _ _ hJB hY h0;obtain⟨a,cap,rfl,h1,h2,hel⟩:=hr;cases hl0:l with
  |nil=>
   subst hl0;exact w86 2 w W lp Bs cap a hBl J hJB hBc h0
  |cons x l'=>
   obtain⟨ad,cs,rfl,_,hrow0,hcs0⟩:=hel 0 x (by rw[hl0];rfl);have cell0:=(hrow0.row hV) 0 _ (by rw[hcs0];rfl);obtain⟨ab,ao,asp⟩:=ad;have hsp:asp=none:=by
    cases asp with
    |none=>rfl
    |some s=>
     have:=hrow0 0 (.string x) (by rw[hcs0];rfl);simp[Hv.cell,Addr.add] at this;split at this<;>simp at this
   subst hsp;have hbl:ab<w.heap.size:=by
    have:=hrow0 0 (.string x) (by rw[hcs0];rfl);simp only[Jq] at this;unfold Hv.cell at this;simp only at this;cases hq:σ ab with
    |none=>rw[hq] at this;simp at this
    |some o=>exact lt_of_block (hV _ _ hq)
   rw[<-hl0]
   have hcome:=w85 2 (by omega) w W lp Bs ab ao cap (l.map (·.data.toList)) (by rw[hlen];exact h2) hBl hbl J hJB (by rw[hlen];exact hBc) (fun j hj=>by
    rw[hlen] at hj;obtain⟨y,hy⟩:=getq hj;obtain⟨ad',cs',had,_,hrow,hcs⟩:=hel j y hy;cases had;have hc:=(hrow.row hV) 0 (.string y) (by rw[hcs];rfl);rw[q2i,Jq] at hc;rw[List.getElem?_map,hy]
    simpa [encStr] using hc) hY h0
   exact hcome
 refine (callsIn_wide (n:=3)).1 ((j78 (ρ:=Tryz.sorted114_ren) {Tryz.sorted114 with} Fence.wide 3 trivial rfl (by omega) 174 _ trivial (enters_of Tryz.func174 (by kernel_rfl) rfl) (l.map (·.data.toList)) (by rw[hlen];exact (z07 hs (show 16<=32768 by omega)).2) (by rw[hlen];exact (z07 hs (by omega)).1) w hgive).mono ?_);rintro e w1 ⟨v1,rfl,hown,hbel⟩;rw[hlen] at hown;have hfl:(l.map (·.data.toList)).map encStr=l.flatMap Zh:=(q7y l).symm;rw[hfl] at hown;have hsame: ∀b,b<w.heap.size->w1.heap[b]? =w.heap[b]? :=fun b hb=>hbel.block b hb
 refine⟨v1,rfl,⟨⟨hbel.os,hbel.tape,hbel.output,hbel.size,fun k hk _=>hbel.block k hk⟩,fun b o hb=>(hbel.block b (lt_of_block (hV b o hb))).trans (hV b o hb),.refl _,fun _ _ _=>rfl⟩,?_,?_⟩
 .exact⟨hown.1,hown.2.imp id fun ⟨g,cap,cur,e1,_,e3⟩=>⟨g,cap,cur,e1,Nat.zero_le _,e3⟩⟩
 .intro k hk;have hge:w.heap.size<=k:=(hown.lt k hk).1;refine⟨hge,?_⟩;cases hq:σ k with
  |none=>rfl
  |some o=>have:=lt_of_block (hV k o hq);omega
end Go.Proofs.YtlmjknifmlifiaaGreatDoor
end
noncomputable section
namespace Go.Proofs.YtlmjknifmlifiaaGreatDoor
open Go Go.Proofs Go.RowKit Go.Fl
set_option maxHeartbeats 2000000 in
theorem w27{σ:Hv}{w:World}(edges_p:(List (BA×BA)))(v1:Value){K:(BA->Option (List BA))->Prop}(hV:View σ w)(hr1:RSl 2 (REnc y36) σ v1 edges_p)(hP:B3 edges_p K):
    Calls Tryz.prog 113 #[v1] w (fun e w1=> ∃(r1:(BA->Option (List BA))) (v2:Value) (σ1:Hv),e= .returned v2/\Grow [] σ w σ1 w1/\RMp (RSl 1 (REnc Zh)) σ1 v2 r1/\K r1):=by
 unfold B3 at hP;obtain⟨a1,cap1,rfl⟩:=hr1.shape;refine enter Tryz.func113 rfl rfl rfl ?_;have hS:=St.start hV;refine Qz (Q8 (v:=(.map none)) rfl (wpList_nil (Qp (Qz (v2o 9 1 Zh hS ?_)))));intro b1 w1 hS1;refine Q8 (v:=(.map (some b1))) rfl (wpList_nil (Qp (wp_seq (Qz (Qv (v:=(.slice a1 edges_p.length cap1)) rfl (q73 rfl Tryz.underlying113 ?_))))));have hlen1:=RSl.len63 hr1
 replace hP:=hP hlen1
 refine Qv (v:=(.int .i64 (0:Int))) rfl (wpList_nil (Qp (wp_block ?_)));refine w2g (fun k_3 F_2 f z=> ∃(es2:EL BA) (σ1:Hv) (g:Fr),f=(upd (upd (upd (upd g 3 (.map (some b1))) 7 (.slice a1 edges_p.length cap1)) 8 (.int .i64 ((edges_p.length:Nat):Int))) 9 (.int .i64 ((k_3:Nat):Int)))/\St ⟨w,σ,[]⟩ z σ1 (smap b1 (asl es2)::q2m 9 1 Zh es2)/\Sub σ σ1/\ELF es2 F_2) hP ⟨[],σ,_,(Qq rfl (Qq rfl (Qq rfl (Qq rfl rfl)))),hS1,(Sub.refl _),ELF.nil⟩ ?_;clear hP;rintro k_3 F_2 Y1 hP f w2 ⟨es2,σ1,g,rfl,hS2,hsub1,hF2⟩;refine Qz (w45 (r:=(decide (((k_3:Nat):Int)<((edges_p.length:Nat):Int)))) rfl rfl rfl (wpList_nil (Qp (wp_seq ?_))));refine if_d (((k_3:Nat):Int)<((edges_p.length:Nat):Int)) rfl (fun ht1=> ?_) (fun ht1=> ?_)
 .
  replace hP:=hP.1 ht1
  refine wp_skip (Qp (wp_seq (wp_block (Qz ?_))));obtain⟨x1_,hx1⟩:=getq (l:=edges_p) (k:=k_3) (by have:=ht1;omega)
  replace hP:=hP x1_ hx1
  obtain⟨ad1,cs1,ha1,hl1,hr3,hR1,hlt1⟩:=RSl.at hr1 hx1;cases hR1;refine Up (k:=k_3) (a':=(ad1.add (k_3*2))) (congrArg (fun z=>Value.slice z _ _) ha1) rfl rfl hlt1 Tryz.underlying113 Tryz.sizeOf118 rfl (w79 (cs:=[(.string x1_.1),(.string x1_.2)]) rfl Tryz.isAgg118 Tryz.sizeOf118 rfl (hr3.row (View.of hsub1 hS2.view)) (z84 (cs:=[(.string (⟨#[]⟩:BA)),(.string (⟨#[]⟩:BA))]) hS2 Tryz.zeroValue118 rfl ?_));intro b2 w3 hS3;refine z4u (T:=118) (vs:=[(.string x1_.1),(.string x1_.2)]) (cs':=[(.string x1_.1),(.string x1_.2)]) (ms':=(blk b2 118 [(.string x1_.1),(.string x1_.2)]::smap b1 (asl es2)::q2m 9 1 Zh es2)) (i:=0) hS3 rfl rfl rfl Tryz.sizeOf118 rfl (ones rfl) rfl (Nat.le_of_ble_eq_true rfl) rfl rfl ?_;intro w4 hS4;refine wpList_nil (Qp (dr (fun z=>St ⟨w,σ,[]⟩ z σ1 [blk b2 118 [(.string x1_.1),(.string x1_.2)]]) (by kernel_rfl) rfl ?_));have hS5:=hS4.drew;refine dt 0 1 (v:=(.map (some b1))) (by kernel_rfl) rfl rfl (fun _ _ _ h=>h) (hS5.sublist (.cons_cons _ (List.nil_sublist _))) (fun _ _ _ hK=>Qv (v:=(.map (some b1))) rfl ⟨rfl,hK⟩) (dt 1 3 (v:=(.pointer (some ⟨b2,0,none⟩))) (by kernel_rfl) rfl rfl (fun _ _ _ h=>h) (hS5.sublist (.cons_cons _ (List.nil_sublist _))) (fun _ _ _ hK=>z83 (a':=⟨b2,0,none⟩) rfl Tryz.underlying118 rfl Tryz.sizeOf9 rfl ⟨rfl,hK⟩) (dt 2 7 (v:=(.string x1_.1)) (by kernel_rfl) rfl rfl (fun _ _ _ h=>h) (hS5.sublist (.cons_cons _ (List.nil_sublist _))) (fun _ hJ _ hK=>q74 (v:=(.string x1_.1)) rfl Tryz.isAgg9 (hJ.cell (i:=0) rfl rfl) ⟨rfl,hK⟩) (dt 3 15 (v:=(.map (some b1))) (by kernel_rfl) rfl rfl (fun _ _ _ h=>h) (hS5.sublist (.cons_cons _ (List.nil_sublist _))) (fun _ _ _ hK=>Qv (v:=(.map (some b1))) rfl ⟨rfl,hK⟩) (dt 4 31 (v:=(.pointer (some ⟨b2,0,none⟩))) (by kernel_rfl) rfl rfl (fun _ _ _ h=>h) (hS5.sublist (.cons_cons _ (List.nil_sublist _))) (fun _ _ _ hK=>z83 (a':=⟨b2,0,none⟩) rfl Tryz.underlying118 rfl Tryz.sizeOf9 rfl ⟨rfl,hK⟩) (dt 5 63 (v:=(.string x1_.1)) (by kernel_rfl) rfl rfl (fun _ _ _ h=>h) (hS5.sublist (.cons_cons _ (List.nil_sublist _))) (fun _ hJ _ hK=>q74 (v:=(.string x1_.1)) rfl Tryz.isAgg9 (hJ.cell (i:=0) rfl rfl) ⟨rfl,hK⟩) (dt 7 191 (v:=(.pointer (some ⟨b2,1,none⟩))) (by kernel_rfl) rfl rfl (fun _ _ _ h=>h) (hS5.sublist (.cons_cons _ (List.nil_sublist _))) (fun _ _ _ hK=>z83 (a':=⟨b2,1,none⟩) rfl Tryz.underlying118 rfl Tryz.sizeOf9 rfl ⟨rfl,hK⟩) (dt 8 447 (v:=(.string x1_.2)) (by kernel_rfl) rfl rfl (fun _ _ _ h=>h) (hS5.sublist (.cons_cons _ (List.nil_sublist _))) (fun _ hJ _ hK=>q74 (v:=(.string x1_.2)) rfl Tryz.isAgg9 (hJ.cell (i:=0) rfl rfl) ⟨rfl,hK⟩) ?_)))))));refine d2 6 9 511 959 (by kernel_rfl) rfl rfl rfl rfl ?_ ?_
  .
   obtain⟨v3,hv1⟩: ∃v,(asl es2 x1_.1).getD (.slice none 0 0)=v:=⟨_,rfl⟩;refine v5d (i:=1) (v:=v3) hS5 rfl rfl rfl Tryz.underlying176 Tryz.underlying9 Tryz.zeroValue72 hv1 (wpList_nil ?_);refine⟨rfl,(hS5.sublist (.cons_cons _ (List.nil_sublist _))),?_⟩;refine d1 9 1023 (by kernel_rfl) rfl (q6r (cs:=[(.string x1_.2)]) (e:=9) hS5 (fun _=>by kernel_rfl) ?_);intro b3 w5 hS6;refine wpList_nil ?_;refine⟨rfl,(hS6.sublist (.cons _ (.cons_cons _ (List.nil_sublist _)))),?_⟩;refine d1 10 2047 (by kernel_rfl) rfl ?_;obtain⟨es3,hS7,hL1,hl2⟩:=St.borrow (ms:=[blk b3 9 [(.string x1_.2)],blk b2 118 [(.string x1_.1),(.string x1_.2)],smap b1 (asl es2)]) hS6 hF2 x1_.1 hv1;obtain⟨hsm1,hP⟩:=hP;refine v9v (Ms:=fun v4=>(vec v4 9 1 ((((F_2 x1_.1).getD [])++[x1_.2]).length) ((((F_2 x1_.1).getD [])++[x1_.2]).flatMap Zh)::blk b3 9 [(.string x1_.2)]::blk b2 118 [(.string x1_.1),(.string x1_.2)]::smap b1 (asl es2)::q2m 9 1 Zh es3)) (k':=(((F_2 x1_.1).getD [])++[x1_.2]).length) (xs':=(((F_2 x1_.1).getD [])++[x1_.2]).flatMap Zh) Tryz.underlying72 Tryz.type9 rfl rfl (bytes:=16) rfl rfl (Nat.succ_pos _) hS7 rfl (q:=0) rfl rfl rfl (q2j (hS7.get (i:=1) rfl)) (ones rfl) hsm1 (by omega) (by first|rfl|exact List.length_append.symm|simp) (by simp[Zh]) (fun _=>rfl) ?_;intro v4 w6 ho1 hS8;have hS9:=hS8.drop 1 (ms':=(vec v4 9 1 ((((F_2 x1_.1).getD [])++[x1_.2]).length) ((((F_2 x1_.1).getD [])++[x1_.2]).flatMap Zh)::blk b2 118 [(.string x1_.1),(.string x1_.2)]::smap b1 (asl es2)::q2m 9 1 Zh es3)) rfl;refine wpList_nil ?_;refine⟨rfl,(hS9.sublist (.cons _ (.cons_cons _ (List.nil_sublist _)))),?_⟩;refine d1 11 4095 (by kernel_rfl) rfl (y33 (v:=v4) (i:=2) (ms':=(vec v4 9 1 ((((F_2 x1_.1).getD [])++[x1_.2]).length) ((((F_2 x1_.1).getD [])++[x1_.2]).flatMap Zh)::blk b2 118 [(.string x1_.1),(.string x1_.2)]::smap b1 (fun k'=>if k'=x1_.1 then some v4 else asl es2 k')::q2m 9 1 Zh es3)) hS9 rfl rfl rfl rfl Tryz.underlying176 Tryz.underlying9 rfl ?_);intro w7 hS10;have hS12:=St.giveback (ms:=[blk b2 118 [(.string x1_.1),(.string x1_.2)],smap b1 (fun k'=>if k'=x1_.1 then some v4 else asl es2 k')]) (ms':=[blk b2 118 [(.string x1_.1),(.string x1_.2)],smap b1 (asl ((x1_.1,v4,((F_2 x1_.1).getD [])++[x1_.2])::es3))]) (i:=1) hS10 hL1 rfl rfl;have hF3:=ELF.put (v:=v4) hF2 hL1 hsm1;refine wpList_nil ?_;refine⟨rfl,(hS12.sublist (.cons_cons _ (List.nil_sublist _))),w2d (J':=fun z=>St ⟨w,σ,[]⟩ z σ1 (blk b2 118 [(.string x1_.1),(.string x1_.2)]::smap b1 (asl ((x1_.1,v4,((F_2 x1_.1).getD [])++[x1_.2])::es3))::q2m 9 1 Zh ((x1_.1,v4,((F_2 x1_.1).getD [])++[x1_.2])::es3))) (fun w h=>h.sublist (.cons_cons _ (List.nil_sublist _))) _ _ _ _ ?_⟩;refine dz (by kernel_rfl) (j0h (Qp (Ge (z2c (r:=((k_3+1:Nat):Int)) rfl rfl (nw (by omega) (by omega) (by have:=hlen1;omega)) (Qv (v:=(.int .i64 ((k_3+1:Nat):Int))) rfl (wpList_nil (Qp ?_)))))));exact⟨k_3+1,(put F_2 x1_.1 (((F_2 x1_.1).getD [])++[x1_.2])),_,rfl,hP,((x1_.1,v4,((F_2 x1_.1).getD [])++[x1_.2])::es3),σ1,_,(Qq rfl (Qq rfl (Qq rfl (Qq rfl rfl)))),(hS12.sublist (ms':=(smap b1 (asl ((x1_.1,v4,((F_2 x1_.1).getD [])++[x1_.2])::es3))::q2m 9 1 Zh ((x1_.1,v4,((F_2 x1_.1).getD [])++[x1_.2])::es3))) (.cons _ (List.Sublist.refl _))),hsub1,hF3⟩
  .
   refine q6r (cs:=[(.string x1_.2)]) (e:=9) hS5 (fun _=>by kernel_rfl) ?_;intro b3 w5 hS6;refine wpList_nil ?_;refine⟨rfl,(hS6.sublist (.cons _ (.cons_cons _ (List.nil_sublist _)))),?_⟩;refine d1 6 1023 (by kernel_rfl) rfl ?_;obtain⟨v3,hv1⟩: ∃v,(asl es2 x1_.1).getD (.slice none 0 0)=v:=⟨_,rfl⟩;refine v5d (i:=2) (v:=v3) hS6 rfl rfl rfl Tryz.underlying176 Tryz.underlying9 Tryz.zeroValue72 hv1 (wpList_nil ?_);refine⟨rfl,(hS6.sublist (.cons _ (.cons_cons _ (List.nil_sublist _)))),?_⟩;refine d1 10 2047 (by kernel_rfl) rfl ?_;obtain⟨es3,hS7,hL1,hl2⟩:=St.borrow (ms:=[blk b3 9 [(.string x1_.2)],blk b2 118 [(.string x1_.1),(.string x1_.2)],smap b1 (asl es2)]) hS6 hF2 x1_.1 hv1;obtain⟨hsm1,hP⟩:=hP;refine v9v (Ms:=fun v4=>(vec v4 9 1 ((((F_2 x1_.1).getD [])++[x1_.2]).length) ((((F_2 x1_.1).getD [])++[x1_.2]).flatMap Zh)::blk b3 9 [(.string x1_.2)]::blk b2 118 [(.string x1_.1),(.string x1_.2)]::smap b1 (asl es2)::q2m 9 1 Zh es3)) (k':=(((F_2 x1_.1).getD [])++[x1_.2]).length) (xs':=(((F_2 x1_.1).getD [])++[x1_.2]).flatMap Zh) Tryz.underlying72 Tryz.type9 rfl rfl (bytes:=16) rfl rfl (Nat.succ_pos _) hS7 rfl (q:=0) rfl rfl rfl (q2j (hS7.get (i:=1) rfl)) (ones rfl) hsm1 (by omega) (by first|rfl|exact List.length_append.symm|simp) (by simp[Zh]) (fun _=>rfl) ?_;intro v4 w6 ho1 hS8;have hS9:=hS8.drop 1 (ms':=(vec v4 9 1 ((((F_2 x1_.1).getD [])++[x1_.2]).length) ((((F_2 x1_.1).getD [])++[x1_.2]).flatMap Zh)::blk b2 118 [(.string x1_.1),(.string x1_.2)]::smap b1 (asl es2)::q2m 9 1 Zh es3)) rfl;refine wpList_nil ?_;refine⟨rfl,(hS9.sublist (.cons _ (.cons_cons _ (List.nil_sublist _)))),?_⟩;refine d1 11 4095 (by kernel_rfl) rfl (y33 (v:=v4) (i:=2) (ms':=(vec v4 9 1 ((((F_2 x1_.1).getD [])++[x1_.2]).length) ((((F_2 x1_.1).getD [])++[x1_.2]).flatMap Zh)::blk b2 118 [(.string x1_.1),(.string x1_.2)]::smap b1 (fun k'=>if k'=x1_.1 then some v4 else asl es2 k')::q2m 9 1 Zh es3)) hS9 rfl rfl rfl rfl Tryz.underlying176 Tryz.underlying9 rfl ?_);intro w7 hS10;have hS12:=St.giveback (ms:=[blk b2 118 [(.string x1_.1),(.string x1_.2)],smap b1 (fun k'=>if k'=x1_.1 then some v4 else asl es2 k')]) (ms':=[blk b2 118 [(.string x1_.1),(.string x1_.2)],smap b1 (asl ((x1_.1,v4,((F_2 x1_.1).getD [])++[x1_.2])::es3))]) (i:=1) hS10 hL1 rfl rfl;have hF3:=ELF.put (v:=v4) hF2 hL1 hsm1;refine wpList_nil ?_;refine⟨rfl,(hS12.sublist (.cons_cons _ (List.nil_sublist _))),w2d (J':=fun z=>St ⟨w,σ,[]⟩ z σ1 (blk b2 118 [(.string x1_.1),(.string x1_.2)]::smap b1 (asl ((x1_.1,v4,((F_2 x1_.1).getD [])++[x1_.2])::es3))::q2m 9 1 Zh ((x1_.1,v4,((F_2 x1_.1).getD [])++[x1_.2])::es3))) (fun w h=>h.sublist (.cons_cons _ (List.nil_sublist _))) _ _ _ _ ?_⟩;refine dz (by kernel_rfl) (j0h (Qp (Ge (z2c (r:=((k_3+1:Nat):Int)) rfl rfl (nw (by omega) (by omega) (by have:=hlen1;omega)) (Qv (v:=(.int .i64 ((k_3+1:Nat):Int))) rfl (wpList_nil (Qp ?_)))))));exact⟨k_3+1,(put F_2 x1_.1 (((F_2 x1_.1).getD [])++[x1_.2])),_,rfl,hP,((x1_.1,v4,((F_2 x1_.1).getD [])++[x1_.2])::es3),σ1,_,(Qq rfl (Qq rfl (Qq rfl (Qq rfl rfl)))),(hS12.sublist (ms':=(smap b1 (asl ((x1_.1,v4,((F_2 x1_.1).getD [])++[x1_.2])::es3))::q2m 9 1 Zh ((x1_.1,v4,((F_2 x1_.1).getD [])++[x1_.2])::es3))) (.cons _ (List.Sublist.refl _))),hsub1,hF3⟩
 .
  replace hP:=hP.2 ht1
  refine wp_exit (q5i (q5i (z2d (Qp (Qz (Qv (v:=(.map (some b1))) rfl (Q8 (v:=(.map (some b1))) rfl (wpList_nil (Qp (wp_ret (ret1 rfl (show ev _ _ _=(.map (some b1)) from rfl) ?_)))))))))));obtain⟨σ2,hS13,hsub2,hr4⟩:=St.freezeL (ms:=[smap b1 (asl es2)]) (ms':=[]) (i:=0) hS2 hF2 j0n rfl rfl;exact⟨F_2,(.map (some b1)),σ2,rfl,hS13.done,hr4,hP⟩
set_option maxHeartbeats 2000000 in
theorem w28{σ:Hv}{w:World}(needs_p:(BA->Option (List BA)))(node_p:BA)(v1:Value){K:(BA->Option Bool)->Prop}(hV:View σ w)(hr1:RMp (RSl 1 (REnc Zh)) σ v1 needs_p)(hP:q2q needs_p node_p K):
    Calls Tryz.prog 116 #[v1,(.string node_p)] w (fun e w1=> ∃(r1:(BA->Option Bool)) (b1:Nat),e= .returned (.map (some b1))/\St ⟨w,σ,[]⟩ w1 σ [emap b1 (fun y:Bool=>(Value.bool (y))) r1]/\K r1):=by
 unfold q2q at hP;obtain⟨b2,rfl⟩:=hr1.shape;refine enter Tryz.func116 rfl rfl rfl ?_;have hS:=St.start hV;refine Qz (Q8 (v:=(.map none)) rfl (wpList_nil (Qp (Qz (y34 (fun y:Bool=>(Value.bool (y))) hS ?_)))));intro b3 w1 hS1;refine Q8 (v:=(.map (some b3))) rfl (wpList_nil (Qp (Qz (Qv (v:=(.string node_p)) rfl (q6r (cs:=[(.string node_p)]) (e:=9) hS1 (fun _=>by kernel_rfl) ?_)))));intro b4 w2 hS2;refine Q8 (v:=(.slice (some ⟨b4,0,none⟩) 1 1)) rfl (wpList_nil (Qp (wp_seq (wp_block ?_))));have hS3:=hS2.asVec (i:=0) (ms':=[vec (.slice (some ⟨b4,0,none⟩) 1 1) 9 1 1 (([node_p]).flatMap Zh),emap b3 (fun y:Bool=>(Value.bool (y))) (fun _=>none)]) (size:=1) rfl rfl (by unfold maxLen;omega) rfl;refine w2g (fun open_3 F_2 f z=> ∃(v4:Value) (σ1:Hv) (g:Fr),f=(upd (upd (upd g 0 (.map (some b2))) 5 (.map (some b3))) 6 v4)/\St ⟨w,σ,[]⟩ z σ1 [vec v4 9 1 open_3.length ((open_3).flatMap Zh),emap b3 (fun y:Bool=>(Value.bool (y))) F_2]/\Sub σ σ1/\v4.oneCell'=true/\Sml open_3.length) hP ⟨(.slice (some ⟨b4,0,none⟩) 1 1),σ,_,(Qq rfl (Qq rfl (Qq rfl rfl))),hS3,(Sub.refl _),rfl,(by simp[Sml])⟩ ?_;clear hP;rintro open_3 F_2 Y1 hP f w3 ⟨v4,σ1,g,rfl,hS4,hsub1,ho3,hl3⟩;refine wp_seq (Qz (Qv (v:=v4) rfl (z4v hS4 rfl (i:=0) rfl Tryz.underlying72 ?_)));have hlen1:open_3.length<=9223372036854775807:=by have:=hl3;unfold Sml at this;omega
 replace hP:=hP hlen1
 refine y3w (r:=(decide ((0:Int)<((open_3.length:Nat):Int)))) rfl rfl rfl (wpList_nil (Qp ?_));refine if_d ((0:Int)<((open_3.length:Nat):Int)) rfl (fun ht1=> ?_) (fun ht1=> ?_)
 .
  replace hP:=hP.1 ht1
  refine wp_skip (Qp (wp_block (Qz (Qv (v:=v4) rfl (Qv (v:=v4) rfl (z4v hS4 rfl (i:=0) rfl Tryz.underlying72 ?_))))));obtain⟨hi1,hP⟩:=hP;refine v42 (r:=(((open_3.length:Nat):Int) - (1:Int))) rfl rfl (nwi rfl hi1) ?_;obtain⟨j1_,hj1,hP⟩:=hP;obtain⟨x1_,hx1,hP⟩:=hP;obtain⟨g1,cp1,hv1⟩:=v05 (hS4.get (i:=0) rfl) (Qj hx1);refine Up (k:=j1_) (a':=⟨g1,j1_*1,none⟩) hv1 rfl hj1 (Qj hx1) Tryz.underlying72 Tryz.sizeOf9 (by simp[Jq]) (q74 (v:=(.string x1_)) rfl Tryz.isAgg9 (w5b j0n (j:=0) hv1 (hS4.get (i:=0) rfl) hx1 rfl) (Q8 (v:=(.string x1_)) rfl (wpList_nil (Qp (Qz (Qv (v:=v4) rfl (Qv (v:=v4) rfl (z4v hS4 rfl (i:=0) rfl Tryz.underlying72 ?_))))))));obtain⟨hi2,hP⟩:=hP;refine v42 (r:=(((open_3.length:Nat):Int) - (1:Int))) rfl rfl (nwi rfl hi2) ?_;obtain⟨j2_,hj2,hP⟩:=hP;obtain⟨hle1,hP⟩:=hP;obtain⟨a1,cap1,hv2,hv2c⟩:=j6g (hS4.get (i:=0) rfl);subst hv2;refine v9o (r:=j2_) rfl Tryz.underlying72 Tryz.sizeOf9 (congrArg (Value.int .i64) hj2) (by omega) ?_;have hS5:=St.cut (ms':=[vec (.slice a1 j2_ cap1) 9 1 ((open_3.take j2_).length) (((open_3.take j2_)).flatMap Zh),emap b3 (fun y:Bool=>(Value.bool (y))) F_2]) (i:=0) hS4 rfl j0n hle1 rfl;refine Q8 (v:=(.slice a1 j2_ cap1)) rfl (wpList_nil (Qp (Qz (Qv (v:=(.map (some b2))) rfl (Qv (v:=(.string x1_)) rfl ?_)))));obtain⟨v5,hl4,hz1⟩:=RMp.at (z:= .slice none 0 0) (z0:=[]) RSl.nil hr1 x1_;obtain⟨a2,cap2,rfl⟩:=hz1.shape;refine y37 (v:=(.slice a2 ((needs_p x1_).getD []).length cap2)) hl4 (View.of hsub1 hS5.view) rfl rfl Tryz.underlying176 Tryz.underlying9 Tryz.zeroValue72 (q73 rfl Tryz.underlying72 ?_);have hlen4:=RSl.len63 hz1
  replace hP:=hP hlen4
  refine Qv (v:=(.int .i64 (0:Int))) rfl (wpList_nil (Qp (wp_block ?_)));refine v9u (fun open_6 k_3 F_4 f z=> ∃(v8:Value) (σ2:Hv) (g:Fr),f=(upd (upd (upd (upd (upd (upd g 0 (.map (some b2))) 5 (.map (some b3))) 6 v8) 29 (.slice a2 ((needs_p x1_).getD []).length cap2)) 30 (.int .i64 ((((needs_p x1_).getD []).length:Nat):Int))) 31 (.int .i64 ((k_3:Nat):Int)))/\St ⟨w,σ,[]⟩ z σ2 [vec v8 9 1 open_6.length ((open_6).flatMap Zh),emap b3 (fun y:Bool=>(Value.bool (y))) F_4]/\Sub σ1 σ2/\v8.oneCell'=true/\Sml open_6.length) hP ⟨(.slice a1 j2_ cap1),σ1,_,(Qq rfl (Qq rfl (Qq rfl (Qq rfl (Qq rfl (Qq rfl rfl)))))),hS5,(Sub.refl _),rfl,(v9w hl3)⟩ ?_;clear hP;rintro open_6 k_3 F_4 Y2 hP f w4 ⟨v8,σ2,g,rfl,hS6,hsub2,ho6,hl7⟩;refine Qz (w45 (r:=(decide (((k_3:Nat):Int)<((((needs_p x1_).getD []).length:Nat):Int)))) rfl rfl rfl (wpList_nil (Qp (wp_seq ?_))));refine if_d (((k_3:Nat):Int)<((((needs_p x1_).getD []).length:Nat):Int)) rfl (fun ht2=> ?_) (fun ht2=> ?_)
  .
   replace hP:=hP.1 ht2
   refine wp_skip (Qp (wp_seq (wp_block (Qz ?_))));obtain⟨x2_,hx2⟩:=getq (l:=((needs_p x1_).getD [])) (k:=k_3) (by have:=ht2;omega)
   replace hP:=hP x2_ hx2
   obtain⟨ad1,cs1,ha1,hl8,hr2,hR1,hlt1⟩:=RSl.at hz1 hx2;cases hR1;refine Up (k:=k_3) (a':=(ad1.add (k_3*1))) (congrArg (fun z=>Value.slice z _ _) ha1) rfl rfl hlt1 Tryz.underlying72 Tryz.sizeOf9 rfl (q74 (v:=(.string x2_)) rfl Tryz.isAgg9 (hr2.cell (View.of (Sub.trans hsub1 hsub2) hS6.view) 0 rfl rfl) (Q8 (v:=(.string x2_)) rfl (wpList_nil (Qp (Qz (Qv (v:=(.map (some b3))) rfl (Qv (v:=(.string x2_)) rfl (v5e (v:=(.bool (((F_4 x2_).getD false)))) (i:=1) hS6 rfl rfl rfl Tryz.underlying182 Tryz.underlying9 Tryz.zeroValue4 (v04 (fun y:Bool=>(Value.bool (y))) _ rfl) (y7j (r:=(!((F_4 x2_).getD false))) rfl rfl (wpList_nil (Qp ?_)))))))))));refine y7k rfl (fun ht3=> ?_) (fun ht3=> ?_)
   .
    replace hP:=hP.2 (by first|(rw[ht3];exact Bool.false_ne_true)|simp[ht3])
    refine Qz (Qv (v:=(.map (some b3))) rfl (Qv (v:=(.string x2_)) rfl (y7o (y0:=true) (i:=1) (ms':=[vec v8 9 1 open_6.length ((open_6).flatMap Zh),emap b3 (fun y:Bool=>(Value.bool (y))) (put F_4 x2_ true)]) hS6 rfl rfl rfl rfl Tryz.underlying182 Tryz.underlying9 rfl ?_)));intro w5 hS7;refine wpList_nil (Qp (Ge (Qv (v:=v8) rfl (Qv (v:=(.string x2_)) rfl (q6r (cs:=[(.string x2_)]) (e:=9) hS7 (fun _=>by kernel_rfl) ?_)))));intro b5 w6 hS8;obtain⟨hsm1,hP⟩:=hP;refine v9v (Ms:=fun v9=>[blk b5 9 [(.string x2_)],vec v9 9 1 ((open_6++[x2_]).length) ((open_6++[x2_]).flatMap Zh),emap b3 (fun y:Bool=>(Value.bool (y))) (put F_4 x2_ true)]) (k':=(open_6++[x2_]).length) (xs':=(open_6++[x2_]).flatMap Zh) Tryz.underlying72 Tryz.type9 rfl rfl (bytes:=16) rfl rfl (Nat.succ_pos _) hS8 rfl (q:=1) rfl rfl rfl (q2j (hS8.get (i:=0) rfl)) (ones rfl) hsm1 (by omega) (by first|rfl|exact List.length_append.symm|simp) (by simp[Zh]) (fun _=>rfl) ?_;intro v9 w7 ho7 hS9;have hS10:=hS9.drop 0 (ms':=[vec v9 9 1 ((open_6++[x2_]).length) ((open_6++[x2_]).flatMap Zh),emap b3 (fun y:Bool=>(Value.bool (y))) (put F_4 x2_ true)]) rfl;refine Q8 (v:=v9) rfl (wpList_nil (j0h (Qp (Ge (z2c (r:=((k_3+1:Nat):Int)) rfl rfl (nw (by omega) (by omega) (by have:=hlen4;omega)) (Qv (v:=(.int .i64 ((k_3+1:Nat):Int))) rfl (wpList_nil (Qp ?_))))))));exact⟨open_6++[x2_],k_3+1,put F_4 x2_ true,_,rfl,hP,v9,σ2,_,(Qq rfl (Qq rfl (Qq rfl (Qq rfl (Qq rfl (Qq rfl rfl)))))),hS10,hsub2,ho7,hsm1⟩
   .
    replace hP:=hP.1 ht3
    refine wp_skip (j0h (Qp (Ge (z2c (r:=((k_3+1:Nat):Int)) rfl rfl (nw (by omega) (by omega) (by have:=hlen4;omega)) (Qv (v:=(.int .i64 ((k_3+1:Nat):Int))) rfl (wpList_nil (Qp ?_)))))));exact⟨open_6,k_3+1,F_4,_,rfl,hP,v8,σ2,_,(Qq rfl (Qq rfl (Qq rfl (Qq rfl (Qq rfl (Qq rfl rfl)))))),hS6,hsub2,ho6,hl7⟩
  .
   replace hP:=hP.2 ht2
   refine wp_exit (q5i (q5i (z2d (j0h (Qp ?_)))));exact⟨open_6,F_4,_,rfl,hP,v8,σ2,_,(Qq rfl (Qq rfl (Qq rfl rfl))),hS6,(Sub.trans hsub1 hsub2),ho6,hl7⟩
 .
  replace hP:=hP.2 ht1
  refine wp_exit (q5i (q5i (z2d (Qp (Qz (Qv (v:=(.map (some b3))) rfl (Q8 (v:=(.map (some b3))) rfl (wpList_nil (Qp (wp_ret (ret1 rfl (show ev _ _ _=(.map (some b3)) from rfl) ?_)))))))))));have hS11:=hS4.front 1 rfl (ms':=[emap b3 (fun y:Bool=>(Value.bool (y))) F_2,vec v4 9 1 open_3.length ((open_3).flatMap Zh)]) rfl;exact⟨F_2,b3,rfl,(St.back (hS11.keep 1 (ms':=[emap b3 (fun y:Bool=>(Value.bool (y))) F_2]) rfl) (Sub.refl _)),hP⟩
set_option maxHeartbeats 2000000 in
theorem w_graph_Cyclic{σ:Hv}{w:World}(nodes_p:(List BA))(edges_p:(List (BA×BA)))(v1:Value)(v2:Value){K:(List BA)->Prop}(hV:View σ w)(hr1:RSl 1 (REnc Zh) σ v1 nodes_p)(hr2:RSl 2 (REnc y36) σ v2 edges_p)(hP:P_graph_Cyclic nodes_p edges_p K):
    Calls Tryz.prog 55 #[v1,v2] w (fun e w1=> ∃(r1:(List BA)) (v3:Value),e= .returned v3/\St ⟨w,σ,[]⟩ w1 σ [vec v3 9 1 r1.length ((r1).flatMap Zh)]/\Sml r1.length/\K r1):=by
 unfold P_graph_Cyclic at hP;obtain⟨a1,cap1,rfl⟩:=hr1.shape;obtain⟨a2,cap2,rfl⟩:=hr2.shape;refine enter Tryz.func55 rfl rfl rfl ?_;have hS:=St.start hV;refine Qz (Q8 (v:=(.slice none 0 0)) rfl (wpList_nil (Qp (Qz (Q8 (v:=(.slice none 0 0)) rfl (wpList_nil (Qp (Qz (Qv (v:=(.slice a2 edges_p.length cap2)) rfl ?_)))))))));obtain⟨Y1,hK1,hc1⟩:=hP;refine z4w (args:=[(.slice a2 edges_p.length cap2)]) rfl Tryz.call113 (Calls.mono (w27 edges_p (.slice a2 edges_p.length cap2) hS.view hr2 hc1) ?_);rintro _ w1 ⟨r1_,v4,σ1,rfl,hg1,hr4,hY1⟩;refine⟨_,rfl,?_⟩;have hS1:=hS.grow hg1
 replace hP:=hK1 r1_ hY1
 obtain⟨b1,rfl⟩:=hr4.shape;refine Q8 (v:=(.map (some b1))) rfl (wpList_nil (Qp (wp_seq (Qz (Qv (v:=(.slice a1 nodes_p.length cap1)) rfl (z4w (args:=[(.slice a1 nodes_p.length cap1)]) rfl Tryz.call115 ?_))))));refine enter Tryz.func115 rfl rfl rfl ?_;refine Qz (y9z (cs:=[(.slice a1 nodes_p.length cap1)]) hS1 rfl rfl ?_);intro b2 w2 hS2;refine Q8 (v:= .nilFunc) rfl (wpList_nil (Qp (Qz (w01 (la:=[]) (lb:=[(.pointer (some ⟨b2,0,none⟩))]) rfl rfl (Q8 (v:=(.func (.func 174) #[] #[(.pointer (some ⟨b2,0,none⟩))])) rfl (wpList_nil (Qp (wp_ret (ret1 rfl (show ev _ _ _=(.func (.func 174) #[] #[(.pointer (some ⟨b2,0,none⟩))]) from rfl) ?_)))))))));refine⟨_,rfl,?_⟩;refine z4w (args:=[(.func (.func 174) #[] #[(.pointer (some ⟨b2,0,none⟩))])]) rfl Tryz.call114 ?_;refine enter Tryz.func114 rfl rfl rfl ?_;refine Qz (Q8 (v:=(.slice none 0 0)) rfl (wpList_nil (Qp (Qz (Qv (v:=(.func (.func 174) #[] #[(.pointer (some ⟨b2,0,none⟩))])) rfl (z4w (args:=[(.func (.func 174) #[] #[(.pointer (some ⟨b2,0,none⟩))])]) rfl Tryz.call173 ?_))))));refine enter Tryz.func173 rfl rfl rfl ?_;refine Qz (Q8 (v:=(.slice none 0 0)) rfl (wpList_nil (Qp (Qz (Qv (v:=(.func (.func 174) #[] #[(.pointer (some ⟨b2,0,none⟩))])) rfl ?_)))));obtain⟨σ2,hS3,hsub1,hfr1⟩:=hS2.freeze' (i:=0) rfl rfl;have hB1:σ2 b2=some (.cells #[(.slice a1 nodes_p.length cap1)] 72 (0,0)):=(hfr1 _ rfl).trans (hS2.get (i:=0) rfl);obtain⟨hsm1,hP⟩:=hP;refine z4w (args:=[(.slice none 0 0),(.func (.func 174) #[] #[(.pointer (some ⟨b2,0,none⟩))])]) rfl Tryz.call227 (Calls.mono (u0r b2 (.slice a1 nodes_p.length cap1) nodes_p hS3.view hB1 (RSl.menc (Sub.trans hg1.sub hsub1) hr1) hsm1) ?_);rintro _ w3 ⟨v5,rfl,hg2,ho1⟩;refine⟨_,rfl,?_⟩;have hS4:=hS3.growAdd hg2 (o:=vec v5 9 1 nodes_p.length ((nodes_p).flatMap Zh)) ho1;refine Q8 (v:=v5) rfl (wpList_nil (Qp (wp_ret (ret1 rfl (show ev _ _ _=v5 from rfl) ?_))));refine⟨_,rfl,?_⟩;refine Q8 (v:=v5) rfl (wpList_nil (Qp (Qz (Qv (v:=v5) rfl ?_))));refine z4w (args:=[v5]) rfl Tryz.call111 (Calls.mono (v03 Tryz.slices_Sort_string Tryz.slices_Sort_string_none hS4.view (hS4.get (i:=0) rfl) rfl (fun b hb=>hS4.off _ (List.mem_of_getElem? (i:=0) rfl) b hb) (by have:=hsm1;unfold Sml at this;omega)) ?_);rintro _ w4 ⟨rfl,hg3,ho2⟩;refine⟨_,rfl,?_⟩;have hS5:=hS4.growV (i:=0) (o':=vec v5 9 1 nodes_p.length ((srt nodes_p).flatMap Zh)) rfl hg3 rfl ho2 (ms':=[vec v5 9 1 nodes_p.length ((srt nodes_p).flatMap Zh)]) rfl;have hS6:=hS5.re (ms':=[vec v5 9 1 ((srt nodes_p).length) ((srt nodes_p).flatMap Zh)]) (by simp only[q4k]);refine wpList_nil (Qp (Qz (Qv (v:=v5) rfl (Q8 (v:=v5) rfl (wpList_nil (Qp (wp_ret (ret1 rfl (show ev _ _ _=v5 from rfl) ?_))))))));refine⟨_,rfl,?_⟩;obtain⟨hsm2,hP⟩:=hP;refine z4w (args:=[v5]) rfl Tryz.call112 (Calls.mono (j7b Tryz.slices_Compact_string Tryz.slices_Compact_string_empty hS6.view (hS6.get (i:=0) rfl) rfl (fun b hb=>hS6.off _ (List.mem_of_getElem? (i:=0) rfl) b hb) (by have:=(show Sml (srt nodes_p).length by rw[q4k];exact hsm1);unfold Sml at this;omega)) ?_);rintro _ w5 ⟨v6,rfl,hf1,hg4,ho3⟩;refine⟨_,rfl,?_⟩;have ho4:=q2l ho3;have hS7:=hS6.growV (i:=0) (o':=vec v6 9 1 ((cpt (srt nodes_p)).length) ((cpt (srt nodes_p)).flatMap Zh)) rfl hg4 hf1 ho3 (ms':=[vec v6 9 1 ((cpt (srt nodes_p)).length) ((cpt (srt nodes_p)).flatMap Zh)]) rfl;refine z4v hS7 rfl (i:=0) rfl Tryz.underlying72 ?_;have hlen1:(cpt (srt nodes_p)).length<=9223372036854775807:=by have:=hsm2;unfold Sml at this;omega
 replace hP:=hP hlen1
 refine Qv (v:=(.int .i64 (0:Int))) rfl (wpList_nil (Qp (wp_block ?_)));have hS8:=hS7.addNil 9 1;refine w2g (fun out_2 k_2 f z=> ∃(v8:Value) (σ3:Hv) (g:Fr),f=(upd (upd (upd (upd (upd g 5 v8) 6 (.map (some b1))) 14 v6) 15 (.int .i64 (((cpt (srt nodes_p)).length:Nat):Int))) 16 (.int .i64 ((k_2:Nat):Int)))/\St ⟨w,σ,[]⟩ z σ3 [vec v8 9 1 out_2.length ((out_2).flatMap Zh),vec v6 9 1 ((cpt (srt nodes_p)).length) ((cpt (srt nodes_p)).flatMap Zh)]/\Sub σ2 σ3/\v8.oneCell'=true/\Sml out_2.length) hP ⟨(.slice none 0 0),σ2,_,(Qq rfl (Qq rfl (Qq rfl (Qq rfl (Qq rfl rfl))))),hS8,(Sub.refl _),rfl,(by simp[Sml])⟩ ?_;clear hP;rintro out_2 k_2 Y2 hP f w6 ⟨v8,σ3,g,rfl,hS9,hsub2,ho6,hl2⟩;refine Qz (w45 (r:=(decide (((k_2:Nat):Int)<(((cpt (srt nodes_p)).length:Nat):Int)))) rfl rfl rfl (wpList_nil (Qp (wp_seq ?_))));refine if_d (((k_2:Nat):Int)<(((cpt (srt nodes_p)).length:Nat):Int)) rfl (fun ht1=> ?_) (fun ht1=> ?_)
 .
  replace hP:=hP.1 ht1
  refine wp_skip (Qp (wp_seq (wp_block (Qz ?_))));obtain⟨x1_,hx1⟩:=getq (l:=cpt (srt nodes_p)) (k:=k_2) (by have:=ht1;omega)
  replace hP:=hP x1_ hx1
  obtain⟨g1,cp1,hv1⟩:=v05 (hS9.get (i:=1) rfl) (Qj hx1);refine Up (k:=k_2) (a':=⟨g1,k_2*1,none⟩) hv1 rfl rfl (Qj hx1) Tryz.underlying72 Tryz.sizeOf9 (by simp[Jq]) (q74 (v:=(.string x1_)) rfl Tryz.isAgg9 (w5b j0n (j:=0) hv1 (hS9.get (i:=1) rfl) hx1 rfl) (Q8 (v:=(.string x1_)) rfl (wpList_nil (Qp (Qz (Qv (v:=(.map (some b1))) rfl (Qv (v:=(.string x1_)) rfl ?_)))))));obtain⟨Y3,hK2,hc2⟩:=hP;refine z4w (args:=[(.map (some b1)),(.string x1_)]) rfl Tryz.call116 (Calls.mono (w28 r1_ x1_ (.map (some b1)) hS9.view (RMp.mono (RSl.mz (Sub.trans hsub1 hsub2)) (Sub.trans hsub1 hsub2) hr4) hc2) ?_);rintro _ w7 ⟨r2_,b3,rfl,hg5,hY2⟩;refine⟨_,rfl,?_⟩;have hS10:=St.callM (ins:=[]) (rest:=[vec v8 9 1 out_2.length ((out_2).flatMap Zh),vec v6 9 1 ((cpt (srt nodes_p)).length) ((cpt (srt nodes_p)).flatMap Zh)]) (ms':=[emap b3 (fun y:Bool=>(Value.bool (y))) r2_,vec v8 9 1 out_2.length ((out_2).flatMap Zh),vec v6 9 1 ((cpt (srt nodes_p)).length) ((cpt (srt nodes_p)).flatMap Zh)]) hS9 hg5 rfl
  replace hP:=hK2 r2_ hY2
  refine Qv (v:=(.string x1_)) rfl (v5e (v:=(.bool (((r2_ x1_).getD false)))) (i:=0) hS10 rfl rfl rfl Tryz.underlying182 Tryz.underlying9 Tryz.zeroValue4 (v04 (fun y:Bool=>(Value.bool (y))) _ rfl) (wpList_nil (Qp ?_)));refine if_b rfl (fun ht2=> ?_) (fun ht2=> ?_)
  .
   replace hP:=hP.1 ht2
   refine Ge (Qv (v:=v8) rfl (Qv (v:=(.string x1_)) rfl (q6r (cs:=[(.string x1_)]) (e:=9) hS10 (fun _=>by kernel_rfl) ?_)));intro b4 w8 hS11;obtain⟨hsm3,hP⟩:=hP;refine v9v (Ms:=fun v9=>[blk b4 9 [(.string x1_)],emap b3 (fun y:Bool=>(Value.bool (y))) r2_,vec v9 9 1 ((out_2++[x1_]).length) ((out_2++[x1_]).flatMap Zh),vec v6 9 1 ((cpt (srt nodes_p)).length) ((cpt (srt nodes_p)).flatMap Zh)]) (k':=(out_2++[x1_]).length) (xs':=(out_2++[x1_]).flatMap Zh) Tryz.underlying72 Tryz.type9 rfl rfl (bytes:=16) rfl rfl (Nat.succ_pos _) hS11 rfl (q:=2) rfl rfl rfl (q2j (hS11.get (i:=0) rfl)) (ones rfl) hsm3 (by omega) (by first|rfl|exact List.length_append.symm|simp) (by simp[Zh]) (fun _=>rfl) ?_;intro v9 w9 ho7 hS12;have hS13:=hS12.drop 0 (ms':=[emap b3 (fun y:Bool=>(Value.bool (y))) r2_,vec v9 9 1 ((out_2++[x1_]).length) ((out_2++[x1_]).flatMap Zh),vec v6 9 1 ((cpt (srt nodes_p)).length) ((cpt (srt nodes_p)).flatMap Zh)]) rfl;refine Q8 (v:=v9) rfl (wpList_nil (j0h (Qp (Ge (z2c (r:=((k_2+1:Nat):Int)) rfl rfl (nw (by omega) (by omega) (by have:=hlen1;omega)) (Qv (v:=(.int .i64 ((k_2+1:Nat):Int))) rfl (wpList_nil (Qp ?_))))))));have hS14:=hS13.front 2 rfl (ms':=[vec v6 9 1 ((cpt (srt nodes_p)).length) ((cpt (srt nodes_p)).flatMap Zh),emap b3 (fun y:Bool=>(Value.bool (y))) r2_,vec v9 9 1 ((out_2++[x1_]).length) ((out_2++[x1_]).flatMap Zh)]) rfl;have hS15:=hS14.front 2 rfl (ms':=[vec v9 9 1 ((out_2++[x1_]).length) ((out_2++[x1_]).flatMap Zh),vec v6 9 1 ((cpt (srt nodes_p)).length) ((cpt (srt nodes_p)).flatMap Zh),emap b3 (fun y:Bool=>(Value.bool (y))) r2_]) rfl;exact⟨out_2++[x1_],k_2+1,_,rfl,hP,v9,σ3,_,(Qq rfl (Qq rfl (Qq rfl (Qq rfl (Qq rfl rfl))))),(hS15.keep 2 (ms':=[vec v9 9 1 ((out_2++[x1_]).length) ((out_2++[x1_]).flatMap Zh),vec v6 9 1 ((cpt (srt nodes_p)).length) ((cpt (srt nodes_p)).flatMap Zh)]) rfl),hsub2,ho7,hsm3⟩
  .
   replace hP:=hP.2 (by first|(rw[ht2];exact Bool.false_ne_true)|simp[ht2])
   refine wp_skip (j0h (Qp (Ge (z2c (r:=((k_2+1:Nat):Int)) rfl rfl (nw (by omega) (by omega) (by have:=hlen1;omega)) (Qv (v:=(.int .i64 ((k_2+1:Nat):Int))) rfl (wpList_nil (Qp ?_)))))));have hS16:=hS10.front 2 rfl (ms':=[vec v6 9 1 ((cpt (srt nodes_p)).length) ((cpt (srt nodes_p)).flatMap Zh),emap b3 (fun y:Bool=>(Value.bool (y))) r2_,vec v8 9 1 out_2.length ((out_2).flatMap Zh)]) rfl;have hS17:=hS16.front 2 rfl (ms':=[vec v8 9 1 out_2.length ((out_2).flatMap Zh),vec v6 9 1 ((cpt (srt nodes_p)).length) ((cpt (srt nodes_p)).flatMap Zh),emap b3 (fun y:Bool=>(Value.bool (y))) r2_]) rfl;exact⟨out_2,k_2+1,_,rfl,hP,v8,σ3,_,(Qq rfl (Qq rfl (Qq rfl (Qq rfl (Qq rfl rfl))))),(hS17.keep 2 (ms':=[vec v8 9 1 out_2.length ((out_2).flatMap Zh),vec v6 9 1 ((cpt (srt nodes_p)).length) ((cpt (srt nodes_p)).flatMap Zh)]) rfl),hsub2,ho6,hl2⟩
 .
  replace hP:=hP.2 ht1
  refine wp_exit (q5i (q5i (z2d (Qp (Qz (Qv (v:=v8) rfl (Q8 (v:=v8) rfl (wpList_nil (Qp (wp_ret (ret1 rfl (show ev _ _ _=v8 from rfl) ?_)))))))))));exact⟨out_2,v8,rfl,(St.back (hS9.keep 1 (ms':=[vec v8 9 1 out_2.length ((out_2).flatMap Zh)]) rfl) (Sub.refl _)),hl2,hP⟩
end Go.Proofs.YtlmjknifmlifiaaGreatDoor
end
