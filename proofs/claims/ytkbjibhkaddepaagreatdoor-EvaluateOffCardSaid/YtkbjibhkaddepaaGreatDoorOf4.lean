/- EvaluateOff: a flag that is switched off serves its off variation, flags that need it fail, and switching it on restores every decision This is part 4 of 10. Conditions: those in the statements. -/
import Derived.Test.YtkbjibhkaddepaaGreatDoorProg
import Derived.Test.YtkbjibhkaddepaaGreatDoorOf3
import Derived.Lib.ValidU
import Derived.Lib.ItoaNum
import Derived.KernelRfl
import Derived.Conc.MuLone
import Derived.Shelf.Small.Bits
import Derived.Shelf.Utf8.RuneCount
import Derived.Shelf.Strconv.Atoi
import Derived.Shelf.Strconv.Itoa0
import Derived.Shelf.Strconv.Itoa1
import Derived.Shelf.LaysM
import Derived.Shelf.Strconv.Itoa2
import Derived.Shelf.Strconv.Itoa3
import Derived.Shelf.Strconv.AtoiErrFast
import Derived.Shelf.Strconv.ParseIntEmpty
import Derived.Shelf.Strconv.AtoiFail
import Derived.Shelf.Strconv.Clone
import Derived.Shelf.Strconv.SyntaxError
import Derived.Shelf.LaysC
import Derived.Shelf.Strconv.ToError
import Derived.Shelf.Strconv.Lower
import Derived.Shelf.Strconv.ParseUint10
import Derived.Shelf.Strconv.ParseUint10Empty
import Derived.Shelf.Strconv.ParseUint10Any
import Derived.Shelf.Strconv.ParseInt10
import Derived.Shelf.Strconv.AtoiLong
import Derived.Shelf.Strconv.AtoiInnerAll
import Derived.Shelf.Strconv.RangeError
import Derived.Shelf.Strconv.ToErrorRange
import Derived.Shelf.Strconv.AtoiAll
import Derived.Shelf.Strconv.ErrVarAll
import Derived.Shelf.Strings.Search1
import Derived.Shelf.Strings.Search2
import Derived.Shelf.Strings.Search3
import Derived.Shelf.Strings.Count
import Derived.Shelf.Strings.Shaped
import Derived.Shelf.Sort.Plain
import Derived.Shelf.Strings.Split
import Derived.Shelf.Strings.SplitShaped
import Derived.Shelf.Unicode.Decode
import Derived.Shelf.Strings.RuneCount
import Derived.Shelf.Strings.Explode
import Derived.Shelf.Unicode.DecodeSlow
import Derived.Shelf.Unicode.DecodeAny
import Derived.Ground.Names2Prog
import Derived.Shelf.Slices.Clone
import Derived.Shelf.Slices.CompactS
import Derived.Shelf.Slices.SearchI
import Derived.Shelf.Slices.Delete
import Derived.Shelf.Slices.Cells
import Derived.Shelf.Slices.In.SortNone
import Derived.Shelf.Slices.Empties
import Derived.Ground.SlgnProg
import Derived.Shelf.SlicesE.Clone
import Derived.Ground.NamesProg
import Derived.Shelf.Unicode.ValidAny
import Derived.Shelf.SlIter.Sorted
import Derived.Ground.GgzProg
import Derived.Shelf.SlIter.Collect
import Derived.WalkKit
import Derived.OwnWalkIn
import Derived.TacticsInMore
import Derived.LoopNIn
import Derived.LoopIn
import Derived.RangeFuncLeaves
noncomputable section
set_option maxRecDepth 100000
open Go Go.RowKit Go.Fl Go.Fl.Lk Go.Fx
namespace Go.En
abbrev Two(p:Prop):Prop:=p/\p
abbrev Wm:Type:=(List (Decl)->Prop)->Prop
def Ud:Wm:=fun K=>K [Decl.mk (B8 [100,101,118,105,99,101]) (B8 [99,111,114,101,115]) (2:Int),Decl.mk (B8 [100,101,118,105,99,101]) (B8 [111,115]) (3:Int),Decl.mk (B8 [117,115,101,114]) (B8 [97,103,101]) (2:Int),Decl.mk (B8 [117,115,101,114]) (B8 [97,112,112]) (4:Int),Decl.mk (B8 [117,115,101,114]) (B8 [98,101,116,97]) (1:Int),Decl.mk (B8 [117,115,101,114]) (B8 [99,111,117,110,116,114,121]) (3:Int),Decl.mk (B8 [117,115,101,114]) (B8 [112,108,97,110]) (3:Int),Decl.mk (B8 [117,115,101,114]) (B8 [116,97,103,115]) (5:Int)]
abbrev j43:Type:=List (Int)->Int->(Bool->Int->Prop)->Prop
def w1m:j43:=fun list at_ K=>Fits list->K (decide (at_<(↑list.length:Int))) at_
abbrev Zg:Type:=List (Int)->Int->Int->(Int->Int->Prop)->Prop
def w1n(j5e:j43):Zg:=fun list at_ n K=>j5e list at_ fun Qa Qx=>Cnd (Qa=true) (InI (Qx+1)/\InI (Qx+1 - (1:Int))/\((0:Int)<=Qx+1 - (1:Int)/\Qx+1 - (1:Int)<(↑list.length:Int))/\ ∀y1,list[(Qx+1 - (1:Int)).toNat]? =some y1->InI y1/\n≠(0:Int)/\K (y1.tmod n) (Qx+1)) (K (0:Int) Qx)
def Jv:Zg:=w1n w1m
abbrev q0g:Type:=List (Int)->Int->(ByteArray->Int->Prop)->Prop
def w1o(Qb:Zg):q0g:=fun list at_ K=>Qb list at_ (11:Int) fun Qa Qx=>((0:Int)<=Qa/\Qa<(↑(11:Nat):Int))/\ ∀y1,z9j[Qa.toNat]? =some y1->K y1 Qx
def z1c:q0g:=w1o Jv
abbrev q5i:Type:=List (Int)->Int->Int->(Int->Int->Prop)->Prop
def w1p(Qb:Zg):q5i:=fun list at_ n K=>Qb list at_ (256:Int) fun Qa Qx=>InI ((256:Int)*Qa)/\Qb list Qx (256:Int) fun Qc Z2=>InI ((256:Int)*Qa+Qc)/\n≠(0:Int)/\K (((256:Int)*Qa+Qc).tmod n) Z2
def z5l:q5i:=w1p Jv
abbrev z5m:Type:=Int->List (ByteArray)->(List (ByteArray)->Prop)->Prop
def j44:z5m:=fun n l K=>((0:Int)<=n/\n<=(↑l.length:Int))/\K (List.take n.toNat l)
abbrev z1d:Type:=List (Int)->Int->(List (ByteArray)->Int->Prop)->Prop
def w1q(Qb:Zg):z1d:=fun list at_ K=>Qb list at_ (10:Int) fun Qa Qx=>Lp3 (fun Qc Z2 z6c v7q=>Qb list z6c (4:Int) fun Qh Zi=>Cnd (Z2<Qh) (InI (Qa+Z2)/\(10:Int)≠(0:Int)/\InI ((48:Int)+(Qa+Z2).tmod (10:Int))/\(↑((B8 [107]).size+(Go.Utf8.encode (Go.IntKind.i32.wrap ((48:Int)+(Qa+Z2).tmod (10:Int)))).size):Int)<=(9223372036854775807:Int)/\Sml (Qc++[B8 [107]++Go.Utf8.encode (Go.IntKind.i32.wrap ((48:Int)+(Qa+Z2).tmod (10:Int)))]).length/\InI (Z2+1)/\v7q (Qc++[B8 [107]++Go.Utf8.encode (Go.IntKind.i32.wrap ((48:Int)+(Qa+Z2).tmod (10:Int)))]) (Z2+1) Zi) (Lp2 (fun Qk Hj j9y=>Fits Hj->CAt Hj Qk (fun y5=>InI (Qk - 1)/\((0:Int)<=Qk - 1/\Qk - 1<(↑Hj.length:Int))/\ ∀y7,Hj[(Qk - 1).toNat]? =some y7->Cnd (Lk.blt y7 y5) (InI (Qk+1)/\j9y (Qk+1) Hj) (((0:Int)<=Qk/\Qk<=(↑Hj.length:Int))/\K (List.take Qk.toNat Hj) Zi)) (K Hj Zi)) (1:Int) Qc)) [] (0:Int) Qx
def z9k:z1d:=w1q Jv
abbrev z7m:Type:=List (Int)->Int->(ByteArray->Int->Prop)->Prop
def w72(Qb:Zg):z7m:=fun list at_ K=>Qb list at_ (10:Int) fun Qa Qx=>InI ((48:Int)+Qa)/\(↑((B8 [107]).size+(Go.Utf8.encode (Go.IntKind.i32.wrap ((48:Int)+Qa))).size):Int)<=(9223372036854775807:Int)/\K (B8 [107]++Go.Utf8.encode (Go.IntKind.i32.wrap ((48:Int)+Qa))) Qx
def j6g:z7m:=w72 Jv
abbrev q0h:Type:=List (Int)->Int->Int->(Val->Int->Prop)->Prop
def z9l(Qb:Zg)(J4:q0g):q0h:=fun list at_ kind K=>Cnd (kind=1) (Qb list at_ (2:Int) fun Qa Qx=>K (Val.mk kind Qa (B8 []) []) Qx) (Cnd (kind=2) ([(0:Int),(1:Int),(17:Int),(18:Int),(19:Int),(-5:Int),(64:Int),(1099511627776:Int),(-1099511627776:Int)].length<=(9223372036854775807:Nat)->Qb list at_ (↑[(0:Int),(1:Int),(17:Int),(18:Int),(19:Int),(-5:Int),(64:Int),(1099511627776:Int),(-1099511627776:Int)].length:Int) fun Qc Z2=>((0:Int)<=Qc/\Qc<(↑[(0:Int),(1:Int),(17:Int),(18:Int),(19:Int),(-5:Int),(64:Int),(1099511627776:Int),(-1099511627776:Int)].length:Int))/\ ∀y2,[(0:Int),(1:Int),(17:Int),(18:Int),(19:Int),(-5:Int),(64:Int),(1099511627776:Int),(-1099511627776:Int)][Qc.toNat]? =some y2->K (Val.mk kind y2 (B8 []) []) Z2) (Cnd (kind=3) (J4 list at_ fun Qa Qx=>K (Val.mk kind (0:Int) Qa []) Qx) (Cnd (kind=4) (Qb list at_ (6:Int) fun Qa Qx=>((0:Int)<=Qa/\Qa<(↑(6:Nat):Int))/\ ∀y1,z3r[Qa.toNat]? =some y1->K (Val.mk kind (0:Int) y1 []) Qx) (Qb list at_ (5:Int) fun Qa Qx=>((0:Int)<=Qa/\Qa<(↑(5:Nat):Int))/\ ∀y1,j6e[Qa.toNat]? =some y1->Sml ([]++y1).length/\K (Val.mk (5:Int) (0:Int) (B8 []) ([]++y1)) Qx))))
def Rv:q0h:=z9l Jv z1c
abbrev j45:Type:=List (Int)->Int->(Ex->Int->Prop)->Prop
def w1r(Qz:Wm)(Qb:Zg)(z2s:z7m)(Z6:q0h):j45:=fun list at_ K=>Qz fun Qa=>Fits Qa->InI ((↑Qa.length:Int)+1)/\Qb list at_ ((↑Qa.length:Int)+1) fun Qh Zi=>Fits Qa->Cnd (Qh=(↑Qa.length:Int)) (z2s list Zi fun Qp Ju=>K (Ex.mk (7:Int) (B8 [117,115,101,114]) (B8 [107,101,121]) [Val.mk (3:Int) (0:Int) Qp []] []) Ju) (At Qa Qh fun y4=>Jn1 (fun (Zn:Int×ByteArray×ByteArray×List Val×List Ex×Int×Int×ByteArray×ByteArray×List Val×List Ex×Unit)=>Z6 list Zn.2.2.2.2.2.1 y4.3 fun Jm z81=>K (Ex.mk (7:Int) Zn.2.1 Zn.2.2.1 [Jm] Zn.2.2.2.2.1) z81) fun (j5f:Int×ByteArray×ByteArray×List Val×List Ex×Int×Int×ByteArray×ByteArray×List Val×List Ex×Unit->Prop)=>Qb list Zi (5:Int) fun Jm z81=>Jn1 (fun (J3:Int×Int×ByteArray×ByteArray×List Val×List Ex×Int×ByteArray×ByteArray×List Val×List Ex×Unit)=>Cnd (y4.3=2) (Qb list J3.1 (4:Int) fun W2 z6d=>InI ((12:Int)+W2)/\Z6 list z6d y4.3 fun Ua R0=>K (Ex.mk ((12:Int)+W2) J3.2.2.1 J3.2.2.2.1 [Ua] J3.2.2.2.2.2.1) R0) (Cnd (y4.3=3) (Qb list J3.1 (4:Int) fun W2 z6d=>InI ((12:Int)+W2)/\Z6 list z6d y4.3 fun Ua R0=>K (Ex.mk ((12:Int)+W2) J3.2.2.1 J3.2.2.2.1 [Ua] J3.2.2.2.2.2.1) R0) (Cnd (y4.3=4) (Qb list J3.1 (4:Int) fun W2 z6d=>InI ((12:Int)+W2)/\Z6 list z6d y4.3 fun Ua R0=>K (Ex.mk ((12:Int)+W2) J3.2.2.1 J3.2.2.2.1 [Ua] J3.2.2.2.2.2.1) R0) (j5f (J3.2.1,J3.2.2.1,J3.2.2.2.1,J3.2.2.2.2.1,J3.2.2.2.2.2.1,J3.1,J3.2.2.2.2.2.2.1,J3.2.2.2.2.2.2.2.1,J3.2.2.2.2.2.2.2.2.1,J3.2.2.2.2.2.2.2.2.2.1,J3.2.2.2.2.2.2.2.2.2.2.1,()))))) fun (y0r:Int×Int×ByteArray×ByteArray×List Val×List Ex×Int×ByteArray×ByteArray×List Val×List Ex×Unit->Prop)=>Cnd (Jm=0) (K (Ex.mk (6:Int) y4.1 y4.2 [] []) z81) (Cnd (Jm=1) (Cnd (y4.3=5) (j5f ((0:Int),y4.1,y4.2,[],[],z81,(0:Int),B8 [],B8 [],[],[],())) (Lp3 (fun W2 z6d y5f y9v=>Qb list y5f (3:Int) fun Ua R0=>Cnd (W2<=Ua) (Z6 list R0 y4.3 fun Vv z49=>Sml (z6d++[Vv]).length/\InI (W2+1)/\y9v (W2+1) (z6d++[Vv]) z49) (K (Ex.mk (8:Int) y4.1 y4.2 z6d []) R0)) (0:Int) [] z81)) (Cnd (Jm=2) (Cnd (y4.3=3) (Z6 list z81 (3:Int) fun W2 z6d=>K (Ex.mk (11:Int) y4.1 y4.2 [W2] []) z6d) (Cnd (y4.3=5) (Z6 list z81 (3:Int) fun W2 z6d=>K (Ex.mk (11:Int) y4.1 y4.2 [W2] []) z6d) (j5f ((0:Int),y4.1,y4.2,[],[],z81,(0:Int),B8 [],B8 [],[],[],())))) (Cnd (Jm=3) (Cnd (y4.3=3) (Qb list z81 (2:Int) fun W2 z6d=>InI ((9:Int)+W2)/\Z6 list z6d (3:Int) fun Ua R0=>K (Ex.mk ((9:Int)+W2) y4.1 y4.2 [Ua] []) R0) (y0r (z81,(0:Int),y4.1,y4.2,[],[],(0:Int),B8 [],B8 [],[],[],()))) (Cnd (Jm=4) (y0r (z81,(0:Int),y4.1,y4.2,[],[],(0:Int),B8 [],B8 [],[],[],())) (j5f ((0:Int),y4.1,y4.2,[],[],z81,(0:Int),B8 [],B8 [],[],[],())))))))
def z5n:j45:=w1r Ud Jv j6g Rv
abbrev q5j:Type:=List (Int)->Int->List (ByteArray)->Int->(Ex->Int->Prop)->Prop
def j46(Qb:Zg)(v08:j45)(X:q5j):q5j:=fun list at_ segments levels K=>Qb list at_ (8:Int) fun Qa Qx=>Jn1 (fun Qc=>Cnd (Qc=0) (K (Ex.mk (1:Int) (B8 []) (B8 []) [] []) Qx) (Cnd (Qc=3) (Fits segments->Cnd ((0:Int)<(↑segments.length:Int)) (Fits segments->Qb list Qx (↑segments.length:Int) fun Qp Ju=>At segments Qp fun y5=>K (Ex.mk (5:Int) (B8 []) y5 [] []) Ju) (v08 list Qx fun Qk Hj=>K (Ex.mk Qk.1 Qk.2 Qk.3 Qk.4 Qk.5) Hj)) (Cnd (Qc=4) (InI (levels - 1)/\X list Qx segments (levels - 1) fun Qh Zi=>K (Ex.mk (4:Int) (B8 []) (B8 []) [] [Ex.mk Qh.1 Qh.2 Qh.3 Qh.4 Qh.5]) Zi) (Jn1 (fun Qh=>Cnd (Qh=true) (Qb list Qx (2:Int) fun Qk Hj=>InI ((2:Int)+Qk)/\Qb list Hj (2:Int) fun Qp Ju=>InI ((2:Int)+Qp)/\LpH (fun (Qj:Int×Int×Int×ByteArray×ByteArray×List Val×List Ex×Unit) (j8y:Int×Int×Int×ByteArray×ByteArray×List Val×List Ex×Unit->Prop)=>Cnd (Qj.1<2+Qp) (InI (levels - 1)/\X list Qj.2.1 segments (levels - 1) fun Zn q93=>Jn1 (fun (Jm:Int×ByteArray×ByteArray×List Val×List Ex×Unit)=>Sml (Qj.2.2.2.2.2.2.1++[Ex.mk Jm.1 Jm.2.1 Jm.2.2.1 Jm.2.2.2.1 Jm.2.2.2.2.1]).length/\InI (Qj.1+1)/\j8y (Qj.1+1,q93,Qj.2.2.1,Qj.2.2.2.1,Qj.2.2.2.2.1,Qj.2.2.2.2.2.1,Qj.2.2.2.2.2.2.1++[Ex.mk Jm.1 Jm.2.1 Jm.2.2.1 Jm.2.2.2.1 Jm.2.2.2.2.1],())) fun (v7x:Int×ByteArray×ByteArray×List Val×List Ex×Unit->Prop)=>Cnd (Zn.1=2+Qk) (v7x ((4:Int),B8 [],B8 [],[],[Ex.mk Zn.1 Zn.2 Zn.3 Zn.4 Zn.5],())) (v7x (Zn.1,Zn.2,Zn.3,Zn.4,Zn.5,()))) (K (Ex.mk Qj.2.2.1 Qj.2.2.2.1 Qj.2.2.2.2.1 Qj.2.2.2.2.2.1 Qj.2.2.2.2.2.2.1) Qj.2.1)) ((0:Int),Ju,(2:Int)+Qk,B8 [],B8 [],[],[],())) (v08 list Qx fun Qk Hj=>K (Ex.mk Qk.1 Qk.2 Qk.3 Qk.4 Qk.5) Hj)) fun w67=>Cnd (Qc=5) (w67 (decide (Qc=5))) (w67 (decide (Qc=6))))))) fun j5g=>Cnd (levels<=1) (Cnd ((4:Int)<=Qa) (InI (Qa - 4)/\j5g (Qa - 4)) (j5g Qa)) (j5g Qa)
def z9m:q5j:=fun list at_ segments levels K=> ∀X:q5j,(∀list at_ segments levels K,j46 Jv z5n X list at_ segments levels K->X list at_ segments levels K)->X list at_ segments levels K
abbrev q36:Type:=List (Int)->Int->ByteArray->ByteArray->Int->List (Decl)->List (Seg)->List (Flg)->List (Lay_)->List (Exper)->(Int->ByteArray->ByteArray->Int->List (Decl)->List (Seg)->List (Flg)->List (Lay_)->List (Exper)->Prop)->Prop
def z3t(Qb:Zg)(q15:z5m)(q3u:z1d)(q3v:q5j):q36:=fun list at_ salt hkind hold attrs segs flags layers expers K=>Qb list at_ (4:Int) fun Qa Qx=>q15 Qa [B8 [97,108,112,104,97],B8 [98,101,116,97],B8 [103,97,109,109,97]] fun Qc=>Lp3 (fun Qh Zi w4b y5g=>Fits Qc->CAt Qc Qh (fun y4=>q3u list Zi fun Zn q93=>q3u list q93 fun Jm z81=>Jn2 (fun J3 w68=>Jn1 (fun (W2:Int×ByteArray×ByteArray×List Val×List Ex×Int×Unit)=>Sml (w4b++[Seg.mk y4 J3 Zn Jm (Ex.mk W2.1 W2.2.1 W2.2.2.1 W2.2.2.2.1 W2.2.2.2.2.1)]).length/\InI (Qh+1)/\y5g (Qh+1) W2.2.2.2.2.2.1 (w4b++[Seg.mk y4 J3 Zn Jm (Ex.mk W2.1 W2.2.1 W2.2.2.1 W2.2.2.2.1 W2.2.2.2.2.1)])) fun (y0s:Int×ByteArray×ByteArray×List Val×List Ex×Int×Unit->Prop)=>Qb list w68 (3:Int) fun Ua R0=>Cnd ((0:Int)<Ua) (((0:Int)<=(0:Int)/\(0:Int)<=Qh/\Qh<=(↑Qc.length:Int))/\q3v list R0 (List.drop (Int.toNat (0:Int)) (List.take Qh.toNat Qc)) (3:Int) fun Vv z49=>y0s (Vv.1,Vv.2,Vv.3,Vv.4,Vv.5,z49,())) (y0s ((0:Int),B8 [],B8 [],[],[],R0,()))) fun y0r=>Qb list z81 (4:Int) fun W2 z6d=>Cnd (W2=1) (y0r (B8 [100,101,118,105,99,101]) z6d) (y0r (B8 [117,115,101,114]) z6d)) (K Zi salt hkind hold attrs w4b flags layers expers)) (0:Int) Qx segs
def q8l:q36:=z3t Jv j44 z9k z9m
abbrev q0i:Type:=Envt->(List (ByteArray)->Prop)->Prop
def q0j:q0i:=fun v K=>Lp2 (fun Qa Qx q2p=>Fits v.3->CAt v.3 Qx (fun y2=>Sml (Qa++[y2.1]).length/\InI (Qx+1)/\q2p (Qa++[y2.1]) (Qx+1)) (K Qa)) [] (0:Int)
abbrev q6w:Type:=List (Int)->Int->Int->(List (Rng)->Int->Prop)->Prop
def j6h(Qb:Zg)(Wi:q5i):q6w:=fun list at_ n K=>Jn4 (fun Qa Qx z7f q45=>Qb list q45 n fun Qc Z2=>InI ((1:Int)+Qc)/\Jn1 (fun Qh=>Sml (Qa++[Rng.mk Qx (10000:Int) Qh]).length/\K (Qa++[Rng.mk Qx (10000:Int) Qh]) Z2) fun w67=>Cnd ((1:Int)+Qc=z7f) (n≠(0:Int)/\InI ((1:Int)+((1:Int)+Qc).tmod n)/\w67 ((1:Int)+((1:Int)+Qc).tmod n)) (w67 ((1:Int)+Qc))) fun q3w=>Lp5 (fun Qc Z2 z6c j1b y8j y9w=>Qb list y8j (4:Int) fun Qh Zi=>Cnd (j1b<Qh) (Cnd ((1:Int)<n) (InI (Z2+1)/\Wi list Zi (5000:Int) fun Qk Hj=>InI (Z2+1+Qk)/\Qb list Hj n fun Qp Ju=>InI ((1:Int)+Qp)/\Jn1 (fun Qj=>Cnd ((10000:Int)<=Z2+1+Qk) (q3w Qc Z2 z6c Ju) (Sml (Qc++[Rng.mk Z2 (Z2+1+Qk) Qj]).length/\InI (j1b+1)/\y9w (Qc++[Rng.mk Z2 (Z2+1+Qk) Qj]) (Z2+1+Qk) Qj (j1b+1) Ju)) fun u0l=>Cnd ((1:Int)+Qp=z6c) (n≠(0:Int)/\InI ((1:Int)+((1:Int)+Qp).tmod n)/\u0l ((1:Int)+((1:Int)+Qp).tmod n)) (u0l ((1:Int)+Qp))) (q3w Qc Z2 z6c Zi)) (q3w Qc Z2 z6c Zi)) [] (0:Int) (0:Int) (0:Int) at_
def z3u:q6w:=j6h Jv z5l
abbrev z3v:Type:=List (Int)->Int->Int->(Srv->Int->Prop)->Prop
def j6i(Qb:Zg)(J4:q0g)(q16:q6w)(Qz:Wm):z3v:=fun list at_ n K=>Qb list at_ (2:Int) fun Qa Qx=>Cnd (Qa=0) (Qb list Qx n fun Qc Z2=>InI ((1:Int)+Qc)/\K (Srv.mk ((1:Int)+Qc) (B8 []) (B8 []) (B8 []) []) Z2) (J4 list Qx fun Qc Z2=>q16 list Z2 n fun Qh Zi=>Qz fun Qk=>Qb list Zi (12:Int) fun Qp Ju=>Fits Qk->CAt Qk Qp (fun y6=>Cnd (y6.3=5) (K (Srv.mk (0:Int) (B8 [117,115,101,114]) (B8 [107,101,121]) Qc Qh) Ju) (At Qk Qp fun y8=>At Qk Qp fun y10=>K (Srv.mk (0:Int) y8.1 y10.2 Qc Qh) Ju)) (K (Srv.mk (0:Int) (B8 [117,115,101,114]) (B8 [107,101,121]) Qc Qh) Ju))
def z9n:z3v:=j6i Jv z1c z3u Ud
abbrev z9o:Type:=(List (Nd)->(Nd->Option (Int))->Bool->Prop)->Prop
def w5f:z9o:=fun K=>K [] (fun _=>none) false
abbrev Gy:Type:=Int->(Bool->Prop)->Prop
def J8:Gy:=fun op K=>Cnd ((6:Int)<=op) (K (decide (op<=15))) (K false)
abbrev z9p:Type:=List (ByteArray)->List (ByteArray)->(Bool->Prop)->Prop
def z9q:z9p:=fun a b K=>Fits a->Fits b->Cnd ((↑a.length:Int)=(↑b.length:Int)) (Lp1 (fun Qh j01=>Fits a->CAt a Qh (fun y4=>At b Qh fun y6=>Cnd (y4=y6) (InI (Qh+1)/\j01 (Qh+1)) (K false)) (K true)) (0:Int)) (K false)
abbrev q2q:Type:=Val->Val->(Bool->Prop)->Prop
def j1v(j02:z9p):q2q:=fun a b K=>Cnd (a.1=b.1) (Cnd (a.2=b.2) (Cnd (a.3=b.3) (j02 a.4 b.4 fun Qa=>K Qa) (K false)) (K false)) (K false)
def z0b:q2q:=j1v z9q
abbrev q0k:Type:=List (Val)->List (Val)->(Bool->Prop)->Prop
def q6x(H6:q2q):q0k:=fun a b K=>Fits a->Fits b->Cnd ((↑a.length:Int)=(↑b.length:Int)) (Lp1 (fun Qh j01=>Fits a->CAt a Qh (fun y4=>At b Qh fun y6=>H6 y4 y6 fun J3=>Cnd (J3=true) (InI (Qh+1)/\j01 (Qh+1)) (K false)) (K true)) (0:Int)) (K false)
def V0:q0k:=q6x z0b
abbrev Ug:Type:=Ex->Ex->(Bool->Prop)->Prop
def z1e(j8u:q0k)(X:Ug):Ug:=fun a b K=>Cnd (a.1=b.1) (Cnd (a.2=b.2) (Cnd (a.3=b.3) (j8u a.4 b.4 fun Qa=>Cnd (Qa=true) (Fits a.5->Fits b.5->Cnd ((↑a.5.length:Int)=(↑b.5.length:Int)) (Lp1 (fun Qk z82=>Fits a.5->CAt a.5 Qk (fun y5=>At b.5 Qk fun y7=>X (Ex.mk y5.1 y5.2 y5.3 y5.4 y5.5) (Ex.mk y7.1 y7.2 y7.3 y7.4 y7.5) fun W2=>Cnd (W2=true) (InI (Qk+1)/\z82 (Qk+1)) (K false)) (K true)) (0:Int)) (K false)) (K false)) (K false)) (K false)) (K false)
def q0l:Ug:=fun a b K=> ∀X:Ug,(∀a b K,z1e V0 X a b K->X a b K)->X a b K
abbrev q6y:Type:=List (Ex)->Ex->(Int->Prop)->Prop
def z7n(q6b:Ug):q6y:=fun l e K=>Lp1 (fun Qa q8c=>Fits l->CAt l Qa (fun y2=>q6b (Ex.mk y2.1 y2.2 y2.3 y2.4 y2.5) (Ex.mk e.1 e.2 e.3 e.4 e.5) fun Qp=>Cnd (Qp=true) (K Qa) (InI (Qa+1)/\q8c (Qa+1))) (K (-1:Int))) (0:Int)
def Vo:q6y:=z7n q0l
abbrev Vp:Type:=List (Ex)->Ex->(List (Ex)->Prop)->Prop
def q9j(z2t:q6y)(Zt:Gy)(X:Vp):Vp:=fun l e K=>Jn1 (fun Qa=>Lp2 (fun Qc Z2 z6u=>Fits e.5->CAt e.5 Z2 (fun y3=>X Qc (Ex.mk y3.1 y3.2 y3.3 y3.4 y3.5) fun Qj=>InI (Z2+1)/\z6u Qj (Z2+1)) (K Qc)) Qa (0:Int)) fun q3w=>Cnd (e.1=5) (z2t l (Ex.mk e.1 e.2 e.3 e.4 e.5) fun Qc=>Cnd (Qc<0) ((Sml ([]++l).length/\Sml ([]++l++[Ex.mk e.1 e.2 e.3 e.4 e.5]).length/\q3w ([]++l++[Ex.mk e.1 e.2 e.3 e.4 e.5]))/\Sml ([]++l).length/\Sml ([]++l++[Ex.mk e.1 e.2 e.3 e.4 e.5]).length/\q3w ([]++l++[Ex.mk e.1 e.2 e.3 e.4 e.5])) (q3w l)) (Zt e.1 fun Qc=>Cnd (Qc=true) (z2t l (Ex.mk e.1 e.2 e.3 e.4 e.5) fun Qh=>Cnd (Qh<0) ((Sml ([]++l).length/\Sml ([]++l++[Ex.mk e.1 e.2 e.3 e.4 e.5]).length/\q3w ([]++l++[Ex.mk e.1 e.2 e.3 e.4 e.5]))/\Sml ([]++l).length/\Sml ([]++l++[Ex.mk e.1 e.2 e.3 e.4 e.5]).length/\q3w ([]++l++[Ex.mk e.1 e.2 e.3 e.4 e.5])) (q3w l)) (q3w l))
def q3i:Vp:=fun l e K=> ∀X:Vp,(∀l e K,q9j Vo J8 X l e K->X l e K)->X l e K
abbrev Gz:Type:=List (Rul)->(List (Ex)->Prop)->Prop
def q6z(q3x:Vp):Gz:=fun l K=>Lp2 (fun Qa Qx q2p=>Fits l->CAt l Qx (fun y2=>q3x Qa (Ex.mk y2.2.1 y2.2.2 y2.2.3 y2.2.4 y2.2.5) fun Qp=>InI (Qx+1)/\q2p Qp (Qx+1)) (K Qa)) [] (0:Int)
def q0m:Gz:=q6z q3i
abbrev Jw:Type:=List (Nd)->(Nd->Option (Int))->Bool->Int->(Bool->List (Nd)->(Nd->Option (Int))->Bool->Prop)->Prop
def Uh:Jw:=fun ns ids full id K=>Cnd ((-1002:Int)<id) (Fits ns->K (decide (id<(↑ns.length:Int))) ns ids full) (K false ns ids full)
abbrev R3:Type:=List (Nd)->(Nd->Option (Int))->Bool->Int->((Int->Option (Bool))->List (Nd)->(Nd->Option (Int))->Bool->Prop)->Prop
def R4:R3:=fun ns ids full id K=>Lp2 (fun Qa q8c q2p=>Fits Qa->Cnd ((0:Int)<(↑Qa.length:Int)) (Fits Qa->InI ((↑Qa.length:Int) - 1)/\((0:Int)<=(↑Qa.length:Int) - 1/\(↑Qa.length:Int) - 1<(↑Qa.length:Int))/\ ∀y3,Qa[((↑Qa.length:Int) - 1).toNat]? =some y3->Fits Qa->InI ((↑Qa.length:Int) - 1)/\((0:Int)<=(↑Qa.length:Int) - 1/\(↑Qa.length:Int) - 1<=(↑Qa.length:Int))/\Cnd ((q8c y3).getD false=true) (q2p (List.take ((↑Qa.length:Int) - 1).toNat Qa) q8c) (Cnd ((0:Int)<=y3) (At ns y3 fun y6=>At ns y3 fun y8=>Sml (List.take ((↑Qa.length:Int) - 1).toNat Qa++[y6.2.1,y8.2.2]).length/\q2p (List.take ((↑Qa.length:Int) - 1).toNat Qa++[y6.2.1,y8.2.2]) (put q8c y3 true)) (q2p (List.take ((↑Qa.length:Int) - 1).toNat Qa) (put q8c y3 true)))) (K q8c ns ids full)) [id] fun _=>none
abbrev V1:Type:=List (Nd)->(Nd->Option (Int))->Bool->Int->(List (Int)->List (Nd)->(Nd->Option (Int))->Bool->Prop)->Prop
def z0c(Qv:Jw)(Bg:R3):V1:=fun ns ids full id K=>Qv ns ids full id fun Qa (Qx:List (Int×Int×Int)) q2p q45=>Cnd (Qa=true) (Bg Qx q2p q45 id fun j5g (Z2:List (Int×Int×Int)) z6u j1b=>Lp2 (fun Qh Zi q5d=>Cnd (Zi<=1000) (InI ((-1:Int) - Zi)/\Cnd ((j5g ((-1:Int) - Zi)).getD false=true) (Sml (Qh++[Zi]).length/\InI (Zi+1)/\q5d (Qh++[Zi]) (Zi+1)) (InI (Zi+1)/\q5d Qh (Zi+1))) (K Qh Z2 z6u j1b)) [] (0:Int)) (K [] Qx q2p q45)
def Hs:V1:=z0c Uh R4
abbrev Q9:Type:=List (Nd)->(Nd->Option (Int))->Bool->Int->(Bool->List (Nd)->(Nd->Option (Int))->Bool->Prop)->Prop
def q5a(Qv:Jw)(H7:V1):Q9:=fun ns ids full id K=>Qv ns ids full id fun Qa (Qx:List (Int×Int×Int)) q2p q45=>Cnd (Qa=true) (H7 Qx q2p q45 id fun Qc (Z2:List (Int×Int×Int)) z6u j1b=>Lp1 (fun Qh j01=>Fits Qc->CAt Qc Qh (fun y4=>Cnd ((1:Int)<y4) (K false Z2 z6u j1b) (InI (Qh+1)/\j01 (Qh+1))) (K true Z2 z6u j1b)) (0:Int)) (K false Qx q2p q45)
def Ji:Q9:=q5a Uh Hs
abbrev Vq:Type:=List (Nd)->(Nd->Option (Int))->Bool->Int->(Int->List (Nd)->(Nd->Option (Int))->Bool->Prop)->Prop
def Jx:Vq:=fun ns ids full id K=>Cnd (id<0) (K (1001:Int) ns ids full) (At ns id fun y0=>K y0.1 ns ids full)
abbrev R5:Type:=List (Nd)->(Nd->Option (Int))->Bool->Int->Int->(Int->Int->List (Nd)->(Nd->Option (Int))->Bool->Prop)->Prop
def z3a(Zh:Vq):R5:=fun ns ids full id test K=>Zh ns ids full id fun Qa (Qx:List (Int×Int×Int)) q2p q45=>Cnd (Qa=test) (At Qx id fun y1=>At Qx id fun y3=>K y1.2.1 y3.2.2 Qx q2p q45) (K id id Qx q2p q45)
def J9:R5:=z3a Jx
abbrev G0:Type:=List (Nd)->(Nd->Option (Int))->Bool->Int->Int->Int->(Int->List (Nd)->(Nd->Option (Int))->Bool->Prop)->Prop
def z3w(Qv:Jw)(Zh:Vq):G0:=fun ns ids full test yes no K=>Cnd (test<0) (K (-1002:Int) ns ids full) (Cnd ((1000:Int)<test) (K (-1002:Int) ns ids full) (Qv ns ids full yes fun Qa (Qx:List (Int×Int×Int)) q2p q45=>Cnd (Qa=true) (Qv Qx q2p q45 no fun Qc (Z2:List (Int×Int×Int)) z6u j1b=>Cnd (Qc=true) (Zh Z2 z6u j1b yes fun Qh (Zi:List (Int×Int×Int)) q5d j8z=>Cnd (Qh<=test) (K (-1002:Int) Zi q5d j8z) (Zh Zi q5d j8z no fun Qk (Hj:List (Int×Int×Int)) j9y v7y=>Cnd (Qk<=test) (K (-1002:Int) Hj j9y v7y) (Cnd (yes=no) (K yes Hj j9y v7y) (Cnd ((j9y (test,yes,no)).isSome=true) (K ((j9y (test,yes,no)).getD (0:Int)) Hj j9y v7y) (Fits Hj->Cnd ((4000:Int)<=(↑Hj.length:Int)) (K (-1002:Int) Hj j9y true) (Fits Hj->Sml (Hj++[(test,yes,no)]).length/\((Hj++[(test,yes,no)]).length<=(9223372036854775807:Nat)->InI ((↑(Hj++[(test,yes,no)]).length:Int) - 1)/\K ((↑(Hj++[(test,yes,no)]).length:Int) - 1) (Hj++[(test,yes,no)]) (put j9y (test,yes,no) (↑Hj.length:Int)) v7y))))))) (K (-1002:Int) Z2 z6u j1b)) (K (-1002:Int) Qx q2p q45)))
def Z5:G0:=z3w Uh Jx
abbrev Jo:Type:=List (Nd)->(Nd->Option (Int))->Bool->Int->Int->Int->(A3->Option (Int))->(Int->List (Nd)->(Nd->Option (Int))->Bool->(A3->Option (Int))->Prop)->Prop
def V2(Zh:Vq)(q46:R5)(q8d:G0)(X:Jo):Jo:=fun ns ids full f g h known K=>Cnd (f=(-2:Int)) (K g ns ids full known) (Cnd (g=h) (K g ns ids full known) (Cnd (f=(-1:Int)) (K h ns ids full known) (Cnd ((known (f,g,h)).isSome=true) (K ((known (f,g,h)).getD (0:Int)) ns ids full known) (Zh ns ids full f fun Qa (Qx:List (Int×Int×Int)) q2p q45=>Zh Qx q2p q45 g fun Qc (Z2:List (Int×Int×Int)) z6u j1b=>Zh Z2 z6u j1b h fun Qh (Zi:List (Int×Int×Int)) q5d j8z=>q46 Zi q5d j8z f (Min.min (Min.min Qa Qc) Qh) fun Qk Hj (u0o:List (Int×Int×Int)) u0p u0q=>q46 u0o u0p u0q g (Min.min (Min.min Qa Qc) Qh) fun Qp Ju (j03:List (Int×Int×Int)) y50 y9x=>q46 j03 y50 y9x h (Min.min (Min.min Qa Qc) Qh) fun Qj q94 (y9y:List (Int×Int×Int)) y5h u0r=>X y9y y5h u0r Qk Qp Qj known fun Zn (q93:List (Int×Int×Int)) v7z w38 u0s=>X q93 v7z w38 Hj Ju q94 u0s fun Jm (z81:List (Int×Int×Int)) y51 y0t u0t=>Jn4 (fun J3 (w68:List (Int×Int×Int)) u0u y9z=>K J3 w68 y9z u0u (put u0t (f,g,h) J3)) fun y0r=>Cnd (Zn=(-1002:Int)) (y0r (-1002:Int) z81 y0t y51) (Cnd (Jm=(-1002:Int)) (y0r (-1002:Int) z81 y0t y51) (q8d z81 y51 y0t (Min.min (Min.min Qa Qc) Qh) Zn Jm fun W2 (z6d:List (Int×Int×Int)) y5i y1x=>y0r W2 z6d y1x y5i))))))
def Ht:Jo:=fun ns ids full f g h known K=> ∀X:Jo,(∀ns ids full f g h known K,V2 Jx J9 Z5 X ns ids full f g h known K->X ns ids full f g h known K)->X ns ids full f g h known K
abbrev Zu:Type:=List (Nd)->(Nd->Option (Int))->Bool->Int->Int->Int->(Int->List (Nd)->(Nd->Option (Int))->Bool->Prop)->Prop
def z0d(Qo:Q9)(Qv:Jw)(H8:Jo):Zu:=fun ns ids full f g h K=>Qo ns ids full f fun Qa (Qx:List (Int×Int×Int)) q2p q45=>Cnd (Qa=true) (Qv Qx q2p q45 g fun Qc (Z2:List (Int×Int×Int)) z6u j1b=>Cnd (Qc=true) (Qv Z2 z6u j1b h fun Qh (Zi:List (Int×Int×Int)) q5d j8z=>Cnd (Qh=true) (H8 Zi q5d j8z f g h (fun _=>none) fun Qk (Hj:List (Int×Int×Int)) j9y v7y _=>K Qk Hj j9y v7y) (K (-1002:Int) Zi q5d j8z)) (K (-1002:Int) Z2 z6u j1b)) (K (-1002:Int) Qx q2p q45)
def Wp:Zu:=z0d Ji Uh Ht
abbrev q3j:Type:=List (Nd)->(Nd->Option (Int))->Bool->Int->(Int->List (Nd)->(Nd->Option (Int))->Bool->Prop)->Prop
def z61(Qy:Zu):q3j:=fun ns ids full f K=>Qy ns ids full f (-1:Int) (-2:Int) fun Qa (Qx:List (Int×Int×Int)) q2p q45=>K Qa Qx q2p q45
def Ge:q3j:=z61 Wp
abbrev q3k:Type:=List (Nd)->(Nd->Option (Int))->Bool->Int->Int->(Int->List (Nd)->(Nd->Option (Int))->Bool->Prop)->Prop
def z62(Qo:Q9)(Qy:Zu):q3k:=fun ns ids full f g K=>Qo ns ids full g fun Qa (Qx:List (Int×Int×Int)) q2p q45=>Cnd (Qa=true) (Qy Qx q2p q45 f g (-1:Int) fun Qc (Z2:List (Int×Int×Int)) z6u j1b=>K Qc Z2 z6u j1b) (K (-1002:Int) Qx q2p q45)
def Gf:q3k:=z62 Ji Wp
abbrev Hu:Type:=List (Nd)->(Nd->Option (Int))->Bool->Int->Int->(Int->List (Nd)->(Nd->Option (Int))->Bool->Prop)->Prop
def z9r(Qo:Q9)(Qy:Zu):Hu:=fun ns ids full f g K=>Qo ns ids full g fun Qa (Qx:List (Int×Int×Int)) q2p q45=>Cnd (Qa=true) (Qy Qx q2p q45 f (-2:Int) g fun Qc (Z2:List (Int×Int×Int)) z6u j1b=>K Qc Z2 z6u j1b) (K (-1002:Int) Qx q2p q45)
def Ui:Hu:=z9r Ji Wp
abbrev Wt:Type:=List (Nd)->(Nd->Option (Int))->Bool->List (Ex)->Ex->(Int->List (Nd)->(Nd->Option (Int))->Bool->Prop)->Prop
def q60(j9z:q3j)(j90:q3k)(H9:Hu)(z2t:q6y)(q8d:G0)(X:Wt):Wt:=fun ns ids full atoms e K=>Cnd (e.1=1) (K (-2:Int) ns ids full) (Cnd (e.1=4) (((0:Int)<=(0:Int)/\(0:Int)<(↑e.5.length:Int))/\ ∀y0,e.5[Int.toNat (0:Int)]? =some y0->X ns ids full atoms (Ex.mk y0.1 y0.2 y0.3 y0.4 y0.5) fun Qh (Zi:List (Int×Int×Int)) q5d j8z=>j9z Zi q5d j8z Qh fun Qk (Hj:List (Int×Int×Int)) j9y v7y=>K Qk Hj j9y v7y) (Jn1 (fun Qa=>Cnd (Qa=true) (((0:Int)<=(0:Int)/\(0:Int)<(↑e.5.length:Int))/\ ∀y1,e.5[Int.toNat (0:Int)]? =some y1->X ns ids full atoms (Ex.mk y1.1 y1.2 y1.3 y1.4 y1.5) fun Qk (Hj:List (Int×Int×Int)) j9y v7y=>Lp5 (fun Qp Ju (j03:List (Int×Int×Int)) v70 y8k y8l=>Fits e.5->CAt e.5 Ju (fun y6=>X j03 y8k v70 atoms (Ex.mk y6.1 y6.2 y6.3 y6.4 y6.5) fun J3 (w68:List (Int×Int×Int)) y8m u0m=>Cnd (e.1=2) (j90 w68 y8m u0m Qp J3 fun W2 (z6d:List (Int×Int×Int)) y5i y1x=>InI (Ju+1)/\y8l W2 (Ju+1) z6d y1x y5i) (H9 w68 y8m u0m Qp J3 fun W2 (z6d:List (Int×Int×Int)) y5i y1x=>InI (Ju+1)/\y8l W2 (Ju+1) z6d y1x y5i)) (K Qp j03 y8k v70)) Qk (1:Int) Hj v7y j9y) (z2t atoms (Ex.mk e.1 e.2 e.3 e.4 e.5) fun Qc=>Cnd (Qc<0) (K (-1002:Int) ns ids full) (q8d ns ids full Qc (-2:Int) (-1:Int) fun Qh (Zi:List (Int×Int×Int)) q5d j8z=>K Qh Zi q5d j8z))) fun q3w=>Cnd (e.1=2) (q3w (decide (e.1=2))) (q3w (decide (e.1=3)))))
def q0n:Wt:=fun ns ids full atoms e K=> ∀X:Wt,(∀ns ids full atoms e K,q60 Ge Gf Ui Vo Z5 X ns ids full atoms e K->X ns ids full atoms e K)->X ns ids full atoms e K
abbrev Jp:Type:=List (Rul)->(List (Int)->Int->Bool->Prop)->Prop
def q2r(j04:z9o)(q17:Gz)(q18:Wt)(H9:Hu):Jp:=fun l K=>j04 fun (Qa:List (Int×Int×Int)) q8c z7f=>q17 l fun Qc=>LpH (fun Qh j01=>Fits l->CAt l Qh.2.2.1 (fun y4=>q18 Qh.2.2.2.1 Qh.2.2.2.2.2.1 Qh.2.2.2.2.1 Qc (Ex.mk y4.2.1 y4.2.2 y4.2.3 y4.2.4 y4.2.5) fun Zn (q93:List (Int×Int×Int)) v7z w38=>H9 q93 v7z w38 Qh.1 Zn fun Jm (z81:List (Int×Int×Int)) y51 y0t=>Cnd (Jm=(-1002:Int)) (Fits z81->K [] (↑z81.length:Int) false) (Cnd (Jm=Qh.1) (InI (Qh.2.2.1+1)/\Sml (Qh.2.1++[Qh.2.2.1+1]).length/\InI (Qh.2.2.1+1)/\j01 (Jm,Qh.2.1++[Qh.2.2.1+1],Qh.2.2.1+1,z81,y0t,y51,())) (InI (Qh.2.2.1+1)/\j01 (Jm,Qh.2.1,Qh.2.2.1+1,z81,y0t,y51,())))) (Fits Qh.2.2.2.1->K Qh.2.1 (↑Qh.2.2.2.1.length:Int) true)) ((-1:Int),[],(0:Int),Qa,z7f,q8c,())
def V3:Jp:=q2r w5f q0m q0n Ui
abbrev z3x:Type:=List (Int)->Int->ByteArray->(Lay_->Int->Prop)->Prop
def j6j(J4:q0g)(Qb:Zg)(Wi:q5i):z3x:=fun list at_ key K=>J4 list at_ fun Qa Qx=>Qb list Qx (3:Int) fun Qc Z2=>InI (Qc*50)/\Jn2 (fun Qh Zi=>Jn2 (fun Qk Hj=>Lp4 (fun Qp Ju j03 v70 y8k=>Qb list v70 (3:Int) fun Qj q94=>Cnd (Ju<Qj) (Wi list q94 (3000:Int) fun Zn q93=>InI (Qp+Zn)/\InI (Qp+Zn+1)/\Wi list q93 (2000:Int) fun Jm z81=>InI (Qp+Zn+1+Jm)/\Cnd ((10000:Int)<Qp+Zn+1+Jm) (K (Lay_.mk key Qh Qa Qk (Qc*50) j03) z81) (Qb list z81 (200:Int) fun J3 w68=>Sml (j03++[Col.mk (Qp+Zn) (Qp+Zn+1+Jm) J3]).length/\InI (Ju+1)/\y8k (Qp+Zn+1+Jm) (Ju+1) (j03++[Col.mk (Qp+Zn) (Qp+Zn+1+Jm) J3]) w68)) (K (Lay_.mk key Qh Qa Qk (Qc*50) j03) q94)) (0:Int) (0:Int) [] Hj) fun v7r=>Qb list Zi (2:Int) fun Qp Ju=>Cnd (Qp=1) (Wi list Ju (3000:Int) fun Qj q94=>v7r Qj q94) (v7r (0:Int) Ju)) fun w67=>Qb list Z2 (4:Int) fun Qk Hj=>Cnd (Qk=1) (w67 (B8 [100,101,118,105,99,101]) Hj) (w67 (B8 [117,115,101,114]) Hj)
def z9s:z3x:=j6j z1c Jv z5l
abbrev z5o:Type:=Int->(Bool->Prop)->Prop
def z5p:z5o:=fun now K=>Cnd ((0:Int)<=now) (K (decide (now<=1099511627776))) (K false)
abbrev W6:Type:=Envt->ByteArray->(Int->Prop)->Prop
def q0o:W6:=fun v key K=>Lp1 (fun Qa q8c=>Fits v.5->CAt v.5 Qa (fun y2=>Cnd (y2.1=key) (K Qa) (InI (Qa+1)/\q8c (Qa+1))) (K (-1:Int))) (0:Int)
abbrev q0p:Type:=List (Col)->Int->(List (Int)->Prop)->Prop
def q0q:q0p:=fun l now K=>((0:Int)<=(10000:Int)/\(10000:Int)<=(10000:Int)/\Sml (Int.toNat (10000:Int)))/\Lp2 (fun Qa Qx q2p=>Fits Qx->CAt Qx Qa (fun _=>InI (Qa+1)/\q2p (Qa+1) (Qx.set Qa.toNat now)) (Lp2 (fun Qh Zi q5d=>Fits l->CAt l Qh (fun y4=>Lp2 (fun Zn q93 v7z=>At l Qh fun y7=>Cnd (Zn<Min.min y7.2 (10000:Int)) (At q93 Zn fun y9=>At l Qh fun y11=>At q93 Zn fun _=>InI (Zn+1)/\v7z (Zn+1) (q93.set Zn.toNat (Max.max y9 y11.3))) (InI (Qh+1)/\q5d (Qh+1) q93)) (Max.max y4.1 (0:Int)) Zi) (K Zi)) (0:Int) Qx)) (0:Int) (List.replicate (Int.toNat (10000:Int)) (0:Int))
abbrev Wa:Type:=List (Bool)->(List (Spn)->Prop)->Prop
def G1:Wa:=fun set_ K=>Lp2 (fun Qa Qx q2p=>Fits set_->CAt set_ Qx (fun y2=>Cnd (y2=true) (Cnd ((0:Int)<Qx) (InI (Qx - 1)/\((0:Int)<=Qx - 1/\Qx - 1<(↑set_.length:Int))/\ ∀y4,set_[(Qx - 1).toNat]? =some y4->Cnd (y4=true) (Fits Qa->InI ((↑Qa.length:Int) - 1)/\InI (Qx+1)/\((0:Int)<=(↑Qa.length:Int) - 1/\(↑Qa.length:Int) - 1<(↑Qa.length:Int))/\ ∀y7,Qa[((↑Qa.length:Int) - 1).toNat]? =some y7->InI (Qx+1)/\q2p (Qa.set ((↑Qa.length:Int) - 1).toNat (Spn.mk y7.1 (Qx+1))) (Qx+1)) (InI (Qx+1)/\Sml (Qa++[Spn.mk Qx (Qx+1)]).length/\InI (Qx+1)/\q2p (Qa++[Spn.mk Qx (Qx+1)]) (Qx+1))) (InI (Qx+1)/\Sml (Qa++[Spn.mk Qx (Qx+1)]).length/\InI (Qx+1)/\q2p (Qa++[Spn.mk Qx (Qx+1)]) (Qx+1))) (InI (Qx+1)/\q2p Qa (Qx+1))) (K Qa)) [] (0:Int)
abbrev q61:Type:=List (Int)->Int->(List (Spn)->Prop)->Prop
def z7o(Q0:Wa):q61:=fun until_ now K=>Fits until_->((0:Int)<=(↑until_.length:Int)/\(↑until_.length:Int)<=(↑until_.length:Int)/\Sml (↑until_.length:Int).toNat)/\Lp2 (fun Qc Z2 z6u=>Fits until_->CAt until_ Qc (fun y3=>At Z2 Qc fun _=>InI (Qc+1)/\z6u (Qc+1) (Z2.set Qc.toNat (decide (now<y3)))) (Q0 Z2 fun Qk=>K Qk)) (0:Int) (List.replicate (↑until_.length:Int).toNat false)
def z1f:q61:=z7o G1
abbrev Rw:Type:=List (Spn)->(List (Bool)->Prop)->Prop
def q62:Rw:=fun l K=>((0:Int)<=(10000:Int)/\(10000:Int)<=(10000:Int)/\Sml (Int.toNat (10000:Int)))/\Lp2 (fun Qa Qx q2p=>Fits l->CAt l Qa (fun y2=>Lp2 (fun Qp Ju v09=>At l Qa fun y5=>Cnd (Qp<Min.min y5.2 (10000:Int)) (At Ju Qp fun _=>InI (Qp+1)/\v09 (Qp+1) (Ju.set Qp.toNat true)) (InI (Qa+1)/\q2p (Qa+1) Ju)) (Max.max y2.1 (0:Int)) Qx) (K Qx)) (0:Int) (List.replicate (Int.toNat (10000:Int)) false)
abbrev q63:Type:=List (Spn)->List (Spn)->(List (Spn)->Prop)->Prop
def z7p(Z0:Rw)(Q0:Wa):q63:=fun a b K=>Z0 a fun Qa=>Z0 b fun Qc=>Lp2 (fun Qh Zi q5d=>Fits Zi->CAt Zi Qh (fun y4=>Cnd (y4=true) (At Zi Qh fun _=>InI (Qh+1)/\q5d (Qh+1) (Zi.set Qh.toNat true)) (At Qc Qh fun y6=>At Zi Qh fun _=>InI (Qh+1)/\q5d (Qh+1) (Zi.set Qh.toNat y6))) (Q0 Zi fun Qp=>K Qp)) (0:Int) Qa
def z1g:q63:=z7p q62 G1
abbrev q64:Type:=Envt->ByteArray->ByteArray->Int->(List (Spn)->Prop)->Prop
def z7q(Zp:W6)(B4:q63)(Hk:q0p)(q3e:q61):q64:=fun v layer but now K=>Zp (Envt.mk (Sett.mk v.1.1 v.1.2 v.1.3) v.2 v.3 v.4 v.5 v.6) layer fun Qa=>Cnd (Qa<0) (K []) (Jn1 (fun Qc=>Lp2 (fun Qh Zi q5d=>Fits v.6->CAt v.6 Zi (fun y4=>Cnd (y4.2=layer) (Cnd (y4.1=but) (InI (Zi+1)/\q5d Qh (Zi+1)) (Cnd (y4.5=3) (InI (Zi+1)/\q5d Qh (Zi+1)) (B4 Qh y4.6 fun Zn=>InI (Zi+1)/\q5d Zn (Zi+1)))) (InI (Zi+1)/\q5d Qh (Zi+1))) (K Qh)) Qc (0:Int)) fun j5g=>At v.5 Qa fun y2=>At v.5 Qa fun y4=>(Hk y4.6 now fun Zn=>q3e Zn now fun Jm=>B4 [Spn.mk (0:Int) y2.4] Jm fun J3=>j5g J3)/\Hk y4.6 now fun Zn=>(q3e Zn now fun Jm=>B4 [Spn.mk (0:Int) y2.4] Jm fun J3=>j5g J3)/\q3e Zn now fun Jm=>B4 [Spn.mk (0:Int) y2.4] Jm fun J3=>j5g J3)
def z1h:q64:=z7q q0o z1g q0q z1f
abbrev Bo:Type:=List (Spn)->List (Spn)->(List (Spn)->Prop)->Prop
def z7r(Z0:Rw)(Q0:Wa):Bo:=fun a b K=>Z0 a fun Qa=>Z0 b fun Qc=>Lp2 (fun Qh Zi q5d=>Fits Zi->CAt Zi Qh (fun y4=>Cnd (y4=true) (At Qc Qh fun y6=>At Zi Qh fun _=>InI (Qh+1)/\q5d (Qh+1) (Zi.set Qh.toNat (match decide ((flC C.bool y6).1=true) with|true=>false|false=>true))) (At Zi Qh fun _=>InI (Qh+1)/\q5d (Qh+1) (Zi.set Qh.toNat false))) (Q0 Zi fun Qp=>K Qp)) (0:Int) Qa
def q65:Bo:=z7r q62 G1
abbrev z0e:Type:=Envt->ByteArray->Int->(List (Spn)->Int->Prop)->Prop
def j1w(z6e:z5o)(Zp:W6)(z2u:q64)(Uz:Bo):z0e:=fun v layer now K=>z6e now fun Qa=>Cnd (Qa=true) (Zp (Envt.mk (Sett.mk v.1.1 v.1.2 v.1.3) v.2 v.3 v.4 v.5 v.6) layer fun Qc=>Cnd (Qc<0) (K [] (11:Int)) (z2u (Envt.mk (Sett.mk v.1.1 v.1.2 v.1.3) v.2 v.3 v.4 v.5 v.6) layer (B8 []) now fun Qh=>Uz [Spn.mk (0:Int) (10000:Int)] Qh fun Qk=>K Qk (0:Int))) (K [] (3:Int))
def z5q:z0e:=j1w z5p q0o z1h q65
abbrev q66:Type:=List (Spn)->Int->(List (Spn)->Prop)->Prop
def z7s(Z0:Rw)(Q0:Wa):q66:=fun l n K=>Z0 l fun Qa=>Lp3 (fun Qc Z2 z6c v7q=>Fits z6c->CAt z6c Z2 (fun y3=>Cnd (y3=true) (Cnd (Qc<=0) (At z6c Z2 fun _=>InI (Z2+1)/\v7q Qc (Z2+1) (z6c.set Z2.toNat false)) (At z6c Z2 fun y5=>Cnd (y5=true) (InI (Qc - 1)/\InI (Z2+1)/\v7q (Qc - 1) (Z2+1) z6c) (InI (Z2+1)/\v7q Qc (Z2+1) z6c))) (At z6c Z2 fun y5=>Cnd (y5=true) (InI (Qc - 1)/\InI (Z2+1)/\v7q (Qc - 1) (Z2+1) z6c) (InI (Z2+1)/\v7q Qc (Z2+1) z6c))) (Q0 z6c fun Qk=>K Qk)) n (0:Int) Qa
def z1i:q66:=z7s q62 G1
abbrev W7:Type:=ByteArray->(Bool->Prop)->Prop
def W8(s:ByteArray)(K:Bool->Prop):Prop:=s.size<=(9223372036854775807:Nat)/\K (Go.Lib.validD s.data.toList)
abbrev Jb:Type:=ByteArray->(Bool->Prop)->Prop
def j1x(Zq:W7):Jb:=fun s K=>Cnd ((200:Int)<(↑s.size:Int)) (K false) (Zq s fun Qa=>Cnd (Qa=true) (Lp1 (fun Qc Ra=>Cnd (Qc<(↑s.size:Int)) (((0:Int)<=Qc/\Qc<(↑s.size:Int))/\ ∀b2,s[Qc.toNat]? =some b2->Cnd ((↑b2.toNat:Int)<32) (K false) (((0:Int)<=Qc/\Qc<(↑s.size:Int))/\ ∀b4,s[Qc.toNat]? =some b4->Cnd ((↑b4.toNat:Int)=127) (K false) (InI (Qc+1)/\Ra (Qc+1)))) (K true)) (0:Int)) (K false))
def Gg:Jb:=j1x W8
abbrev z9t:Type:=ByteArray->(Bool->Prop)->Prop
def z9u:z9t:=fun s K=>Lp1 (fun Qa q8c=>Cnd (Qa<(↑s.size:Int)) (((0:Int)<=Qa/\Qa<(↑s.size:Int))/\ ∀b1,s[Qa.toNat]? =some b1->Cnd ((97:Int)<=(↑b1.toNat:Int)) (Cnd ((↑b1.toNat:Int)<=122) (InI (Qa+1)/\q8c (Qa+1)) (Cnd (Qa=0) (K false) (Cnd ((48:Int)<=(↑b1.toNat:Int)) (Cnd ((↑b1.toNat:Int)<=57) (InI (Qa+1)/\q8c (Qa+1)) (Cnd ((↑b1.toNat:Int)=45) (InI (Qa+1)/\q8c (Qa+1)) (Cnd ((↑b1.toNat:Int)=95) (InI (Qa+1)/\q8c (Qa+1)) (K false)))) (Cnd ((↑b1.toNat:Int)=45) (InI (Qa+1)/\q8c (Qa+1)) (Cnd ((↑b1.toNat:Int)=95) (InI (Qa+1)/\q8c (Qa+1)) (K false)))))) (Cnd (Qa=0) (K false) (Cnd ((48:Int)<=(↑b1.toNat:Int)) (Cnd ((↑b1.toNat:Int)<=57) (InI (Qa+1)/\q8c (Qa+1)) (Cnd ((↑b1.toNat:Int)=45) (InI (Qa+1)/\q8c (Qa+1)) (Cnd ((↑b1.toNat:Int)=95) (InI (Qa+1)/\q8c (Qa+1)) (K false)))) (Cnd ((↑b1.toNat:Int)=45) (InI (Qa+1)/\q8c (Qa+1)) (Cnd ((↑b1.toNat:Int)=95) (InI (Qa+1)/\q8c (Qa+1)) (K false)))))) (K (decide ((0:Int)<(↑s.size:Int))))) (0:Int)
abbrev q5k:Type:=(List (ByteArray)->Prop)->Prop
def q5l:q5k:=fun K=>K [B8 [97,110,100],B8 [97,114,109,115],B8 [97,116,116,114,105,98,117,116,101],B8 [98,111,111,108],B8 [99,108,97,105,109,115],B8 [99,111,110,116,97,105,110,115],B8 [99,111,111,108],B8 [99,111,111,108,105,110,103],B8 [100,101,102,97,117,108,116],B8 [100,114,97,102,116],B8 [101,110,100,115],B8 [101,120,99,108,117,100,101],B8 [101,120,105,115,116,115],B8 [101,120,112,101,114,105,109,101,110,116],B8 [102,97,108,115,101],B8 [102,108,97,103],B8 [104,111,108,100,111,117,116],B8 [105,110],B8 [105,110,99,108,117,100,101],B8 [105,115],B8 [108,97,121,101,114],B8 [108,105,115,116],B8 [109,101,109,98,101,114],B8 [110,101,101,100,115],B8 [110,111,116],B8 [110,117,109,98,101,114],B8 [111,102,102],B8 [111,110],B8 [111,114],B8 [114,117,108,101],B8 [114,117,110,110,105,110,103],B8 [115,97,108,116],B8 [115,101,103,109,101,110,116],B8 [115,101,114,118,101],B8 [115,101,116,116,105,110,103,115],B8 [115,112,108,105,116],B8 [115,116,97,114,116,115],B8 [115,116,111,112,112,101,100],B8 [116,97,114,103,101,116],B8 [116,101,120,116],B8 [116,111],B8 [116,114,117,101],B8 [117,110,116,105,108],B8 [118,97,114,105,97,116,105,111,110,115],B8 [118,101,114,115,105,111,110],B8 [119,104,101,110]]
abbrev Z7:Type:=ByteArray->(Bool->Prop)->Prop
def w1s(j05:z9t)(q6c:q5k):Z7:=fun s K=>j05 s fun Qa=>Cnd (Qa=true) (Cnd ((32:Int)<(↑s.size:Int)) (K false) (q6c fun Qc=>Lp1 (fun Qh j01=>Fits Qc->CAt Qc Qh (fun y4=>Cnd (y4=s) (K false) (InI (Qh+1)/\j01 (Qh+1))) (K true)) (0:Int))) (K false)
def Gk:Z7:=w1s z9u q5l
abbrev q0r:Type:=Sett->(Int->Prop)->Prop
def z1j(Qr:Jb)(Qi:Z7):q0r:=fun s K=>Qr s.1 fun Qa=>Cnd (Qa=true) (Cnd (s.3<0) (K (3:Int)) (Cnd ((10000:Int)<s.3) (K (3:Int)) (Qi s.2 fun Qc=>Cnd (Qc=true) (K (0:Int)) (Cnd (s.2=B8 []) (Cnd (s.3=0) (K (0:Int)) (K (6:Int))) (K (6:Int)))))) (K (2:Int))
def q5m:q0r:=z1j Gg Gk
abbrev q0s:Type:=List (Decl)->(Int->Prop)->Prop
def z1k(Qi:Z7):q0s:=fun l K=>Fits l->Cnd ((30:Int)<(↑l.length:Int)) (K (5:Int)) (Lp1 (fun Qc Ra=>Fits l->CAt l Qc (fun y3=>Qi y3.1 fun Qj=>Cnd (Qj=true) (At l Qc fun y6=>Qi y6.2 fun J3=>Cnd (J3=true) (At l Qc fun y9=>Cnd (y9.2=B8 [107,101,121]) (K (6:Int)) (At l Qc fun y11=>Cnd (y11.3<1) (K (7:Int)) (At l Qc fun y13=>Cnd ((5:Int)<y13.3) (K (7:Int)) (Cnd ((0:Int)<Qc) (At l Qc fun y15=>InI (Qc - 1)/\((0:Int)<=Qc - 1/\Qc - 1<(↑l.length:Int))/\ ∀y17,l[(Qc - 1).toNat]? =some y17->Cnd (Lk.blt y15.1 y17.1) (K (9:Int)) (At l Qc fun y19=>InI (Qc - 1)/\((0:Int)<=Qc - 1/\Qc - 1<(↑l.length:Int))/\ ∀y21,l[(Qc - 1).toNat]? =some y21->Cnd (y19.1=y21.1) (At l Qc fun y23=>InI (Qc - 1)/\((0:Int)<=Qc - 1/\Qc - 1<(↑l.length:Int))/\ ∀y25,l[(Qc - 1).toNat]? =some y25->Cnd (Lk.blt y25.2 y23.2) (InI (Qc+1)/\Ra (Qc+1)) (K (9:Int))) (InI (Qc+1)/\Ra (Qc+1)))) (InI (Qc+1)/\Ra (Qc+1)))))) (K (6:Int))) (K (6:Int))) (K (0:Int))) (0:Int))
def q5n:q0s:=z1k Gk
abbrev G2:Type:=List (ByteArray)->(Int->Prop)->Prop
def z3y(Qr:Jb):G2:=fun l K=>Fits l->Cnd ((40:Int)<(↑l.length:Int)) (K (5:Int)) (Lp1 (fun Qc Ra=>Fits l->CAt l Qc (fun y3=>Cnd (y3=B8 []) (K (2:Int)) (At l Qc fun y5=>Qr y5 fun Jm=>Cnd (Jm=true) (Cnd ((0:Int)<Qc) (At l Qc fun y8=>InI (Qc - 1)/\((0:Int)<=Qc - 1/\Qc - 1<(↑l.length:Int))/\ ∀y10,l[(Qc - 1).toNat]? =some y10->Cnd (Lk.blt y10 y8) (InI (Qc+1)/\Ra (Qc+1)) (K (9:Int))) (InI (Qc+1)/\Ra (Qc+1))) (K (2:Int)))) (K (0:Int))) (0:Int))
def q37:G2:=z3y Gg
abbrev z9v:Type:=Ex->(Bool->Prop)->Prop
def z9w:z9v:=fun e K=>Cnd (e.1=0) (Cnd (e.2=B8 []) (Cnd (e.3=B8 []) (Fits e.4->Cnd ((↑e.4.length:Int)=0) (Fits e.5->K (decide ((↑e.5.length:Int)=0))) (K false)) (K false)) (K false)) (K false)
abbrev q67:Type:=Ex->(Bool->Prop)->Prop
def z7t(Zt:Gy):q67:=fun e K=>Fits e.5->Fits e.4->Jn2 (fun Qh Zi=>Zt e.1 fun Qk=>Cnd (Qh=true) (Cnd (Zi=true) (Cnd (Qk=true) (Cnd (Qk=true) (K true) (Cnd (e.1=5) (K true) (K (decide (e.3=B8 []))))) (Cnd (e.2=B8 []) (Cnd (Qk=true) (K true) (Cnd (e.1=5) (K true) (K (decide (e.3=B8 []))))) (K false))) (K false)) (K false)) fun w67=>Cnd (e.1=2) (Fits e.5->w67 (decide ((2:Int)<=(↑e.5.length:Int))) (decide ((↑e.4.length:Int)=0))) (Cnd (e.1=3) (Fits e.5->w67 (decide ((2:Int)<=(↑e.5.length:Int))) (decide ((↑e.4.length:Int)=0))) (Cnd (e.1=4) (Fits e.5->w67 (decide ((↑e.5.length:Int)=1)) (decide ((↑e.4.length:Int)=0))) (Cnd (e.1=8) (Fits e.4->w67 (decide ((↑e.5.length:Int)=0)) (decide ((0:Int)<(↑e.4.length:Int)))) (Zt e.1 fun Qk=>Cnd (Qk=true) (Cnd (e.1=6) (w67 (decide ((↑e.5.length:Int)=0)) (decide ((↑e.4.length:Int)=0))) (Fits e.4->w67 (decide ((↑e.5.length:Int)=0)) (decide ((↑e.4.length:Int)=1)))) (w67 (decide ((↑e.5.length:Int)=0)) (decide ((↑e.4.length:Int)=0)))))))
def z1l:q67:=z7t J8
abbrev z5r:Type:=Val->(Bool->Prop)->Prop
def z5s:z5r:=fun v K=>Cnd (v.1=1) (Cnd (v.1=3) (Cnd (v.1=5) (K true) (Fits v.4->K (decide ((↑v.4.length:Int)=0)))) (Cnd (v.1=4) (Cnd (v.1=5) (K true) (Fits v.4->K (decide ((↑v.4.length:Int)=0)))) (Cnd (v.3=B8 []) (Cnd (v.1=5) (K true) (Fits v.4->K (decide ((↑v.4.length:Int)=0)))) (K false)))) (Cnd (v.1=3) (Cnd (v.1=2) (Cnd (v.1=5) (K true) (Fits v.4->K (decide ((↑v.4.length:Int)=0)))) (Cnd (v.2=0) (Cnd (v.1=5) (K true) (Fits v.4->K (decide ((↑v.4.length:Int)=0)))) (K false))) (Cnd (v.1=2) (Cnd (v.1=4) (Cnd (v.1=5) (K true) (Fits v.4->K (decide ((↑v.4.length:Int)=0)))) (Cnd (v.3=B8 []) (Cnd (v.1=5) (K true) (Fits v.4->K (decide ((↑v.4.length:Int)=0)))) (K false))) (Cnd (v.2=0) (Cnd (v.1=4) (Cnd (v.1=5) (K true) (Fits v.4->K (decide ((↑v.4.length:Int)=0)))) (Cnd (v.3=B8 []) (Cnd (v.1=5) (K true) (Fits v.4->K (decide ((↑v.4.length:Int)=0)))) (K false))) (K false))))
abbrev R6:Type:=ByteArray->(Int->Int->Prop)->Prop
def R7:R6:=fun s K=>Jn1 (fun Qa=>Lp1 (fun Qc Ra=>Cnd (Qc<(↑Qa.size:Int)) (((0:Int)<=Qc/\Qc<(↑Qa.size:Int))/\ ∀b2,Qa[Qc.toNat]? =some b2->Cnd ((↑b2.toNat:Int)<48) (K (0:Int) (1:Int)) (((0:Int)<=Qc/\Qc<(↑Qa.size:Int))/\ ∀b4,Qa[Qc.toNat]? =some b4->Cnd ((57:Int)<(↑b4.toNat:Int)) (K (0:Int) (1:Int)) (InI (Qc+1)/\Ra (Qc+1)))) (Cnd (Qa=B8 []) (K (0:Int) (1:Int)) (((0:Int)<=(0:Int)/\(0:Int)<(↑Qa.size:Int))/\ ∀b2,Qa[Int.toNat (0:Int)]? =some b2->Cnd ((↑b2.toNat:Int)=48) (Cnd (s=B8 [48]) (Cnd ((13:Int)<(↑Qa.size:Int)) (K (0:Int) (3:Int)) (Lp2 (fun Qp Ju v09=>Cnd (Ju<(↑Qa.size:Int)) (InI ((10:Int)*Qp)/\((0:Int)<=Ju/\Ju<(↑Qa.size:Int))/\ ∀b5,Qa[Ju.toNat]? =some b5->InI (Go.IntKind.u8.wrap ((↑b5.toNat:Int) - 48))/\InI ((10:Int)*Qp+Go.IntKind.u8.wrap ((↑b5.toNat:Int) - 48))/\InI (Ju+1)/\v09 ((10:Int)*Qp+Go.IntKind.u8.wrap ((↑b5.toNat:Int) - 48)) (Ju+1)) (Cnd ((1099511627776:Int)<Qp) (K (0:Int) (3:Int)) (Cnd ((↑Qa.size:Int)<(↑s.size:Int)) (InI ((0:Int) - Qp)/\K ((0:Int) - Qp) (0:Int)) (K Qp (0:Int))))) (0:Int) (0:Int))) (K (0:Int) (1:Int))) (Cnd ((13:Int)<(↑Qa.size:Int)) (K (0:Int) (3:Int)) (Lp2 (fun Qp Ju v09=>Cnd (Ju<(↑Qa.size:Int)) (InI ((10:Int)*Qp)/\((0:Int)<=Ju/\Ju<(↑Qa.size:Int))/\ ∀b5,Qa[Ju.toNat]? =some b5->InI (Go.IntKind.u8.wrap ((↑b5.toNat:Int) - 48))/\InI ((10:Int)*Qp+Go.IntKind.u8.wrap ((↑b5.toNat:Int) - 48))/\InI (Ju+1)/\v09 ((10:Int)*Qp+Go.IntKind.u8.wrap ((↑b5.toNat:Int) - 48)) (Ju+1)) (Cnd ((1099511627776:Int)<Qp) (K (0:Int) (3:Int)) (Cnd ((↑Qa.size:Int)<(↑s.size:Int)) (InI ((0:Int) - Qp)/\K ((0:Int) - Qp) (0:Int)) (K Qp (0:Int))))) (0:Int) (0:Int)))))) (0:Int)) fun q3w=>Cnd ((0:Int)<(↑s.size:Int)) (((0:Int)<=(0:Int)/\(0:Int)<(↑s.size:Int))/\ ∀b1,s[Int.toNat (0:Int)]? =some b1->Cnd ((↑b1.toNat:Int)=45) (((0:Int)<=(1:Int)/\(1:Int)<=(↑s.size:Int)/\(↑s.size:Int)<=(↑s.size:Int))/\q3w (s.extract (Int.toNat (1:Int)) (↑s.size:Int).toNat)) (q3w s)) (q3w s)
abbrev z0f:Type:=ByteArray->(A3->Bool->Prop)->Prop
def j1y(Gc:R6):z0f:=fun s K=>LpH (fun (Qa:Int×Int×Int×Int×Int×Int×Int×Int×Unit) q8c=>Cnd (Qa.2.1<3) (Lp1 (fun Qc Ra=>Cnd (Qc<(↑s.size:Int)) (((0:Int)<=Qc/\Qc<(↑s.size:Int))/\ ∀b2,s[Qc.toNat]? =some b2->Cnd ((↑b2.toNat:Int)=46) (((0:Int)<=Qa.1/\Qa.1<=Qc/\Qc<=(↑s.size:Int))/\Gc (s.extract Qa.1.toNat Qc.toNat) fun Qp Ju=>Cnd (Ju=0) (Cnd (Qp<0) (K ((0:Int),(0:Int),(0:Int)) false) (Cnd ((999999:Int)<Qp) (K ((0:Int),(0:Int),(0:Int)) false) (Cnd (decide (Qa.2.1<2)=decide (Qc<(↑s.size:Int))) (((0:Int)<=Qa.2.1/\Qa.2.1<(↑(3:Nat):Int))/\((True/\(Qa.2.1=(↑(nat_lit 0):Int)->InI (Qc+1)/\InI (Qa.2.1+1)/\q8c (Qc+1,Qa.2.1+1,Qp,Qa.2.2.2.1,Qa.2.2.2.2.1,Qa.2.2.2.2.2.1,Qa.2.2.2.2.2.2.1,Qa.2.2.2.2.2.2.2.1,())))/\(Qa.2.1=(↑(nat_lit 1):Int)->InI (Qc+1)/\InI (Qa.2.1+1)/\q8c (Qc+1,Qa.2.1+1,Qa.2.2.1,Qp,Qa.2.2.2.2.1,Qa.2.2.2.2.2.1,Qa.2.2.2.2.2.2.1,Qa.2.2.2.2.2.2.2.1,())))/\(Qa.2.1=(↑(nat_lit 2):Int)->InI (Qc+1)/\InI (Qa.2.1+1)/\q8c (Qc+1,Qa.2.1+1,Qa.2.2.1,Qa.2.2.2.1,Qp,Qa.2.2.2.2.2.1,Qa.2.2.2.2.2.2.1,Qa.2.2.2.2.2.2.2.1,()))) (K ((0:Int),(0:Int),(0:Int)) false)))) (K ((0:Int),(0:Int),(0:Int)) false)) (InI (Qc+1)/\Ra (Qc+1))) (((0:Int)<=Qa.1/\Qa.1<=Qc/\Qc<=(↑s.size:Int))/\Gc (s.extract Qa.1.toNat Qc.toNat) fun Qh Zi=>Cnd (Zi=0) (Cnd (Qh<0) (K ((0:Int),(0:Int),(0:Int)) false) (Cnd ((999999:Int)<Qh) (K ((0:Int),(0:Int),(0:Int)) false) (Cnd (decide (Qa.2.1<2)=decide (Qc<(↑s.size:Int))) (((0:Int)<=Qa.2.1/\Qa.2.1<(↑(3:Nat):Int))/\((True/\(Qa.2.1=(↑(nat_lit 0):Int)->InI (Qc+1)/\InI (Qa.2.1+1)/\q8c (Qc+1,Qa.2.1+1,Qh,Qa.2.2.2.1,Qa.2.2.2.2.1,Qa.2.2.2.2.2.1,Qa.2.2.2.2.2.2.1,Qa.2.2.2.2.2.2.2.1,())))/\(Qa.2.1=(↑(nat_lit 1):Int)->InI (Qc+1)/\InI (Qa.2.1+1)/\q8c (Qc+1,Qa.2.1+1,Qa.2.2.1,Qh,Qa.2.2.2.2.1,Qa.2.2.2.2.2.1,Qa.2.2.2.2.2.2.1,Qa.2.2.2.2.2.2.2.1,())))/\(Qa.2.1=(↑(nat_lit 2):Int)->InI (Qc+1)/\InI (Qa.2.1+1)/\q8c (Qc+1,Qa.2.1+1,Qa.2.2.1,Qa.2.2.2.1,Qh,Qa.2.2.2.2.2.1,Qa.2.2.2.2.2.2.1,Qa.2.2.2.2.2.2.2.1,()))) (K ((0:Int),(0:Int),(0:Int)) false)))) (K ((0:Int),(0:Int),(0:Int)) false))) Qa.1) (K (Qa.2.2.1,Qa.2.2.2.1,Qa.2.2.2.2.1) true)) ((0:Int),(0:Int),(0:Int),(0:Int),(0:Int),(0:Int),(0:Int),(0:Int),())
def z5t:z0f:=j1y R7
abbrev z3z:Type:=List (ByteArray)->(Int->Prop)->Prop
def j6k(Qr:Jb):z3z:=fun l K=>Fits l->Cnd ((20:Int)<(↑l.length:Int)) (K (5:Int)) (Lp1 (fun Qc Ra=>Fits l->CAt l Qc (fun y3=>Qr y3 fun Qj=>Cnd (Qj=true) (InI (Qc+1)/\Ra (Qc+1)) (K (2:Int))) (Lp1 (fun Qk z82=>Fits l->CAt l Qk (fun y5=>InI (Qk - 1)/\((0:Int)<=Qk - 1/\Qk - 1<(↑l.length:Int))/\ ∀y7,l[(Qk - 1).toNat]? =some y7->Cnd (Lk.blt y7 y5) (InI (Qk+1)/\z82 (Qk+1)) (K (9:Int))) (K (0:Int))) (1:Int))) (0:Int))
def z9x:z3z:=j6k Gg
abbrev q2s:Type:=Val->(Int->Prop)->Prop
def j1z(z6f:z5r)(Qr:Jb)(z6g:z0f)(j06:z3z):q2s:=fun v K=>Cnd (v.1<1) (K (7:Int)) (Cnd ((5:Int)<v.1) (K (7:Int)) (z6f v fun Qa=>Cnd (Qa=true) (Cnd (v.1=1) (Cnd (v.2=0) (K (0:Int)) (Cnd (v.2=1) (K (0:Int)) (K (3:Int)))) (Cnd (v.1=2) (Cnd (v.2<(-1099511627776:Int)) (K (3:Int)) (Cnd ((1099511627776:Int)<v.2) (K (3:Int)) (K (0:Int)))) (Cnd (v.1=3) (Qr v.3 fun Qc=>Cnd (Qc=true) (K (0:Int)) (K (2:Int))) (Cnd (v.1=4) (z6g v.3 fun (_:Int×Int×Int) Z2=>Cnd (Z2=true) (K (0:Int)) (K (1:Int))) (Cnd (v.1=5) (j06 v.4 fun Qc=>K Qc) (K (0:Int))))))) (K (15:Int))))
def z0g:q2s:=j1z z5s Gg z5t z9x
abbrev z9y:Type:=Ex->(Int->Prop)->Prop
def j6l(z2v:q67)(Zt:Gy)(Qi:Z7)(J5:q2s):z9y:=fun e K=>Cnd (e.1<1) (K (7:Int)) (Cnd ((15:Int)<e.1) (K (7:Int)) (z2v (Ex.mk e.1 e.2 e.3 e.4 e.5) fun Qa=>Cnd (Qa=true) (Fits e.5->Cnd ((12:Int)<(↑e.5.length:Int)) (K (5:Int)) (Fits e.4->Cnd ((20:Int)<(↑e.4.length:Int)) (K (5:Int)) (Lp1 (fun Qk z82=>Fits e.5->CAt e.5 Qk (fun y5=>Cnd (y5.1=e.1) (Cnd (e.1=4) (InI (Qk+1)/\z82 (Qk+1)) (K (15:Int))) (InI (Qk+1)/\z82 (Qk+1))) (Zt e.1 fun Qj=>Cnd (Qj=true) (Qi e.2 fun Zn=>Cnd (Zn=true) (Zt e.1 fun Jm=>Cnd (Jm=true) (Qi e.3 fun J3=>Cnd (J3=true) (Lp1 (fun W2 y5j=>Fits e.4->CAt e.4 W2 (fun y11=>J5 y11 fun Q4=>Cnd (Q4=0) (InI (W2+1)/\y5j (W2+1)) (K Q4)) (Cnd (e.1=9) (((0:Int)<=(0:Int)/\(0:Int)<(↑e.4.length:Int))/\ ∀y11,e.4[Int.toNat (0:Int)]? =some y11->Cnd (y11.1=3) (K (0:Int)) (K (8:Int))) (Cnd (e.1=10) (((0:Int)<=(0:Int)/\(0:Int)<(↑e.4.length:Int))/\ ∀y11,e.4[Int.toNat (0:Int)]? =some y11->Cnd (y11.1=3) (K (0:Int)) (K (8:Int))) (Cnd (e.1=11) (((0:Int)<=(0:Int)/\(0:Int)<(↑e.4.length:Int))/\ ∀y11,e.4[Int.toNat (0:Int)]? =some y11->Cnd (y11.1=3) (K (0:Int)) (K (8:Int))) (K (0:Int)))))) (0:Int)) (K (6:Int))) (Cnd (e.1=5) (Qi e.3 fun J3=>Cnd (J3=true) (Lp1 (fun W2 y5j=>Fits e.4->CAt e.4 W2 (fun y11=>J5 y11 fun Q4=>Cnd (Q4=0) (InI (W2+1)/\y5j (W2+1)) (K Q4)) (Cnd (e.1=9) (((0:Int)<=(0:Int)/\(0:Int)<(↑e.4.length:Int))/\ ∀y11,e.4[Int.toNat (0:Int)]? =some y11->Cnd (y11.1=3) (K (0:Int)) (K (8:Int))) (Cnd (e.1=10) (((0:Int)<=(0:Int)/\(0:Int)<(↑e.4.length:Int))/\ ∀y11,e.4[Int.toNat (0:Int)]? =some y11->Cnd (y11.1=3) (K (0:Int)) (K (8:Int))) (Cnd (e.1=11) (((0:Int)<=(0:Int)/\(0:Int)<(↑e.4.length:Int))/\ ∀y11,e.4[Int.toNat (0:Int)]? =some y11->Cnd (y11.1=3) (K (0:Int)) (K (8:Int))) (K (0:Int)))))) (0:Int)) (K (6:Int))) (Lp1 (fun J3 y71=>Fits e.4->CAt e.4 J3 (fun y10=>J5 y10 fun Ub=>Cnd (Ub=0) (InI (J3+1)/\y71 (J3+1)) (K Ub)) (Cnd (e.1=9) (((0:Int)<=(0:Int)/\(0:Int)<(↑e.4.length:Int))/\ ∀y10,e.4[Int.toNat (0:Int)]? =some y10->Cnd (y10.1=3) (K (0:Int)) (K (8:Int))) (Cnd (e.1=10) (((0:Int)<=(0:Int)/\(0:Int)<(↑e.4.length:Int))/\ ∀y10,e.4[Int.toNat (0:Int)]? =some y10->Cnd (y10.1=3) (K (0:Int)) (K (8:Int))) (Cnd (e.1=11) (((0:Int)<=(0:Int)/\(0:Int)<(↑e.4.length:Int))/\ ∀y10,e.4[Int.toNat (0:Int)]? =some y10->Cnd (y10.1=3) (K (0:Int)) (K (8:Int))) (K (0:Int)))))) (0:Int)))) (K (6:Int))) (Zt e.1 fun Zn=>Cnd (Zn=true) (Qi e.3 fun Jm=>Cnd (Jm=true) (Lp1 (fun J3 y71=>Fits e.4->CAt e.4 J3 (fun y10=>J5 y10 fun Ub=>Cnd (Ub=0) (InI (J3+1)/\y71 (J3+1)) (K Ub)) (Cnd (e.1=9) (((0:Int)<=(0:Int)/\(0:Int)<(↑e.4.length:Int))/\ ∀y10,e.4[Int.toNat (0:Int)]? =some y10->Cnd (y10.1=3) (K (0:Int)) (K (8:Int))) (Cnd (e.1=10) (((0:Int)<=(0:Int)/\(0:Int)<(↑e.4.length:Int))/\ ∀y10,e.4[Int.toNat (0:Int)]? =some y10->Cnd (y10.1=3) (K (0:Int)) (K (8:Int))) (Cnd (e.1=11) (((0:Int)<=(0:Int)/\(0:Int)<(↑e.4.length:Int))/\ ∀y10,e.4[Int.toNat (0:Int)]? =some y10->Cnd (y10.1=3) (K (0:Int)) (K (8:Int))) (K (0:Int)))))) (0:Int)) (K (6:Int))) (Cnd (e.1=5) (Qi e.3 fun Jm=>Cnd (Jm=true) (Lp1 (fun J3 y71=>Fits e.4->CAt e.4 J3 (fun y10=>J5 y10 fun Ub=>Cnd (Ub=0) (InI (J3+1)/\y71 (J3+1)) (K Ub)) (Cnd (e.1=9) (((0:Int)<=(0:Int)/\(0:Int)<(↑e.4.length:Int))/\ ∀y10,e.4[Int.toNat (0:Int)]? =some y10->Cnd (y10.1=3) (K (0:Int)) (K (8:Int))) (Cnd (e.1=10) (((0:Int)<=(0:Int)/\(0:Int)<(↑e.4.length:Int))/\ ∀y10,e.4[Int.toNat (0:Int)]? =some y10->Cnd (y10.1=3) (K (0:Int)) (K (8:Int))) (Cnd (e.1=11) (((0:Int)<=(0:Int)/\(0:Int)<(↑e.4.length:Int))/\ ∀y10,e.4[Int.toNat (0:Int)]? =some y10->Cnd (y10.1=3) (K (0:Int)) (K (8:Int))) (K (0:Int)))))) (0:Int)) (K (6:Int))) (Lp1 (fun Jm y5k=>Fits e.4->CAt e.4 Jm (fun y9=>J5 y9 fun Vv=>Cnd (Vv=0) (InI (Jm+1)/\y5k (Jm+1)) (K Vv)) (Cnd (e.1=9) (((0:Int)<=(0:Int)/\(0:Int)<(↑e.4.length:Int))/\ ∀y9,e.4[Int.toNat (0:Int)]? =some y9->Cnd (y9.1=3) (K (0:Int)) (K (8:Int))) (Cnd (e.1=10) (((0:Int)<=(0:Int)/\(0:Int)<(↑e.4.length:Int))/\ ∀y9,e.4[Int.toNat (0:Int)]? =some y9->Cnd (y9.1=3) (K (0:Int)) (K (8:Int))) (Cnd (e.1=11) (((0:Int)<=(0:Int)/\(0:Int)<(↑e.4.length:Int))/\ ∀y9,e.4[Int.toNat (0:Int)]? =some y9->Cnd (y9.1=3) (K (0:Int)) (K (8:Int))) (K (0:Int)))))) (0:Int)))))) (0:Int)))) (K (15:Int))))
def z0h:z9y:=j6l z1l J8 Gk z0g
abbrev q68:Type:=Ex->Int->Int->(Int->Int->Prop)->Prop
def j6m(v7s:z9y)(X:q68):q68:=fun e depth n K=>Cnd ((60:Int)<=n) (K (5:Int) n) (InI (n+1)/\Cnd ((10:Int)<depth) (K (18:Int) (n+1)) (v7s (Ex.mk e.1 e.2 e.3 e.4 e.5) fun Qa=>Cnd (Qa=0) (Lp2 (fun Qc Z2 z6u=>Fits e.5->CAt e.5 Qc (fun y3=>InI (depth+1)/\X (Ex.mk y3.1 y3.2 y3.3 y3.4 y3.5) (depth+1) Z2 fun Qj q94=>Cnd (Qj=0) (InI (Qc+1)/\z6u (Qc+1) q94) (K Qj q94)) (K (0:Int) Z2)) (0:Int) (n+1)) (K Qa (n+1))))
def z9z:q68:=fun e depth n K=> ∀X:q68,(∀e depth n K,j6m z0h X e depth n K->X e depth n K)->X e depth n K
abbrev q0t:Type:=Ex->(Int->Prop)->Prop
def j6n(j07:q68):q0t:=fun e K=>j07 (Ex.mk e.1 e.2 e.3 e.4 e.5) (1:Int) (0:Int) fun Qa _=>K Qa
def z0i:q0t:=j6n z9z
abbrev q38:Type:=Seg->(Int->Prop)->Prop
def z30(Qi:Z7)(Wo:G2)(j08:z9v)(Vi:q0t):q38:=fun g K=>Qi g.1 fun Qa=>Cnd (Qa=true) (Qi g.2 fun Qc=>Cnd (Qc=true) (Wo g.3 fun Qh=>Cnd (Qh=0) (Wo g.4 fun Qk=>Cnd (Qk=0) (j08 (Ex.mk g.5.1 g.5.2 g.5.3 g.5.4 g.5.5) fun Qp=>Cnd (Qp=true) (K (0:Int)) (Vi (Ex.mk g.5.1 g.5.2 g.5.3 g.5.4 g.5.5) fun Qj=>K Qj)) (K Qk)) (K Qh)) (K (6:Int))) (K (6:Int))
def q8m:q38:=z30 Gk q37 z9w z0i
abbrev q0u:Type:=List (Seg)->(Int->Prop)->Prop
def z1m(q88:q38):q0u:=fun l K=>Fits l->Cnd ((20:Int)<(↑l.length:Int)) (K (5:Int)) (Lp1 (fun Qc Ra=>Fits l->CAt l Qc (fun y3=>q88 (Seg.mk y3.1 y3.2 y3.3 y3.4 (Ex.mk y3.5.1 y3.5.2 y3.5.3 y3.5.4 y3.5.5)) fun Qj=>Cnd (Qj=0) (Cnd ((0:Int)<Qc) (At l Qc fun y6=>InI (Qc - 1)/\((0:Int)<=Qc - 1/\Qc - 1<(↑l.length:Int))/\ ∀y8,l[(Qc - 1).toNat]? =some y8->Cnd (Lk.blt y8.1 y6.1) (InI (Qc+1)/\Ra (Qc+1)) (K (9:Int))) (InI (Qc+1)/\Ra (Qc+1))) (K Qj)) (K (0:Int))) (0:Int))
def q5o:q0u:=z1m q8m
abbrev G3:Type:=Flg->(Int->Prop)->Prop
def q69(J5:q2s):G3:=fun f K=>Fits f.3->Cnd ((8:Int)<(↑f.3.length:Int)) (K (5:Int)) (Cnd ((↑f.3.length:Int)=0) (K (3:Int)) (Lp1 (fun Qc Ra=>CAt f.3 Qc (fun y2=>J5 y2 fun Qp=>Cnd (Qp=0) (At f.3 Qc fun y5=>Cnd (y5.1=f.2) (InI (Qc+1)/\Ra (Qc+1)) (K (8:Int))) (K Qp)) (Cnd (f.5<1) (K (3:Int)) (Cnd ((↑f.3.length:Int)<f.5) (K (3:Int)) (K (0:Int))))) (0:Int)))
def q0v:G3:=q69 z0g
abbrev W9:Type:=List (Prq)->(Int->Prop)->Prop
def q0w(Qi:Z7):W9:=fun l K=>Fits l->Cnd ((4:Int)<(↑l.length:Int)) (K (5:Int)) (Lp1 (fun Qc Ra=>Fits l->CAt l Qc (fun y3=>Qi y3.1 fun Qj=>Cnd (Qj=true) (Cnd ((0:Int)<Qc) (At l Qc fun y6=>InI (Qc - 1)/\((0:Int)<=Qc - 1/\Qc - 1<(↑l.length:Int))/\ ∀y8,l[(Qc - 1).toNat]? =some y8->Cnd (Lk.blt y8.1 y6.1) (At l Qc fun y10=>Cnd (y10.2<1) (K (3:Int)) (At l Qc fun y12=>Cnd ((8:Int)<y12.2) (K (3:Int)) (InI (Qc+1)/\Ra (Qc+1)))) (K (9:Int))) (At l Qc fun y6=>Cnd (y6.2<1) (K (3:Int)) (At l Qc fun y8=>Cnd ((8:Int)<y8.2) (K (3:Int)) (InI (Qc+1)/\Ra (Qc+1))))) (K (6:Int))) (K (0:Int))) (0:Int))
def Gl:W9:=q0w Gk
abbrev q39:Type:=List (Tgt)->Int->(Int->Prop)->Prop
def z32(Qi:Z7)(Wo:G2):q39:=fun l n K=>Fits l->Cnd ((8:Int)<(↑l.length:Int)) (K (5:Int)) (Lp1 (fun Qc Ra=>Fits l->CAt l Qc (fun y3=>Qi y3.1 fun Qj=>Cnd (Qj=true) (At l Qc fun y6=>Cnd (y6.2<1) (K (3:Int)) (At l Qc fun y8=>Cnd (n<y8.2) (K (3:Int)) (At l Qc fun y10=>Fits y10.3->Cnd ((↑y10.3.length:Int)=0) (K (3:Int)) (At l Qc fun y13=>Wo y13.3 fun w63=>Cnd (w63=0) (InI (Qc+1)/\Ra (Qc+1)) (K w63))))) (K (6:Int))) (K (0:Int))) (0:Int))
def q8n:q39:=z32 Gk q37
abbrev q6o:Type:=List (Rng)->Int->(Int->Prop)->Prop
def z0j:q6o:=fun l variations K=>Fits l->Cnd ((16:Int)<(↑l.length:Int)) (K (5:Int)) (Lp2 (fun Qc Z2 z6u=>Fits l->CAt l Z2 (fun y3=>Cnd (y3.3<1) (K (3:Int)) (At l Z2 fun y5=>Cnd (variations<y5.3) (K (3:Int)) (At l Z2 fun y7=>Cnd (y7.1=Qc) (At l Z2 fun y9=>Cnd (y9.2<=Qc) (K (9:Int)) (Cnd ((0:Int)<Z2) (At l Z2 fun y11=>InI (Z2 - 1)/\((0:Int)<=Z2 - 1/\Z2 - 1<(↑l.length:Int))/\ ∀y13,l[(Z2 - 1).toNat]? =some y13->Cnd (y11.3=y13.3) (K (9:Int)) (At l Z2 fun y15=>InI (Z2+1)/\z6u y15.2 (Z2+1))) (At l Z2 fun y11=>InI (Z2+1)/\z6u y11.2 (Z2+1)))) (K (9:Int))))) (Cnd (Qc=10000) (K (0:Int)) (K (3:Int)))) (0:Int) (0:Int))
abbrev q2t:Type:=Srv->Int->(Int->Prop)->Prop
def j10(Qi:Z7)(Qr:Jb)(Rb:q6o):q2t:=fun v variations K=>Cnd (v.1=0) (Qi v.2 fun Qa=>Cnd (Qa=true) (Qi v.3 fun Qc=>Cnd (Qc=true) (Qr v.4 fun Qh=>Cnd (Qh=true) (Rb v.5 variations fun Qk=>K Qk) (K (2:Int))) (K (6:Int))) (K (6:Int))) (Cnd (v.1<1) (K (3:Int)) (Cnd (variations<v.1) (K (3:Int)) (Cnd (v.2=B8 []) (Cnd (v.3=B8 []) (Cnd (v.4=B8 []) (Fits v.5->Cnd ((0:Int)<(↑v.5.length:Int)) (K (15:Int)) (K (0:Int))) (K (15:Int))) (K (15:Int))) (K (15:Int)))))
def z0k:q2t:=j10 Gk Gg z0j
abbrev z0l:Type:=List (Rul)->Int->(Int->Prop)->Prop
def j11(Qi:Z7)(Vi:q0t)(Rd:q2t):z0l:=fun l n K=>Fits l->Cnd ((12:Int)<(↑l.length:Int)) (K (5:Int)) (Lp1 (fun Qc Ra=>Fits l->CAt l Qc (fun y3=>Qi y3.1 fun Qj=>Cnd (Qj=true) (Lp1 (fun Zn v3n=>Cnd (Zn<Qc) (At l Zn fun y7=>At l Qc fun y9=>Cnd (y7.1=y9.1) (K (10:Int)) (InI (Zn+1)/\v3n (Zn+1))) (At l Qc fun y7=>Vi (Ex.mk y7.2.1 y7.2.2 y7.2.3 y7.2.4 y7.2.5) fun W2=>Cnd (W2=0) (At l Qc fun y10=>Rd (Srv.mk y10.3.1 y10.3.2 y10.3.3 y10.3.4 y10.3.5) n fun Ub=>Cnd (Ub=0) (InI (Qc+1)/\Ra (Qc+1)) (K Ub)) (K W2))) (0:Int)) (K (6:Int))) (K (0:Int))) (0:Int))
def z5u:z0l:=j11 Gk z0i z0k
abbrev z33:Type:=Flg->(Int->Prop)->Prop
def j6o(Qi:Z7)(q19:G3)(Gt:W9)(q89:q39)(z6h:z0l)(Rd:q2t):z33:=fun f K=>Fits f.3->Qi f.1 fun Qc=>Cnd (Qc=true) (Cnd (f.2<1) (K (7:Int)) (Cnd ((5:Int)<f.2) (K (7:Int)) (q19 (Flg.mk f.1 f.2 f.3 f.4 f.5 f.6 f.7 f.8 (Srv.mk f.9.1 f.9.2 f.9.3 f.9.4 f.9.5)) fun Qh=>Cnd (Qh=0) (Gt f.6 fun Qk=>Cnd (Qk=0) (q89 f.7 (↑f.3.length:Int) fun Qp=>Cnd (Qp=0) (z6h f.8 (↑f.3.length:Int) fun Qj=>Cnd (Qj=0) (Rd (Srv.mk f.9.1 f.9.2 f.9.3 f.9.4 f.9.5) (↑f.3.length:Int) fun Zn=>K Zn) (K Qj)) (K Qp)) (K Qk)) (K Qh)))) (K (6:Int))
def z90:z33:=j6o Gk q0v Gl q8n z5u z0k
abbrev z0m:Type:=List (Flg)->(Int->Prop)->Prop
def j12(j09:z33):z0m:=fun l K=>Fits l->Cnd ((30:Int)<(↑l.length:Int)) (K (5:Int)) (Lp1 (fun Qc Ra=>Fits l->CAt l Qc (fun y3=>j09 (Flg.mk y3.1 y3.2 y3.3 y3.4 y3.5 y3.6 y3.7 y3.8 (Srv.mk y3.9.1 y3.9.2 y3.9.3 y3.9.4 y3.9.5)) fun Qj=>Cnd (Qj=0) (Cnd ((0:Int)<Qc) (At l Qc fun y6=>InI (Qc - 1)/\((0:Int)<=Qc - 1/\Qc - 1<(↑l.length:Int))/\ ∀y8,l[(Qc - 1).toNat]? =some y8->Cnd (Lk.blt y8.1 y6.1) (InI (Qc+1)/\Ra (Qc+1)) (K (9:Int))) (InI (Qc+1)/\Ra (Qc+1))) (K Qj)) (K (0:Int))) (0:Int))
def z5v:z0m:=j12 z90
abbrev z0n:Type:=Lay_->(Int->Prop)->Prop
def j13(Qi:Z7)(Qr:Jb):z0n:=fun l K=>Qi l.1 fun Qa=>Cnd (Qa=true) (Qi l.2 fun Qc=>Cnd (Qc=true) (Qr l.3 fun Qh=>Cnd (Qh=true) (Cnd (l.4<0) (K (3:Int)) (Cnd ((10000:Int)<l.4) (K (3:Int)) (Cnd (l.5<0) (K (3:Int)) (Cnd ((1099511627776:Int)<l.5) (K (3:Int)) (Fits l.6->Cnd ((32:Int)<(↑l.6.length:Int)) (K (5:Int)) (Lp1 (fun Qp y52=>Fits l.6->CAt l.6 Qp (fun y6=>Cnd (y6.1<0) (K (3:Int)) (Cnd (y6.2<=y6.1) (K (3:Int)) (Cnd ((10000:Int)<y6.2) (K (3:Int)) (Cnd (y6.3<0) (K (3:Int)) (Cnd ((1099511627776:Int)<y6.3) (K (3:Int)) (Cnd ((0:Int)<Qp) (InI (Qp - 1)/\((0:Int)<=Qp - 1/\Qp - 1<(↑l.6.length:Int))/\ ∀y8,l.6[(Qp - 1).toNat]? =some y8->Cnd (y6.1<y8.2) (K (9:Int)) (InI (Qp+1)/\y52 (Qp+1))) (InI (Qp+1)/\y52 (Qp+1)))))))) (K (0:Int))) (0:Int))))))) (K (2:Int))) (K (6:Int))) (K (6:Int))
def z5w:z0n:=j13 Gk Gg
abbrev q7a:Type:=List (Lay_)->(Int->Prop)->Prop
def z7u(z6i:z0n):q7a:=fun l K=>Fits l->Cnd ((6:Int)<(↑l.length:Int)) (K (5:Int)) (Lp1 (fun Qc Ra=>Fits l->CAt l Qc (fun y3=>z6i y3 fun Qj=>Cnd (Qj=0) (Cnd ((0:Int)<Qc) (At l Qc fun y6=>InI (Qc - 1)/\((0:Int)<=Qc - 1/\Qc - 1<(↑l.length:Int))/\ ∀y8,l[(Qc - 1).toNat]? =some y8->Cnd (Lk.blt y8.1 y6.1) (InI (Qc+1)/\Ra (Qc+1)) (K (9:Int))) (InI (Qc+1)/\Ra (Qc+1))) (K Qj)) (K (0:Int))) (0:Int))
def z1n:q7a:=z7u z5w
abbrev z5x:Type:=List (Spn)->(Int->Prop)->Prop
def z5y:z5x:=fun l K=>Fits l->Cnd ((16:Int)<(↑l.length:Int)) (K (5:Int)) (Lp1 (fun Qc Ra=>Fits l->CAt l Qc (fun y3=>Cnd (y3.1<0) (K (3:Int)) (At l Qc fun y5=>At l Qc fun y7=>Cnd (y7.2<=y5.1) (K (3:Int)) (At l Qc fun y9=>Cnd ((10000:Int)<y9.2) (K (3:Int)) (Cnd ((0:Int)<Qc) (At l Qc fun y11=>InI (Qc - 1)/\((0:Int)<=Qc - 1/\Qc - 1<(↑l.length:Int))/\ ∀y13,l[(Qc - 1).toNat]? =some y13->Cnd (y11.1<=y13.2) (K (9:Int)) (InI (Qc+1)/\Ra (Qc+1))) (InI (Qc+1)/\Ra (Qc+1)))))) (K (0:Int))) (0:Int))
abbrev G4:Type:=Exper->(Int->Prop)->Prop
def q7b(Qi:Z7)(Qr:Jb)(z6j:z5x)(Rb:q6o)(Vi:q0t):G4:=fun x K=>Qi x.1 fun Qa=>Cnd (Qa=true) (Qi x.2 fun Qc=>Cnd (Qc=true) (Qi x.3 fun Qh=>Cnd (Qh=true) (Qr x.4 fun Qk=>Cnd (Qk=true) (Cnd (x.5<1) (K (7:Int)) (Cnd ((3:Int)<x.5) (K (7:Int)) (z6j x.6 fun Qp=>Cnd (Qp=0) (Rb x.7 (8:Int) fun Qj=>Cnd (Qj=0) (Vi (Ex.mk x.8.1 x.8.2 x.8.3 x.8.4 x.8.5) fun Zn=>K Zn) (K Qj)) (K Qp)))) (K (2:Int))) (K (6:Int))) (K (6:Int))) (K (6:Int))
def q0x:G4:=q7b Gk Gg z5y z0j z0i
abbrev U3:Type:=List (Exper)->(Int->Prop)->Prop
def q4r(q2a:G4):U3:=fun l K=>Fits l->Cnd ((16:Int)<(↑l.length:Int)) (K (5:Int)) (Lp1 (fun Qc Ra=>Fits l->CAt l Qc (fun y3=>q2a (Exper.mk y3.1 y3.2 y3.3 y3.4 y3.5 y3.6 y3.7 (Ex.mk y3.8.1 y3.8.2 y3.8.3 y3.8.4 y3.8.5)) fun Qj=>Cnd (Qj=0) (Cnd ((0:Int)<Qc) (At l Qc fun y6=>InI (Qc - 1)/\((0:Int)<=Qc - 1/\Qc - 1<(↑l.length:Int))/\ ∀y8,l[(Qc - 1).toNat]? =some y8->Cnd (Lk.blt y8.1 y6.1) (InI (Qc+1)/\Ra (Qc+1)) (K (9:Int))) (InI (Qc+1)/\Ra (Qc+1))) (K Qj)) (K (0:Int))) (0:Int))
def R8:U3:=q4r q0x
abbrev U4:Type:=Envt->(Int->Prop)->Prop
def q4s(q6d:q0r)(q6e:q0s)(q6f:q0u)(z6k:z0m)(z2w:q7a)(Bh:U3):U4:=fun v K=>q6d (Sett.mk v.1.1 v.1.2 v.1.3) fun Qa=>Cnd (Qa=0) (q6e v.2 fun Qc=>Cnd (Qc=0) (q6f v.3 fun Qh=>Cnd (Qh=0) (z6k v.4 fun Qk=>Cnd (Qk=0) (z2w v.5 fun Qp=>Cnd (Qp=0) (Bh v.6 fun Qj=>K Qj) (K Qp)) (K Qk)) (K Qh)) (K Qc)) (K Qa)
def R9:U4:=q4s q5m q5n q5o z5v z1n R8
abbrev B9:Type:=List (Seg)->(List (ByteArray)->Prop)->Prop
def z0o:B9:=fun l K=>Lp2 (fun Qa Qx q2p=>Fits l->CAt l Qx (fun y2=>Sml (Qa++[y2.1]).length/\InI (Qx+1)/\q2p (Qa++[y2.1]) (Qx+1)) (K Qa)) [] (0:Int)
abbrev z1o:Type:=List (ByteArray)->ByteArray->(Bool->Prop)->Prop
def q8o:z1o:=fun l s K=>Lp1 (fun Qa q8c=>Fits l->CAt l Qa (fun y2=>Cnd (y2=s) (K true) (InI (Qa+1)/\q8c (Qa+1))) (K false)) (0:Int)
abbrev z34:Type:=List (Decl)->ByteArray->ByteArray->(Int->Prop)->Prop
def q4a:z34:=fun l kind name K=>Lp1 (fun Qa q8c=>Fits l->CAt l Qa (fun y2=>Cnd (y2.1=kind) (At l Qa fun y4=>Cnd (y4.2=name) (At l Qa fun y6=>K y6.3) (InI (Qa+1)/\q8c (Qa+1))) (InI (Qa+1)/\q8c (Qa+1))) (Cnd (name=B8 [107,101,121]) (K (3:Int)) (K (0:Int)))) (0:Int)
abbrev j6p:Type:=Int->Ex->(Bool->Prop)->Prop
def q7c:j6p:=fun t e K=>Cnd (e.1=6) (K true) (Cnd (e.1=8) (Lp1 (fun Qa q8c=>Fits e.4->CAt e.4 Qa (fun y2=>Cnd (y2.1=t) (InI (Qa+1)/\q8c (Qa+1)) (K false)) (K (match decide ((t,e,()).1=5) with|true=>false|false=>true))) (0:Int)) (Fits e.4->Cnd ((↑e.4.length:Int)=0) (K false) (((0:Int)<=(0:Int)/\(0:Int)<(↑e.4.length:Int))/\ ∀y1,e.4[Int.toNat (0:Int)]? =some y1->Cnd (e.1=7) (K (decide (y1.1=t))) (Jn1 (fun Qk=>Cnd (Qk=true) (Cnd (t=3) (K (decide (y1.1=3))) (K false)) (Cnd (e.1=11) (Cnd (t=3) (K (decide (y1.1=3))) (Cnd (t=5) (K (decide (y1.1=3))) (K false))) (Cnd (t=2) (K (decide (y1.1=t))) (Cnd (t=3) (K (decide (y1.1=t))) (Cnd (t=4) (K (decide (y1.1=t))) (K false)))))) fun v7r=>Cnd (e.1=9) (v7r (decide (e.1=9))) (v7r (decide (e.1=10)))))))
abbrev G5:Type:=List (Decl)->List (ByteArray)->Ex->(Int->Prop)->Prop
def j6q(q2b:z1o)(Zt:Gy)(q8e:z34)(w65:j6p)(X:G5):G5:=fun l segments e K=>Cnd (e.1=5) (q2b segments e.3 fun Qa=>Cnd (Qa=true) (Jn0 (Lp1 (fun Qc Ra=>Fits e.5->CAt e.5 Qc (fun y3=>X l segments (Ex.mk y3.1 y3.2 y3.3 y3.4 y3.5) fun Qj=>Cnd (Qj=0) (InI (Qc+1)/\Ra (Qc+1)) (K Qj)) (K (0:Int))) (0:Int)) fun Qc=>Zt e.1 fun Qh=>Cnd (Qh=true) (q8e l e.2 e.3 fun Qk=>Cnd (Qk=0) (K (11:Int)) (w65 Qk (Ex.mk e.1 e.2 e.3 e.4 e.5) fun Qp=>Cnd (Qp=true) Qc (K (8:Int)))) Qc) (K (11:Int))) (Jn0 (Lp1 (fun Qa q8c=>Fits e.5->CAt e.5 Qa (fun y2=>X l segments (Ex.mk y2.1 y2.2 y2.3 y2.4 y2.5) fun Qp=>Cnd (Qp=0) (InI (Qa+1)/\q8c (Qa+1)) (K Qp)) (K (0:Int))) (0:Int)) fun Qa=>Zt e.1 fun Qc=>Cnd (Qc=true) (q8e l e.2 e.3 fun Qh=>Cnd (Qh=0) (K (11:Int)) (w65 Qh (Ex.mk e.1 e.2 e.3 e.4 e.5) fun Qk=>Cnd (Qk=true) Qa (K (8:Int)))) Qa)
def z0p:G5:=fun l segments e K=> ∀X:G5,(∀l segments e K,j6q q8o J8 q4a q7c X l segments e K->X l segments e K)->X l segments e K
abbrev z1p:Type:=List (ByteArray)->ByteArray->(List (ByteArray)->Prop)->Prop
def q8p:z1p:=fun l s K=>Lp1 (fun Qa q8c=>Fits l->CAt l Qa (fun y2=>Cnd (Lk.blt y2 s) (InI (Qa+1)/\q8c (Qa+1)) (Fits l->CAt l Qa (fun y5=>Cnd (y5=s) (K l) (((0:Int)<=(0:Int)/\(0:Int)<=Qa/\Qa<=(↑l.length:Int))/\Sml ([]++List.drop (Int.toNat (0:Int)) (List.take Qa.toNat l)).length/\((0:Int)<=Qa/\Qa<=(↑l.length:Int)/\(↑l.length:Int)<=(↑l.length:Int))/\Sml ([]++List.drop (Int.toNat (0:Int)) (List.take Qa.toNat l)++[s]).length/\Sml ([]++List.drop (Int.toNat (0:Int)) (List.take Qa.toNat l)++[s]++List.drop Qa.toNat (List.take (↑l.length:Int).toNat l)).length/\K ([]++List.drop (Int.toNat (0:Int)) (List.take Qa.toNat l)++[s]++List.drop Qa.toNat (List.take (↑l.length:Int).toNat l)))) (((0:Int)<=(0:Int)/\(0:Int)<=Qa/\Qa<=(↑l.length:Int))/\Sml ([]++List.drop (Int.toNat (0:Int)) (List.take Qa.toNat l)).length/\((0:Int)<=Qa/\Qa<=(↑l.length:Int)/\(↑l.length:Int)<=(↑l.length:Int))/\Sml ([]++List.drop (Int.toNat (0:Int)) (List.take Qa.toNat l)++[s]).length/\Sml ([]++List.drop (Int.toNat (0:Int)) (List.take Qa.toNat l)++[s]++List.drop Qa.toNat (List.take (↑l.length:Int).toNat l)).length/\K ([]++List.drop (Int.toNat (0:Int)) (List.take Qa.toNat l)++[s]++List.drop Qa.toNat (List.take (↑l.length:Int).toNat l))))) (Fits l->CAt l Qa (fun y3=>Cnd (y3=s) (K l) (((0:Int)<=(0:Int)/\(0:Int)<=Qa/\Qa<=(↑l.length:Int))/\Sml ([]++List.drop (Int.toNat (0:Int)) (List.take Qa.toNat l)).length/\((0:Int)<=Qa/\Qa<=(↑l.length:Int)/\(↑l.length:Int)<=(↑l.length:Int))/\Sml ([]++List.drop (Int.toNat (0:Int)) (List.take Qa.toNat l)++[s]).length/\Sml ([]++List.drop (Int.toNat (0:Int)) (List.take Qa.toNat l)++[s]++List.drop Qa.toNat (List.take (↑l.length:Int).toNat l)).length/\K ([]++List.drop (Int.toNat (0:Int)) (List.take Qa.toNat l)++[s]++List.drop Qa.toNat (List.take (↑l.length:Int).toNat l)))) (((0:Int)<=(0:Int)/\(0:Int)<=Qa/\Qa<=(↑l.length:Int))/\Sml ([]++List.drop (Int.toNat (0:Int)) (List.take Qa.toNat l)).length/\((0:Int)<=Qa/\Qa<=(↑l.length:Int)/\(↑l.length:Int)<=(↑l.length:Int))/\Sml ([]++List.drop (Int.toNat (0:Int)) (List.take Qa.toNat l)++[s]).length/\Sml ([]++List.drop (Int.toNat (0:Int)) (List.take Qa.toNat l)++[s]++List.drop Qa.toNat (List.take (↑l.length:Int).toNat l)).length/\K ([]++List.drop (Int.toNat (0:Int)) (List.take Qa.toNat l)++[s]++List.drop Qa.toNat (List.take (↑l.length:Int).toNat l))))) (0:Int)
abbrev G6:Type:=List (ByteArray)->Ex->(List (ByteArray)->Prop)->Prop
def z35(q2c:z1p)(X:G6):G6:=fun l e K=>Jn1 (fun Qa=>Lp2 (fun Qc Z2 z6u=>Fits e.5->CAt e.5 Z2 (fun y3=>X Qc (Ex.mk y3.1 y3.2 y3.3 y3.4 y3.5) fun Qj=>InI (Z2+1)/\z6u Qj (Z2+1)) (K Qc)) Qa (0:Int)) fun q3w=>Cnd (e.1=5) (q2c l e.3 fun Qc=>q3w Qc) (q3w l)
def q8q:G6:=fun l e K=> ∀X:G6,(∀l e K,z35 q8p X l e K->X l e K)->X l e K
abbrev q4b:Type:=Ex->(List (ByteArray)->Prop)->Prop
def z36(q9a:G6):q4b:=fun e K=>q9a [] (Ex.mk e.1 e.2 e.3 e.4 e.5) fun Qa=>K Qa
def q8r:q4b:=z36 q8q
abbrev q7d:Type:=List (Seg)->(List (Edg)->Prop)->Prop
def z7v(q9b:q4b):q7d:=fun l K=>Lp2 (fun Qa Qx q2p=>Fits l->CAt l Qx (fun y2=>q9b (Ex.mk y2.5.1 y2.5.2 y2.5.3 y2.5.4 y2.5.5) fun Qp=>Lp2 (fun Qj q94 v3o=>Fits Qp->Cnd (q94<(↑Qp.length:Int)) (At l Qx fun y7=>At Qp q94 fun y9=>Sml (Qj++[Edg.mk y7.1 y9]).length/\InI (q94+1)/\v3o (Qj++[Edg.mk y7.1 y9]) (q94+1)) (InI (Qx+1)/\q2p Qj (Qx+1))) Qa (0:Int)) (K Qa)) [] (0:Int)
def z1q:q7d:=z7v q8r
abbrev z0q:Type:=List (Edg)->ByteArray->(List (ByteArray)->Prop)->Prop
def j14(q2b:z1o)(q2c:z1p):z0q:=fun edges node K=>Lp2 (fun Qa Qx q2p=>Fits Qx->Cnd ((0:Int)<(↑Qx.length:Int)) (((0:Int)<=(0:Int)/\(0:Int)<(↑Qx.length:Int))/\ ∀y2,Qx[Int.toNat (0:Int)]? =some y2->((0:Int)<=(1:Int)/\(1:Int)<=(↑Qx.length:Int)/\(↑Qx.length:Int)<=(↑Qx.length:Int))/\Lp3 (fun Qp Ju j03 y50=>Fits edges->CAt edges j03 (fun y6=>Cnd (y6.1=y2) (At edges j03 fun y8=>q2b Qp y8.2 fun Ua=>Cnd (Ua=true) (InI (j03+1)/\y50 Qp Ju (j03+1)) (At edges j03 fun y11=>q2c Qp y11.2 fun Q4=>At edges j03 fun y14=>(Sml ([]++Ju).length/\Sml ([]++Ju++[y14.2]).length/\InI (j03+1)/\y50 Q4 ([]++Ju++[y14.2]) (j03+1))/\Sml ([]++Ju).length/\Sml ([]++Ju++[y14.2]).length/\InI (j03+1)/\y50 Q4 ([]++Ju++[y14.2]) (j03+1))) (InI (j03+1)/\y50 Qp Ju (j03+1))) (q2p Qp Ju)) Qa (List.drop (Int.toNat (1:Int)) (List.take (↑Qx.length:Int).toNat Qx)) (0:Int)) (K Qa)) [] [node]
def z5z:z0q:=j14 q8o q8p
abbrev q7e:Type:=List (ByteArray)->List (Edg)->(List (ByteArray)->Prop)->Prop
def z7w(z6l:z0q)(q2b:z1o)(q2c:z1p):q7e:=fun nodes edges K=>Lp2 (fun Qa Qx q2p=>Fits nodes->CAt nodes Qx (fun y2=>At nodes Qx fun y4=>z6l edges y2 fun Zn=>q2b Zn y4 fun Jm=>Cnd (Jm=true) (At nodes Qx fun y8=>q2c Qa y8 fun Ua=>InI (Qx+1)/\q2p Ua (Qx+1)) (InI (Qx+1)/\q2p Qa (Qx+1))) (K Qa)) [] (0:Int)
def z1r:q7e:=z7w z5z q8o q8p
abbrev q7f:Type:=List (ByteArray)->List (Edg)->(ByteArray->Bool->Prop)->Prop
def z7x(z2x:q7e):q7f:=fun nodes edges K=>z2x nodes edges fun Qa=>Fits Qa->Cnd ((↑Qa.length:Int)=0) (K (B8 []) false) (((0:Int)<=(0:Int)/\(0:Int)<(↑Qa.length:Int))/\ ∀y2,Qa[Int.toNat (0:Int)]? =some y2->K y2 true)
def z1s:q7f:=z7x z1r
abbrev q0a:Type:=Envt->ByteArray->(Int->Prop)->Prop
def q8s:q0a:=fun v key K=>Lp1 (fun Qa q8c=>Fits v.4->CAt v.4 Qa (fun y2=>Cnd (y2.1=key) (K Qa) (InI (Qa+1)/\q8c (Qa+1))) (K (-1:Int))) (0:Int)
abbrev z0r:Type:=List (Decl)->Srv->(Int->Prop)->Prop
def j15(q8e:z34):z0r:=fun l v K=>Cnd (v.1=0) (q8e l v.2 v.3 fun Qa=>Cnd (Qa=0) (K (11:Int)) (Cnd (Qa=5) (K (8:Int)) (K (0:Int)))) (K (0:Int))
def z50:z0r:=j15 q4a
abbrev G7:Type:=Envt->Flg->(Int->Prop)->Prop
def q7g(J6:B9)(Vj:q0a)(Vk:G5)(z02:z0r)(Zw:Jp):G7:=fun v f K=>J6 v.3 fun Qa=>Lp2 (fun Qc Z2 z6u=>Fits f.6->CAt f.6 Qc (fun y3=>Vj (Envt.mk (Sett.mk v.1.1 v.1.2 v.1.3) v.2 v.3 v.4 v.5 v.6) y3.1 fun Qj=>Cnd (Qj<0) (K (11:Int)) (At f.6 Qc fun y6=>At v.4 Qj fun y8=>Fits y8.3->Cnd ((↑y8.3.length:Int)<y6.2) (K (3:Int)) (InI (Qc+1)/\z6u (Qc+1) Z2))) (Lp2 (fun Qk Hj j9y=>Fits f.8->CAt f.8 Qk (fun y5=>Vk v.2 Hj (Ex.mk y5.2.1 y5.2.2 y5.2.3 y5.2.4 y5.2.5) fun Jm=>Cnd (Jm=0) (At f.8 Qk fun y8=>z02 v.2 (Srv.mk y8.3.1 y8.3.2 y8.3.3 y8.3.4 y8.3.5) fun Ua=>Cnd (Ua=0) (InI (Qk+1)/\j9y (Qk+1) Hj) (K Ua)) (K Jm)) (z02 v.2 (Srv.mk f.9.1 f.9.2 f.9.3 f.9.4 f.9.5) fun Qj=>Cnd (Qj=0) (Zw f.8 fun Zn _ w03=>Cnd (w03=true) (Fits Zn->Cnd ((0:Int)<(↑Zn.length:Int)) (K (13:Int)) (K (0:Int))) (K (19:Int))) (K Qj))) (0:Int) Z2)) (0:Int) Qa
def q0y:G7:=q7g z0o q8s z0p z50 V3
abbrev q3l:Type:=Envt->(List (ByteArray)->Prop)->Prop
def q9k:q3l:=fun v K=>Lp2 (fun Qa Qx q2p=>Fits v.4->CAt v.4 Qx (fun y2=>Sml (Qa++[y2.1]).length/\InI (Qx+1)/\q2p (Qa++[y2.1]) (Qx+1)) (K Qa)) [] (0:Int)
abbrev q0z:Type:=Envt->(List (Edg)->Prop)->Prop
def q00:q0z:=fun v K=>Lp2 (fun Qa Qx q2p=>Fits v.4->Cnd (Qx<(↑v.4.length:Int)) (Lp2 (fun Qh Zi q5d=>At v.4 Qx fun y3=>Fits y3.6->Cnd (Zi<(↑y3.6.length:Int)) (At v.4 Qx fun y6=>At v.4 Qx fun y8=>At y8.6 Zi fun y10=>Sml (Qh++[Edg.mk y6.1 y10.1]).length/\InI (Zi+1)/\q5d (Qh++[Edg.mk y6.1 y10.1]) (Zi+1)) (InI (Qx+1)/\q2p Qh (Qx+1))) Qa (0:Int)) (K Qa)) [] (0:Int)
abbrev q4c:Type:=List (Spn)->List (Spn)->(List (Spn)->Prop)->Prop
def z38(Z0:Rw)(Q0:Wa):q4c:=fun a b K=>Z0 a fun Qa=>Z0 b fun Qc=>Lp2 (fun Qh Zi q5d=>Fits Zi->CAt Zi Qh (fun y4=>Cnd (y4=true) (At Qc Qh fun y6=>At Zi Qh fun _=>InI (Qh+1)/\q5d (Qh+1) (Zi.set Qh.toNat y6)) (At Zi Qh fun _=>InI (Qh+1)/\q5d (Qh+1) (Zi.set Qh.toNat false))) (Q0 Zi fun Qp=>K Qp)) (0:Int) Qa
def q8t:q4c:=z38 q62 G1
abbrev J2:Type:=Envt->Int->(Int->Prop)->Prop
def G8(Zp:W6)(Vj:q0a)(J6:B9)(Vk:G5)(q9c:q4c):J2:=fun v i K=>At v.6 i fun y0=>Zp (Envt.mk (Sett.mk v.1.1 v.1.2 v.1.3) v.2 v.3 v.4 v.5 v.6) y0.2 fun Qh=>Vj (Envt.mk (Sett.mk v.1.1 v.1.2 v.1.3) v.2 v.3 v.4 v.5 v.6) y0.3 fun Qk=>Cnd (Qh<0) (K (11:Int)) (Cnd (Qk<0) (K (11:Int)) (Lp1 (fun Qp y52=>Fits y0.7->CAt y0.7 Qp (fun y6=>At v.4 Qk fun y8=>Fits y8.3->Cnd ((↑y8.3.length:Int)<y6.3) (K (3:Int)) (InI (Qp+1)/\y52 (Qp+1))) (J6 v.3 fun Zn=>Vk v.2 Zn (Ex.mk y0.8.1 y0.8.2 y0.8.3 y0.8.4 y0.8.5) fun Jm=>Cnd (Jm=0) (Cnd (y0.5=3) (K (0:Int)) (At v.5 Qh fun y8=>Lp3 (fun Ua R0 w9o y5l=>Cnd (R0<i) (At v.6 R0 fun y11=>Cnd (y11.2=y0.2) (Cnd (y11.5=3) (InI (R0+1)/\y5l Ua (R0+1) w9o) (Sml (Ua++y11.6).length/\InI (R0+1)/\y5l (Ua++y11.6) (R0+1) w9o)) (InI (R0+1)/\y5l Ua (R0+1) w9o)) (q9c y0.6 Ua fun Vv=>Fits Vv->Cnd ((0:Int)<(↑Vv.length:Int)) (K (14:Int)) (Lp4 (fun Q4 w39 y5m y5n y5o=>Cnd (Q4<i) (Cnd (y0.5=2) (At v.6 Q4 fun y14=>Cnd (y14.5=2) (Cnd (y14.3=y0.3) (Cnd (y14.2=y0.2) (InI (Q4+1)/\y5o (Q4+1) w39 y5m y5n) (K (14:Int))) (InI (Q4+1)/\y5o (Q4+1) w39 y5m y5n)) (InI (Q4+1)/\y5o (Q4+1) w39 y5m y5n)) (K (0:Int))) (K (0:Int))) (0:Int) Vv Ua w9o))) [Spn.mk (0:Int) y8.4] (0:Int) Zn)) (K Jm))) (0:Int)))
def Va:J2:=G8 q0o q8s z0o z0p q8t
abbrev V4:Type:=Envt->(ByteArray->Int->Prop)->Prop
def q2u(Bi:U4)(J6:B9)(Vk:G5)(z2y:q7d)(q8f:q7f)(q2d:G7)(q3y:q3l)(q2e:q0z)(Vl:J2):V4:=fun v K=>Bi (Envt.mk (Sett.mk v.1.1 v.1.2 v.1.3) v.2 v.3 v.4 v.5 v.6) fun Qa=>Cnd (Qa=0) (J6 v.3 fun Qc=>Lp2 (fun Qh Zi q5d=>Fits v.3->CAt v.3 Qh (fun y4=>Cnd (y4.5.1=0) (InI (Qh+1)/\q5d (Qh+1) Zi) (At v.3 Qh fun y6=>Vk v.2 Zi (Ex.mk y6.5.1 y6.5.2 y6.5.3 y6.5.4 y6.5.5) fun J3=>Cnd (J3=0) (InI (Qh+1)/\q5d (Qh+1) Zi) (At v.3 Qh fun y9=>(↑((B8 [115,101,103,109,101,110,116,32]).size+y9.1.size):Int)<=(9223372036854775807:Int)/\K (B8 [115,101,103,109,101,110,116,32]++y9.1) J3))) (z2y v.3 fun Qp=>q8f Zi Qp fun Qj q94=>Cnd (q94=true) ((↑((B8 [115,101,103,109,101,110,116,32]).size+Qj.size):Int)<=(9223372036854775807:Int)/\K (B8 [115,101,103,109,101,110,116,32]++Qj) (12:Int)) (Lp3 (fun Zn q93 w03 u0v=>Fits v.4->CAt v.4 Zn (fun y8=>q2d (Envt.mk (Sett.mk v.1.1 v.1.2 v.1.3) v.2 v.3 v.4 v.5 v.6) (Flg.mk y8.1 y8.2 y8.3 y8.4 y8.5 y8.6 y8.7 y8.8 (Srv.mk y8.9.1 y8.9.2 y8.9.3 y8.9.4 y8.9.5)) fun Ua=>Cnd (Ua=0) (InI (Zn+1)/\u0v (Zn+1) q93 w03) (At v.4 Zn fun y11=>(↑((B8 [102,108,97,103,32]).size+y11.1.size):Int)<=(9223372036854775807:Int)/\K (B8 [102,108,97,103,32]++y11.1) Ua)) (q3y (Envt.mk (Sett.mk v.1.1 v.1.2 v.1.3) v.2 v.3 v.4 v.5 v.6) fun J3=>q2e (Envt.mk (Sett.mk v.1.1 v.1.2 v.1.3) v.2 v.3 v.4 v.5 v.6) fun W2=>q8f J3 W2 fun Ua R0=>Cnd (R0=true) ((↑((B8 [102,108,97,103,32]).size+Ua.size):Int)<=(9223372036854775807:Int)/\K (B8 [102,108,97,103,32]++Ua) (12:Int)) (Lp5 (fun Vv z49 y90 y91 y92 y93=>Fits v.6->Cnd (Vv<(↑v.6.length:Int)) (Vl (Envt.mk (Sett.mk v.1.1 v.1.2 v.1.3) v.2 v.3 v.4 v.5 v.6) Vv fun Q4=>Cnd (Q4=0) (InI (Vv+1)/\y93 (Vv+1) z49 y90 y91 y92) (At v.6 Vv fun y14=>(↑((B8 [101,120,112,101,114,105,109,101,110,116,32]).size+y14.1.size):Int)<=(9223372036854775807:Int)/\K (B8 [101,120,112,101,114,105,109,101,110,116,32]++y14.1) Q4)) (K (B8 []) (0:Int))) (0:Int) J3 W2 w03 q93))) (0:Int) Zi Qp))) (0:Int) Qc) (K (B8 []) Qa)
def Hw:V4:=q2u R9 z0o z0p z1q z1s q0y q9k q00 Va
abbrev q7h:Type:=Envt->(Bool->Prop)->Prop
def z7y(Re:V4):q7h:=fun v K=>Re (Envt.mk (Sett.mk v.1.1 v.1.2 v.1.3) v.2 v.3 v.4 v.5 v.6) fun _ Qx=>K (decide (Qx=0))
def Bp:q7h:=z7y Hw
abbrev G9:Type:=List (Int)->Int->Int->(Envt->Int->Prop)->Prop
def q7i(Qz:Wm)(q9d:q36)(Qb:Zg)(q15:z5m)(Z6:q0h)(q3u:z1d)(z5a:z3v)(Hl:q0i)(q3v:q5j)(Zw:Jp)(j1a:z3x)(J4:q0g)(q16:q6w)(z6m:z0e)(Wi:q5i)(Uz:Bo)(z2z:q66)(B5:q7h):G9:=fun list at_ now K=>Qz fun Qa=>Jn1 (fun (Qc:ByteArray×ByteArray×Int×Int×List Decl×Unit)=>q9d list Qc.2.2.2.1 Qc.1 Qc.2.1 Qc.2.2.1 Qc.2.2.2.2.1 [] [] [] [] fun Qh Zi w4b j8z v71 u0w u0x u0y u0z=>Qb list Qh (5:Int) fun Qk Hj=>q15 Qk [B8 [102,97],B8 [102,98],B8 [102,99],B8 [102,100]] fun Qp=>LpH (fun (Qj:Int×Int×List Flg×List Seg×List Lay_×List Exper×Unit) j8y=>Fits Qp->CAt Qp Qj.1 (fun y7=>Qb list Qj.2.1 (5:Int) fun W2 z6d=>InI ((1:Int)+W2)/\Qb list z6d (6:Int) fun Ua R0=>Qb list R0 (4:Int) fun Vv z49=>InI ((1:Int)+Vv)/\LpH (fun (Ub:Int×Int×List Val×List Exper×List Lay_×List Flg×List Seg×Unit) (y94:Int×Int×List Val×List Exper×List Lay_×List Flg×List Seg×Unit->Prop)=>Cnd (Ub.1<1+Vv) (Z6 list Ub.2.1 ((1:Int)+W2) fun Q4 w39=>Sml (Ub.2.2.1++[Q4]).length/\InI (Ub.1+1)/\y94 (Ub.1+1,w39,Ub.2.2.1++[Q4],Ub.2.2.2.1,Ub.2.2.2.2.1,Ub.2.2.2.2.2.1,Ub.2.2.2.2.2.2.1,())) (Qb list Ub.2.1 ((1:Int)+Vv) fun Q4 w39=>InI ((1:Int)+Q4)/\LpH (fun (Vu:Int×List Prq×Int×List Seg×List Flg×List Lay_×List Exper×List Val×Unit) (v7t:Int×List Prq×Int×List Seg×List Flg×List Lay_×List Exper×List Val×Unit->Prop)=>Fits Vu.2.2.2.2.1->Cnd (Vu.1<(↑Vu.2.2.2.2.1.length:Int)) (Qb list Vu.2.2.1 (4:Int) fun Rs y72=>Cnd (Rs=1) (At Vu.2.2.2.2.1 Vu.1 fun y17=>At Vu.2.2.2.2.1 Vu.1 fun y19=>Fits y19.3->Qb list y72 (↑y19.3.length:Int) fun v7u y95=>InI ((1:Int)+v7u)/\Sml (Vu.2.1++[Prq.mk y17.1 ((1:Int)+v7u)]).length/\InI (Vu.1+1)/\v7t (Vu.1+1,Vu.2.1++[Prq.mk y17.1 ((1:Int)+v7u)],y95,Vu.2.2.2.1,Vu.2.2.2.2.1,Vu.2.2.2.2.2.1,Vu.2.2.2.2.2.2.1,Vu.2.2.2.2.2.2.2.1,())) (InI (Vu.1+1)/\v7t (Vu.1+1,Vu.2.1,y72,Vu.2.2.2.1,Vu.2.2.2.2.1,Vu.2.2.2.2.2.1,Vu.2.2.2.2.2.2.1,Vu.2.2.2.2.2.2.2.1,()))) (LpH (fun (Rs:Int×List Tgt×Int×List Val×List Exper×List Lay_×List Flg×List Seg×List Prq×Unit) (y73:Int×List Tgt×Int×List Val×List Exper×List Lay_×List Flg×List Seg×List Prq×Unit->Prop)=>Qb list Rs.2.2.1 (3:Int) fun q47 y74=>Cnd (Rs.1<q47) (Qb list y74 ((1:Int)+Vv) fun q3f y96=>InI ((1:Int)+q3f)/\q3u list y96 fun Z3 y5p=>Jn1 (fun (q3g:ByteArray×Int×List ByteArray×List Prq×List Seg×List Flg×List Lay_×List Exper×List Val×List Tgt×Unit)=>Fits q3g.2.2.1->Cnd ((0:Int)<(↑q3g.2.2.1.length:Int)) (Sml (q3g.2.2.2.2.2.2.2.2.2.1++[Tgt.mk q3g.1 ((1:Int)+q3f) q3g.2.2.1]).length/\InI (Rs.1+1)/\y73 (Rs.1+1,q3g.2.2.2.2.2.2.2.2.2.1++[Tgt.mk q3g.1 ((1:Int)+q3f) q3g.2.2.1],q3g.2.1,q3g.2.2.2.2.2.2.2.2.1,q3g.2.2.2.2.2.2.2.1,q3g.2.2.2.2.2.2.1,q3g.2.2.2.2.2.1,q3g.2.2.2.2.1,q3g.2.2.2.1,())) (InI (Rs.1+1)/\y73 (Rs.1+1,q3g.2.2.2.2.2.2.2.2.2.1,q3g.2.1,q3g.2.2.2.2.2.2.2.2.1,q3g.2.2.2.2.2.2.2.1,q3g.2.2.2.2.2.2.1,q3g.2.2.2.2.2.1,q3g.2.2.2.2.1,q3g.2.2.2.1,()))) fun (y75:ByteArray×Int×List ByteArray×List Prq×List Seg×List Flg×List Lay_×List Exper×List Val×List Tgt×Unit->Prop)=>Qb list y5p (4:Int) fun y97 y76=>Cnd (y97=1) (y75 (B8 [100,101,118,105,99,101],y76,Z3,Rs.2.2.2.2.2.2.2.2.1,Rs.2.2.2.2.2.2.2.1,Rs.2.2.2.2.2.2.1,Rs.2.2.2.2.2.1,Rs.2.2.2.2.1,Rs.2.2.2.1,Rs.2.1,())) (y75 (B8 [117,115,101,114],y76,Z3,Rs.2.2.2.2.2.2.2.2.1,Rs.2.2.2.2.2.2.2.1,Rs.2.2.2.2.2.2.1,Rs.2.2.2.2.2.1,Rs.2.2.2.2.1,Rs.2.2.2.1,Rs.2.1,()))) (Jn1 (fun (q3f:Int×List Rul×List ByteArray×List Prq×List Seg×List Flg×List Lay_×List Exper×List Val×List Tgt×Unit)=>z5a list q3f.1 ((1:Int)+Vv) fun Z3 y5p=>Sml (q3f.2.2.2.2.2.1++[Flg.mk y7 ((1:Int)+W2) q3f.2.2.2.2.2.2.2.2.1 (decide (Ua<5)) ((1:Int)+Q4) q3f.2.2.2.1 q3f.2.2.2.2.2.2.2.2.2.1 q3f.2.1 Z3]).length/\InI (Qj.1+1)/\j8y (Qj.1+1,y5p,q3f.2.2.2.2.2.1++[Flg.mk y7 ((1:Int)+W2) q3f.2.2.2.2.2.2.2.2.1 (decide (Ua<5)) ((1:Int)+Q4) q3f.2.2.2.1 q3f.2.2.2.2.2.2.2.2.2.1 q3f.2.1 Z3],q3f.2.2.2.2.1,q3f.2.2.2.2.2.2.1,q3f.2.2.2.2.2.2.2.1,())) fun (y5q:Int×List Rul×List ByteArray×List Prq×List Seg×List Flg×List Lay_×List Exper×List Val×List Tgt×Unit->Prop)=>LpH (fun (Z3:Int×Int×List Rul×List ByteArray×List Prq×List Seg×List Flg×List Lay_×List Exper×List Val×List Tgt×Unit) (y98:Int×Int×List Rul×List ByteArray×List Prq×List Seg×List Flg×List Lay_×List Exper×List Val×List Tgt×Unit->Prop)=>Qb list Z3.2.1 (5:Int) fun q3g y0u=>Cnd (Z3.1<q3g) (At Z3.2.2.2.1 Z3.1 fun y21=>Hl (Envt.mk (Sett.mk Zi w4b j8z) v71 Z3.2.2.2.2.2.1 Z3.2.2.2.2.2.2.1 Z3.2.2.2.2.2.2.2.1 Z3.2.2.2.2.2.2.2.2.1) fun y5r=>q3v list y0u y5r (3:Int) fun Q7 y99=>z5a list y99 ((1:Int)+Vv) fun z22 v7v=>Sml (Z3.2.2.1++[Rul.mk y21 (Ex.mk Q7.1 Q7.2 Q7.3 Q7.4 Q7.5) z22]).length/\Zw (Z3.2.2.1++[Rul.mk y21 (Ex.mk Q7.1 Q7.2 Q7.3 Q7.4 Q7.5) z22]) fun y77 _ u0a=>Cnd (u0a=true) (Fits y77->Cnd ((0:Int)<(↑y77.length:Int)) ((Z3.2.2.1++[Rul.mk y21 (Ex.mk Q7.1 Q7.2 Q7.3 Q7.4 Q7.5) z22]).length<=(9223372036854775807:Nat)->InI ((↑(Z3.2.2.1++[Rul.mk y21 (Ex.mk Q7.1 Q7.2 Q7.3 Q7.4 Q7.5) z22]).length:Int) - 1)/\((0:Int)<=(↑(Z3.2.2.1++[Rul.mk y21 (Ex.mk Q7.1 Q7.2 Q7.3 Q7.4 Q7.5) z22]).length:Int) - 1/\(↑(Z3.2.2.1++[Rul.mk y21 (Ex.mk Q7.1 Q7.2 Q7.3 Q7.4 Q7.5) z22]).length:Int) - 1<=(↑(Z3.2.2.1++[Rul.mk y21 (Ex.mk Q7.1 Q7.2 Q7.3 Q7.4 Q7.5) z22]).length:Int))/\y5q (v7v,List.take ((↑(Z3.2.2.1++[Rul.mk y21 (Ex.mk Q7.1 Q7.2 Q7.3 Q7.4 Q7.5) z22]).length:Int) - 1).toNat (Z3.2.2.1++[Rul.mk y21 (Ex.mk Q7.1 Q7.2 Q7.3 Q7.4 Q7.5) z22]),Z3.2.2.2.1,Z3.2.2.2.2.1,Z3.2.2.2.2.2.1,Z3.2.2.2.2.2.2.1,Z3.2.2.2.2.2.2.2.1,Z3.2.2.2.2.2.2.2.2.1,Z3.2.2.2.2.2.2.2.2.2.1,Z3.2.2.2.2.2.2.2.2.2.2.1,())) (InI (Z3.1+1)/\y98 (Z3.1+1,v7v,Z3.2.2.1++[Rul.mk y21 (Ex.mk Q7.1 Q7.2 Q7.3 Q7.4 Q7.5) z22],Z3.2.2.2.1,Z3.2.2.2.2.1,Z3.2.2.2.2.2.1,Z3.2.2.2.2.2.2.1,Z3.2.2.2.2.2.2.2.1,Z3.2.2.2.2.2.2.2.2.1,Z3.2.2.2.2.2.2.2.2.2.1,Z3.2.2.2.2.2.2.2.2.2.2.1,()))) ((Z3.2.2.1++[Rul.mk y21 (Ex.mk Q7.1 Q7.2 Q7.3 Q7.4 Q7.5) z22]).length<=(9223372036854775807:Nat)->InI ((↑(Z3.2.2.1++[Rul.mk y21 (Ex.mk Q7.1 Q7.2 Q7.3 Q7.4 Q7.5) z22]).length:Int) - 1)/\((0:Int)<=(↑(Z3.2.2.1++[Rul.mk y21 (Ex.mk Q7.1 Q7.2 Q7.3 Q7.4 Q7.5) z22]).length:Int) - 1/\(↑(Z3.2.2.1++[Rul.mk y21 (Ex.mk Q7.1 Q7.2 Q7.3 Q7.4 Q7.5) z22]).length:Int) - 1<=(↑(Z3.2.2.1++[Rul.mk y21 (Ex.mk Q7.1 Q7.2 Q7.3 Q7.4 Q7.5) z22]).length:Int))/\y5q (v7v,List.take ((↑(Z3.2.2.1++[Rul.mk y21 (Ex.mk Q7.1 Q7.2 Q7.3 Q7.4 Q7.5) z22]).length:Int) - 1).toNat (Z3.2.2.1++[Rul.mk y21 (Ex.mk Q7.1 Q7.2 Q7.3 Q7.4 Q7.5) z22]),Z3.2.2.2.1,Z3.2.2.2.2.1,Z3.2.2.2.2.2.1,Z3.2.2.2.2.2.2.1,Z3.2.2.2.2.2.2.2.1,Z3.2.2.2.2.2.2.2.2.1,Z3.2.2.2.2.2.2.2.2.2.1,Z3.2.2.2.2.2.2.2.2.2.2.1,()))) (y5q (y0u,Z3.2.2.1,Z3.2.2.2.1,Z3.2.2.2.2.1,Z3.2.2.2.2.2.1,Z3.2.2.2.2.2.2.1,Z3.2.2.2.2.2.2.2.1,Z3.2.2.2.2.2.2.2.2.1,Z3.2.2.2.2.2.2.2.2.2.1,Z3.2.2.2.2.2.2.2.2.2.2.1,()))) ((0:Int),y74,[],[B8 [102,105,114,115,116],B8 [115,101,99,111,110,100],B8 [116,104,105,114,100],B8 [102,111,117,114,116,104]],Rs.2.2.2.2.2.2.2.2.1,Rs.2.2.2.2.2.2.2.1,Rs.2.2.2.2.2.2.1,Rs.2.2.2.2.2.1,Rs.2.2.2.2.1,Rs.2.2.2.1,Rs.2.1,()))) ((0:Int),[],Vu.2.2.1,Vu.2.2.2.2.2.2.2.1,Vu.2.2.2.2.2.2.1,Vu.2.2.2.2.2.1,Vu.2.2.2.2.1,Vu.2.2.2.1,Vu.2.1,()))) ((0:Int),[],w39,Ub.2.2.2.2.2.2.1,Ub.2.2.2.2.2.1,Ub.2.2.2.2.1,Ub.2.2.2.1,Ub.2.2.1,()))) ((0:Int),z49,[],Qj.2.2.2.2.2.1,Qj.2.2.2.2.1,Qj.2.2.1,Qj.2.2.2.1,())) (Qb list Qj.2.1 (3:Int) fun Jm z81=>q15 Jm [B8 [108,97],B8 [108,98]] fun J3=>LpH (fun (W2:Int×Int×List Lay_×List Exper×List Seg×List Flg×Unit) (y5j:Int×Int×List Lay_×List Exper×List Seg×List Flg×Unit->Prop)=>Fits J3->CAt J3 W2.1 (fun y11=>j1a list W2.2.1 y11 fun Q4 w39=>Sml (W2.2.2.1++[Q4]).length/\InI (W2.1+1)/\y5j (W2.1+1,w39,W2.2.2.1++[Q4],W2.2.2.2.1,W2.2.2.2.2.1,W2.2.2.2.2.2.1,())) (Qb list W2.2.1 (4:Int) fun Vv z49=>q15 Vv [B8 [120,97],B8 [120,98],B8 [120,99]] fun Ub=>LpH (fun (Q4:Int×Int×List Exper×List Flg×List Seg×List Lay_×Unit) (y78:Int×Int×List Exper×List Flg×List Seg×List Lay_×Unit->Prop)=>Fits Ub->Cnd (Q4.1<(↑Ub.length:Int)) (Fits Q4.2.2.2.1->Cnd ((0:Int)<(↑Q4.2.2.2.1.length:Int)) (Fits Q4.2.2.2.2.2.1->Cnd ((0:Int)<(↑Q4.2.2.2.2.2.1.length:Int)) (At Ub Q4.1 fun y17=>Fits Q4.2.2.2.1->Qb list Q4.2.1 (↑Q4.2.2.2.1.length:Int) fun q3g y0u=>At Q4.2.2.2.1 q3g fun y21=>Fits Q4.2.2.2.2.2.1->Fits y21.3->Qb list y0u (↑Q4.2.2.2.2.2.1.length:Int) fun z22 v7v=>At Q4.2.2.2.2.2.1 z22 fun y26=>J4 list v7v fun j91 u0b=>Qb list u0b (3:Int) fun y0v u0c=>InI ((1:Int)+y0v)/\q16 list u0c (↑y21.3.length:Int) fun y5s y79=>Jn1 (fun (q48:Int×Int×List Rng×List Exper×List Lay_×List Flg×List Seg×Unit)=>Jn1 (fun (Q8:Int×ByteArray×ByteArray×List Val×List Ex×Int×List Seg×List Flg×List Lay_×List Exper×List Rng×Unit)=>z6m (Envt.mk (Sett.mk Zi w4b j8z) v71 Q8.2.2.2.2.2.2.1 Q8.2.2.2.2.2.2.2.1 Q8.2.2.2.2.2.2.2.2.1 Q8.2.2.2.2.2.2.2.2.2.1) y26.1 now fun (y5t:List Spn) (_:Int)=>Wi list Q8.2.2.2.2.2.1 (8000:Int) fun (y5u u0d:Int)=>Wi list u0d (8000:Int) fun (w9p y5v:Int)=>Uz y5t [Spn.mk y5u w9p] fun (u0e:List Spn)=>Wi list y5v (7000:Int) fun (u0f y8a:Int)=>z2z u0e u0f fun (j92:List Spn)=>Sml (Q8.2.2.2.2.2.2.2.2.2.1++[Exper.mk y17 y26.1 y21.1 j91 q48.1 j92 Q8.2.2.2.2.2.2.2.2.2.2.1 (Ex.mk Q8.1 Q8.2.1 Q8.2.2.1 Q8.2.2.2.1 Q8.2.2.2.2.1)]).length/\B5 (Envt.mk (Sett.mk Zi w4b j8z) v71 Q8.2.2.2.2.2.2.1 Q8.2.2.2.2.2.2.2.1 Q8.2.2.2.2.2.2.2.2.1 (Q8.2.2.2.2.2.2.2.2.2.1++[Exper.mk y17 y26.1 y21.1 j91 q48.1 j92 Q8.2.2.2.2.2.2.2.2.2.2.1 (Ex.mk Q8.1 Q8.2.1 Q8.2.2.1 Q8.2.2.2.1 Q8.2.2.2.2.1)])) fun (u0g:Bool)=>Cnd (u0g=true) (InI (Q4.1+1)/\y78 (Q4.1+1,y8a,Q8.2.2.2.2.2.2.2.2.2.1++[Exper.mk y17 y26.1 y21.1 j91 q48.1 j92 Q8.2.2.2.2.2.2.2.2.2.2.1 (Ex.mk Q8.1 Q8.2.1 Q8.2.2.1 Q8.2.2.2.1 Q8.2.2.2.2.1)],Q8.2.2.2.2.2.2.2.1,Q8.2.2.2.2.2.2.1,Q8.2.2.2.2.2.2.2.2.1,())) ((Q8.2.2.2.2.2.2.2.2.2.1++[Exper.mk y17 y26.1 y21.1 j91 q48.1 j92 Q8.2.2.2.2.2.2.2.2.2.2.1 (Ex.mk Q8.1 Q8.2.1 Q8.2.2.1 Q8.2.2.2.1 Q8.2.2.2.2.1)]).length<=(9223372036854775807:Nat)->InI ((↑(Q8.2.2.2.2.2.2.2.2.2.1++[Exper.mk y17 y26.1 y21.1 j91 q48.1 j92 Q8.2.2.2.2.2.2.2.2.2.2.1 (Ex.mk Q8.1 Q8.2.1 Q8.2.2.1 Q8.2.2.2.1 Q8.2.2.2.2.1)]).length:Int) - 1)/\((0:Int)<=(↑(Q8.2.2.2.2.2.2.2.2.2.1++[Exper.mk y17 y26.1 y21.1 j91 q48.1 j92 Q8.2.2.2.2.2.2.2.2.2.2.1 (Ex.mk Q8.1 Q8.2.1 Q8.2.2.1 Q8.2.2.2.1 Q8.2.2.2.2.1)]).length:Int) - 1/\(↑(Q8.2.2.2.2.2.2.2.2.2.1++[Exper.mk y17 y26.1 y21.1 j91 q48.1 j92 Q8.2.2.2.2.2.2.2.2.2.2.1 (Ex.mk Q8.1 Q8.2.1 Q8.2.2.1 Q8.2.2.2.1 Q8.2.2.2.2.1)]).length:Int) - 1<=(↑(Q8.2.2.2.2.2.2.2.2.2.1++[Exper.mk y17 y26.1 y21.1 j91 q48.1 j92 Q8.2.2.2.2.2.2.2.2.2.2.1 (Ex.mk Q8.1 Q8.2.1 Q8.2.2.1 Q8.2.2.2.1 Q8.2.2.2.2.1)]).length:Int))/\InI (Q4.1+1)/\y78 (Q4.1+1,y8a,List.take ((↑(Q8.2.2.2.2.2.2.2.2.2.1++[Exper.mk y17 y26.1 y21.1 j91 q48.1 j92 Q8.2.2.2.2.2.2.2.2.2.2.1 (Ex.mk Q8.1 Q8.2.1 Q8.2.2.1 Q8.2.2.2.1 Q8.2.2.2.2.1)]).length:Int) - 1).toNat (Q8.2.2.2.2.2.2.2.2.2.1++[Exper.mk y17 y26.1 y21.1 j91 q48.1 j92 Q8.2.2.2.2.2.2.2.2.2.2.1 (Ex.mk Q8.1 Q8.2.1 Q8.2.2.1 Q8.2.2.2.1 Q8.2.2.2.2.1)]),Q8.2.2.2.2.2.2.2.1,Q8.2.2.2.2.2.2.1,Q8.2.2.2.2.2.2.2.2.1,()))) fun (y8b:Int×ByteArray×ByteArray×List Val×List Ex×Int×List Seg×List Flg×List Lay_×List Exper×List Rng×Unit->Prop)=>Qb list q48.2.1 (2:Int) fun (y5t y8c:Int)=>Cnd (y5t=1) (Hl (Envt.mk (Sett.mk Zi w4b j8z) v71 q48.2.2.2.2.2.2.1 q48.2.2.2.2.2.1 q48.2.2.2.2.1 q48.2.2.2.1) fun (y5u:List ByteArray)=>q3v list y8c y5u (2:Int) fun (w9p:Ex) (y5v:Int)=>y8b (w9p.1,w9p.2,w9p.3,w9p.4,w9p.5,y5v,q48.2.2.2.2.2.2.1,q48.2.2.2.2.2.1,q48.2.2.2.2.1,q48.2.2.2.1,q48.2.2.1,())) (y8b ((1:Int),B8 [],B8 [],[],[],y8c,q48.2.2.2.2.2.2.1,q48.2.2.2.2.2.1,q48.2.2.2.2.1,q48.2.2.2.1,q48.2.2.1,()))) fun (y5w:Int×Int×List Rng×List Exper×List Lay_×List Flg×List Seg×Unit->Prop)=>Cnd ((1:Int)+y0v=1) (Qb list y79 (2:Int) fun Q8 y8d=>Cnd (Q8=0) (y5w ((2:Int),y8d,y5s,Q4.2.2.1,Q4.2.2.2.2.2.1,Q4.2.2.2.1,Q4.2.2.2.2.1,())) (y5w ((1:Int)+y0v,y8d,y5s,Q4.2.2.1,Q4.2.2.2.2.2.1,Q4.2.2.2.1,Q4.2.2.2.2.1,()))) (y5w ((1:Int)+y0v,y79,y5s,Q4.2.2.1,Q4.2.2.2.2.2.1,Q4.2.2.2.1,Q4.2.2.2.2.1,()))) (B5 (Envt.mk (Sett.mk Zi w4b j8z) v71 Q4.2.2.2.2.1 Q4.2.2.2.1 Q4.2.2.2.2.2.1 Q4.2.2.1) fun q47=>Cnd (q47=true) (K (Envt.mk (Sett.mk Zi w4b j8z) v71 Q4.2.2.2.2.1 Q4.2.2.2.1 Q4.2.2.2.2.2.1 Q4.2.2.1) Q4.2.1) (Qz fun q3f=>K (Envt.mk (Sett.mk (B8 []) (B8 []) (0:Int)) q3f [] [] [] []) Q4.2.1))) (B5 (Envt.mk (Sett.mk Zi w4b j8z) v71 Q4.2.2.2.2.1 Q4.2.2.2.1 Q4.2.2.2.2.2.1 Q4.2.2.1) fun Rs=>Cnd (Rs=true) (K (Envt.mk (Sett.mk Zi w4b j8z) v71 Q4.2.2.2.2.1 Q4.2.2.2.1 Q4.2.2.2.2.2.1 Q4.2.2.1) Q4.2.1) (Qz fun q47=>K (Envt.mk (Sett.mk (B8 []) (B8 []) (0:Int)) q47 [] [] [] []) Q4.2.1))) (B5 (Envt.mk (Sett.mk Zi w4b j8z) v71 Q4.2.2.2.2.1 Q4.2.2.2.1 Q4.2.2.2.2.2.1 Q4.2.2.1) fun w63=>Cnd (w63=true) (K (Envt.mk (Sett.mk Zi w4b j8z) v71 Q4.2.2.2.2.1 Q4.2.2.2.1 Q4.2.2.2.2.2.1 Q4.2.2.1) Q4.2.1) (Qz fun Rs=>K (Envt.mk (Sett.mk (B8 []) (B8 []) (0:Int)) Rs [] [] [] []) Q4.2.1))) ((0:Int),z49,W2.2.2.2.1,W2.2.2.2.2.2.1,W2.2.2.2.2.1,W2.2.2.1,()))) ((0:Int),z81,Qj.2.2.2.2.1,Qj.2.2.2.2.2.1,Qj.2.2.2.1,Qj.2.2.1,()))) ((0:Int),Hj,u0x,u0w,u0y,u0z,())) fun j5g=>Qb list at_ (2:Int) fun Qh Zi=>Cnd (Qh=1) (J4 list Zi fun Qk Hj=>Wi list Hj (2500:Int) fun Qp Ju=>j5g (Qk,B8 [117,115,101,114],Qp,Ju,Qa,())) (j5g (B8 [],B8 [],(0:Int),Zi,Qa,()))
def q01:G9:=q7i Ud q8l Jv j44 Rv z9k z9n q0j z9m V3 z9s z1c z3u z5q z5l q65 z1i Bp
abbrev q02:Type:=Int->(Bool->Prop)->Prop
def Uj:q02:=fun op K=>Cnd ((6:Int)<=op) (K (decide (op<=15))) (K false)
abbrev Q5:Type:=List (ByteArray)->List (ByteArray)->(Bool->Prop)->Prop
def Zk:Q5:=fun s1 s2 K=>Fits s1->Fits s2->Cnd ((↑s1.length:Int)=(↑s2.length:Int)) (Fits s1->Lp1 (fun Qk z82=>CAt s1 Qk (fun y4=>At s2 Qk fun y6=>Cnd (y4=y6) (InI (Qk+1)/\z82 (Qk+1)) (K false)) (K true)) (0:Int)) (K false)
abbrev q8u:Type:=Val->Val->(Bool->Prop)->Prop
def z39(Qn:Q5):q8u:=fun a b K=>Cnd (a.1=b.1) (Cnd (a.2=b.2) (Cnd (a.3=b.3) (Qn a.4 b.4 fun Qa=>K Qa) (K false)) (K false)) (K false)
def q0b:q8u:=z39 Zk
abbrev q2v:Type:=Ex->Ex->(Bool->Prop)->Prop
def z7z(w66:q8u)(X:q2v):q2v:=fun a b K=>Cnd (a.1=b.1) (Cnd (a.2=b.2) (Cnd (a.3=b.3) (Fits a.4->Fits b.4->Cnd ((↑a.4.length:Int)=(↑b.4.length:Int)) (Fits a.4->Lp1 (fun Qk z82=>CAt a.4 Qk (fun y4=>At b.4 Qk fun y6=>w66 y4 y6 fun J3=>Cnd (J3=true) (InI (Qk+1)/\z82 (Qk+1)) (K false)) (Fits a.5->Fits b.5->Cnd ((↑a.5.length:Int)=(↑b.5.length:Int)) (Fits a.5->Lp1 (fun Jm y5k=>CAt a.5 Jm (fun y8=>At b.5 Jm fun y10=>X (Ex.mk y8.1 y8.2 y8.3 y8.4 y8.5) (Ex.mk y10.1 y10.2 y10.3 y10.4 y10.5) fun Ub=>Cnd (Ub=true) (InI (Jm+1)/\y5k (Jm+1)) (K false)) (K true)) (0:Int)) (K false))) (0:Int)) (K false)) (K false)) (K false)) (K false)
def Bq:q2v:=fun a b K=> ∀X:q2v,(∀a b K,z7z q0b X a b K->X a b K)->X a b K
abbrev Vr:Type:=List (Ex)->Ex->(List (Ex)->Prop)->Prop
def q9l(Rf:q02)(j8v:q2v)(X:Vr):Vr:=fun l e K=>Jn1 (fun Qa=>Fits e.5->Lp2 (fun Qh Zi q5d=>CAt e.5 Zi (fun y3=>X Qh (Ex.mk y3.1 y3.2 y3.3 y3.4 y3.5) fun Qj=>InI (Zi+1)/\q5d Qj (Zi+1)) (K Qh)) Qa (0:Int)) fun q3w=>Rf e.1 fun Qc=>Cnd (Qc=true) (Fits l->Lp1 (fun Qk z82=>CAt l Qk (fun y4=>j8v (Ex.mk y4.1 y4.2 y4.3 y4.4 y4.5) (Ex.mk e.1 e.2 e.3 e.4 e.5) fun Zn=>Cnd (Zn=true) (Cnd ((0:Int)<=Qk) (q3w l) (Sml (l++[Ex.mk e.1 e.2 e.3 e.4 e.5]).length/\q3w (l++[Ex.mk e.1 e.2 e.3 e.4 e.5]))) (InI (Qk+1)/\z82 (Qk+1))) (Cnd ((0:Int)<=(-1:Int)) (q3w l) (Sml (l++[Ex.mk e.1 e.2 e.3 e.4 e.5]).length/\q3w (l++[Ex.mk e.1 e.2 e.3 e.4 e.5])))) (0:Int)) (Cnd (e.1=5) (Fits l->Lp1 (fun Qk z82=>CAt l Qk (fun y4=>j8v (Ex.mk y4.1 y4.2 y4.3 y4.4 y4.5) (Ex.mk e.1 e.2 e.3 e.4 e.5) fun Zn=>Cnd (Zn=true) (Cnd ((0:Int)<=Qk) (q3w l) (Sml (l++[Ex.mk e.1 e.2 e.3 e.4 e.5]).length/\q3w (l++[Ex.mk e.1 e.2 e.3 e.4 e.5]))) (InI (Qk+1)/\z82 (Qk+1))) (Cnd ((0:Int)<=(-1:Int)) (q3w l) (Sml (l++[Ex.mk e.1 e.2 e.3 e.4 e.5]).length/\q3w (l++[Ex.mk e.1 e.2 e.3 e.4 e.5])))) (0:Int)) (q3w l))
def q3m:Vr:=fun l e K=> ∀X:Vr,(∀l e K,q9l Uj Bq X l e K->X l e K)->X l e K
abbrev Vb:Type:=Val->(Val->Prop)->Prop
def Jd:Vb:=fun v K=> ∀n0,(n0=true->v.4=[])->Cnd (n0=true) (K (Val.mk v.1 v.2 v.3 [])) (Sml ([]++v.4).length/\K (Val.mk v.1 v.2 v.3 ([]++v.4)))
abbrev Ha:Type:=Ex->(Ex->Prop)->Prop
def z4a(Zx:Vb)(X:Ha):Ha:=fun e K=>Fits e.4->((0:Int)<=(0:Int)/\(0:Int)<=(↑e.4.length:Int)/\Sml (↑e.4.length:Int).toNat)/\(Fits e.4->Lp2 (fun Qh Zi q5d=>CAt e.4 Zi (fun y3=>Zx y3 fun Qj=>Sml (Qh++[Qj]).length/\InI (Zi+1)/\q5d (Qh++[Qj]) (Zi+1)) (Fits e.5->((0:Int)<=(0:Int)/\(0:Int)<=(↑e.5.length:Int)/\Sml (↑e.5.length:Int).toNat)/\(Fits e.5->Lp2 (fun Qj q94 v3o=>CAt e.5 q94 (fun y6=>X (Ex.mk y6.1 y6.2 y6.3 y6.4 y6.5) fun J3=>Sml (Qj++[Ex.mk J3.1 J3.2 J3.3 J3.4 J3.5]).length/\InI (q94+1)/\v3o (Qj++[Ex.mk J3.1 J3.2 J3.3 J3.4 J3.5]) (q94+1)) (K (Ex.mk e.1 e.2 e.3 Qh Qj))) (List.replicate (Int.toNat (0:Int)) (Ex.mk (0:Int) (B8 []) (B8 []) [] [])) (0:Int)))) (List.replicate (Int.toNat (0:Int)) (Val.mk (0:Int) (0:Int) (B8 []) [])) (0:Int))
def q8v:Ha:=fun e K=> ∀X:Ha,(∀e K,z4a Jd X e K->X e K)->X e K
abbrev Rx:Type:=Ex->(List (Ex)->Prop)->Prop
def q9m(q3z:Vr)(q9e:Ha):Rx:=fun e K=>q3z [] (Ex.mk e.1 e.2 e.3 e.4 e.5) fun Qa=>Fits Qa->((0:Int)<=(0:Int)/\(0:Int)<=(↑Qa.length:Int)/\Sml (↑Qa.length:Int).toNat)/\(Fits Qa->Lp2 (fun Qk Hj j9y=>CAt Qa Hj (fun y4=>q9e (Ex.mk y4.1 y4.2 y4.3 y4.4 y4.5) fun Zn=>Sml (Qk++[Ex.mk Zn.1 Zn.2 Zn.3 Zn.4 Zn.5]).length/\InI (Hj+1)/\j9y (Qk++[Ex.mk Zn.1 Zn.2 Zn.3 Zn.4 Zn.5]) (Hj+1)) (K Qk)) (List.replicate (Int.toNat (0:Int)) (Ex.mk (0:Int) (B8 []) (B8 []) [] [])) (0:Int))
def q9n:Rx:=q9m q3m q8v
abbrev Zo:Type:=List (ByteArray)->(List (ByteArray)->Prop)->Prop
def Jc(x:List (ByteArray))(K:List (ByteArray)->Prop):Prop:=K (srt x)
abbrev Jq:Type:=List (ByteArray)->(List (ByteArray)->Prop)->Prop
def Jr(s:List (ByteArray))(K:List (ByteArray)->Prop):Prop:=K (cpt s)
abbrev U5:Type:=Ex->(List (ByteArray)->Prop)->Prop
def q4t(q30:Rx)(Qq:Zo)(Zy:Jq):U5:=fun e K=>q30 (Ex.mk e.1 e.2 e.3 e.4 e.5) fun Qa=>Fits Qa->Lp2 (fun Qh Zi q5d=>CAt Qa Zi (fun y3=>Cnd (y3.1=5) (Sml (Qh++[y3.3]).length/\InI (Zi+1)/\q5d (Qh++[y3.3]) (Zi+1)) (InI (Zi+1)/\q5d Qh (Zi+1))) (Qq Qh fun Qk=>Zy Qk fun Qp=>K Qp)) [] (0:Int)
def Ba:U5:=q4t q9n Jc Jr
abbrev z1t:Type:=List (ByteArray)->List (Edg)->(List (ByteArray)->Int->Prop)->Prop
def P_graph_Order(nodes:List (ByteArray))(edges:List (Edg))(K:List (ByteArray)->Int->Prop):Prop:=Go.Fl.P_graph_Order nodes (edges.map fun e=>(e.1,e.2)) K
abbrev Hb:Type:=List (Seg)->(List (ByteArray)->Int->Prop)->Prop
def q7j(Bj:U5)(q6g:z1t):Hb:=fun l K=>Fits l->Lp3 (fun Qc Z2 z6c v7q=>CAt l z6c (fun y2=>Sml (Qc++[y2.1]).length/\Bj (Ex.mk y2.5.1 y2.5.2 y2.5.3 y2.5.4 y2.5.5) fun Qp=>Fits Qp->Lp2 (fun Zn q93 v7z=>CAt Qp q93 (fun y7=>Sml (Zn++[Edg.mk y2.1 y7]).length/\InI (q93+1)/\v7z (Zn++[Edg.mk y2.1 y7]) (q93+1)) (InI (z6c+1)/\v7q (Qc++[y2.1]) Zn (z6c+1))) Z2 (0:Int)) (q6g Qc Z2 fun Qh Zi=>K Qh Zi)) [] [] (0:Int)
def q03:Hb:=q7j Ba P_graph_Order
abbrev V5:Type:=Subj->ByteArray->(Int->Prop)->Prop
def Hc:V5:=fun s kind K=>Fits s.1->Lp1 (fun Qc Ra=>CAt s.1 Qc (fun y2=>Cnd (y2.1=kind) (K Qc) (InI (Qc+1)/\Ra (Qc+1))) (K (-1:Int))) (0:Int)
abbrev V6:Type:=Attr->(Attr->Prop)->Prop
def q2w(Zx:Vb):V6:=fun a K=>Zx (Val.mk a.2.1 a.2.2 a.2.3 a.2.4) fun Qa=>K (Attr.mk a.1 Qa)
def Hx:V6:=q2w Jd
abbrev Hd:Type:=Ctxt->(Ctxt->Prop)->Prop
def q7k(Rg:V6):Hd:=fun c K=>Fits c.3->((0:Int)<=(0:Int)/\(0:Int)<=(↑c.3.length:Int)/\Sml (↑c.3.length:Int).toNat)/\(Fits c.3->Lp2 (fun Qh Zi q5d=>CAt c.3 Zi (fun y3=>Rg (Attr.mk y3.1 (Val.mk y3.2.1 y3.2.2 y3.2.3 y3.2.4)) fun Qj=>Sml (Qh++[Attr.mk Qj.1 (Val.mk Qj.2.1 Qj.2.2 Qj.2.3 Qj.2.4)]).length/\InI (Zi+1)/\q5d (Qh++[Attr.mk Qj.1 (Val.mk Qj.2.1 Qj.2.2 Qj.2.3 Qj.2.4)]) (Zi+1)) (K (Ctxt.mk c.1 c.2 Qh))) (List.replicate (Int.toNat (0:Int)) (Attr.mk (B8 []) (Val.mk (0:Int) (0:Int) (B8 []) []))) (0:Int))
def q04:Hd:=q7k Hx
abbrev Zl:Type:=Subj->ByteArray->(Ctxt->Bool->Prop)->Prop
def q9o(Jh:V5)(q2f:Hd):Zl:=fun s kind K=>Jh (Subj.mk s.1) kind fun Qa=>Cnd (Qa<0) (K (Ctxt.mk (B8 []) (B8 []) []) false) (At s.1 Qa fun y1=>q2f y1 fun Qk=>K Qk true)
def Wn:Zl:=q9o Hc q04
abbrev Wb:Type:=Subj->ByteArray->ByteArray->(Val->Bool->Prop)->Prop
def q4u(Jh:V5)(Zx:Vb):Wb:=fun s kind name K=>Jh (Subj.mk s.1) kind fun Qa=>Cnd (Qa<0) (K (Val.mk (0:Int) (0:Int) (B8 []) []) false) (At s.1 Qa fun y1=>Cnd (name=B8 [107,101,121]) (K (Val.mk (3:Int) (0:Int) y1.2 []) true) (Fits y1.3->Lp5 (fun Qp Ju j03 v70 (y9x:List ByteArray) y8l=>CAt y1.3 Qp (fun y5=>Cnd (y5.1=name) (Zx (Val.mk y5.2.1 y5.2.2 y5.2.3 y5.2.4) fun Jm=>K Jm true) (InI (Qp+1)/\y8l (Qp+1) Ju j03 v70 y9x)) (K (Val.mk (0:Int) (0:Int) (B8 []) []) false)) (0:Int) (0:Int) (0:Int) (B8 []) []))
def U6:Wb:=q4u Hc Jd
abbrev q05:Type:=Val->Val->(Bool->Prop)->Prop
def z1u(Qn:Q5):q05:=fun a b K=>Cnd (a.1=b.1) (Cnd (a.2=b.2) (Cnd (a.3=b.3) (Qn a.4 b.4 fun Qa=>K Qa) (K false)) (K false)) (K false)
def q06:q05:=z1u Zk
abbrev Zv:Type:=ByteArray->ByteArray->(Bool->Prop)->Prop
def Je:Zv:=fun s prefix_ K=>Cnd ((↑prefix_.size:Int)<=(↑s.size:Int)) (((0:Int)<=(0:Int)/\(0:Int)<=(↑prefix_.size:Int)/\(↑prefix_.size:Int)<=(↑s.size:Int))/\K (decide (s.extract (Int.toNat (0:Int)) (↑prefix_.size:Int).toNat=prefix_))) (K false)
abbrev Wu:Type:=ByteArray->ByteArray->(Bool->Prop)->Prop
def Br(Q1:Zv):Wu:=fun s prefix_ K=>Q1 s prefix_ fun Qa=>K Qa
def Uk:Wu:=Br Je
abbrev Wg:Type:=ByteArray->ByteArray->(Bool->Prop)->Prop
def Ul:Wg:=fun s suffix K=>Cnd ((↑suffix.size:Int)<=(↑s.size:Int)) (InI ((↑s.size:Int) - (↑suffix.size:Int))/\((0:Int)<=(↑s.size:Int) - (↑suffix.size:Int)/\(↑s.size:Int) - (↑suffix.size:Int)<=(↑s.size:Int)/\(↑s.size:Int)<=(↑s.size:Int))/\K (decide (s.extract ((↑s.size:Int) - (↑suffix.size:Int)).toNat (↑s.size:Int).toNat=suffix))) (K false)
abbrev Wv:Type:=ByteArray->ByteArray->(Bool->Prop)->Prop
def Bt(Wj:Wg):Wv:=fun s suffix K=>Wj s suffix fun Qa=>K Qa
def Um:Wv:=Bt Ul
abbrev q07:Type:=ByteArray->ByteArray->(Bool->Prop)->Prop
def q08(s:ByteArray)(substr:ByteArray)(K:Bool->Prop):Prop:=s.size<4294967281/\K (Go.Lib.contains s.data.toList substr.data.toList)
abbrev q5p:Type:=Val->(Bool->Prop)->Prop
def q5q:q5p:=fun v K=>Jn1 (fun Qa=>Cnd (Qa=true) (Cnd (v.3=B8 []) (Fits v.4->K (decide ((↑v.4.length:Int)=0))) (K false)) (Jn1 (fun Qc=>Cnd (Qc=true) (Cnd (v.2=0) (Fits v.4->K (decide ((↑v.4.length:Int)=0))) (K false)) (Cnd (v.2=0) (K (decide (v.3=B8 []))) (K false))) fun j5g=>Cnd (v.1=3) (j5g (decide (v.1=3))) (j5g (decide (v.1=4))))) fun q3w=>Cnd (v.1=1) (q3w (decide (v.1=1))) (q3w (decide (v.1=2)))
abbrev q4d:Type:=ByteArray->(Bool->Prop)->Prop
def z4b(Zq:W7):q4d:=fun s K=>Cnd ((200:Int)<(↑s.size:Int)) (K false) (Zq s fun Qa=>Cnd (Qa=true) (Lp1 (fun (Qc:ByteArray×Nat) Ra=>Cnd (Qc.2<Qc.1.size) (Cnd ((↑(Go.Utf8.decode Qc.1 Qc.2).1:Int)<(32:Int)) (K false) (Cnd ((↑(Go.Utf8.decode Qc.1 Qc.2).1:Int)=(127:Int)) (K false) (Ra (Qc.1,Qc.2+(Go.Utf8.decode Qc.1 Qc.2).2)))) (K true)) (s,(0:Nat))) (K false))
def q8w:q4d:=z4b W8
abbrev q7l:Type:=ByteArray->ByteArray->(List (ByteArray)->Prop)->Prop
def q7m(s:ByteArray)(sep:ByteArray)(K:List (ByteArray)->Prop):Prop:=sep.size=1/\s.size<4294967281/\K (B7 s sep)
abbrev Jf:Type:=ByteArray->ByteArray->(ByteArray->Bool->Prop)->Prop
def Un(Q1:Zv):Jf:=fun s prefix_ K=>Q1 s prefix_ fun Qa=>Cnd (Qa=true) (((0:Int)<=(↑prefix_.size:Int)/\(↑prefix_.size:Int)<=(↑s.size:Int)/\(↑s.size:Int)<=(↑s.size:Int))/\K (s.extract (↑prefix_.size:Int).toNat (↑s.size:Int).toNat) true) (K s false)
def Uo:Jf:=Un Je
abbrev Ww:Type:=ByteArray->ByteArray->(ByteArray->Bool->Prop)->Prop
def Bu(Wk:Jf):Ww:=fun s prefix_ K=>Wk s prefix_ fun Qa Qx=>K Qa Qx
def Up:Ww:=Bu Uo
abbrev q9p:Type:=ByteArray->(Int->Bool->Prop)->Prop
def q3n(s:ByteArray)(K:Int->Bool->Prop):Prop:=s.size<=281474976710656/\v9m s K
abbrev Vc:Type:=ByteArray->(Int->Int->Prop)->Prop
def q09(U0:Ww)(R1:q9p):Vc:=fun s K=>U0 s (B8 [45]) fun Qa Qx=>Cnd (Qa=B8 []) (K (0:Int) (1:Int)) (((0:Int)<=(0:Int)/\(0:Int)<(↑Qa.size:Int))/\ ∀b1,Qa[Int.toNat (0:Int)]? =some b1->Cnd ((↑b1.toNat:Int)=48) (Cnd ((1:Int)<(↑Qa.size:Int)) (K (0:Int) (1:Int)) (Cnd (Qx=true) (K (0:Int) (1:Int)) (Lp1 (fun (Qk:ByteArray×Nat) z82=>Cnd (Qk.2<Qk.1.size) (Cnd ((↑(Go.Utf8.decode Qk.1 Qk.2).1:Int)<(48:Int)) (K (0:Int) (1:Int)) (Cnd ((57:Int)<(↑(Go.Utf8.decode Qk.1 Qk.2).1:Int)) (K (0:Int) (1:Int)) (z82 (Qk.1,Qk.2+(Go.Utf8.decode Qk.1 Qk.2).2)))) (R1 s fun Qp Ju=>Cnd ((match (Qp,Ju,()).2.1 with|true=>false|false=>true)=true) (K (0:Int) (3:Int)) (Cnd (Qp<(-1099511627776:Int)) (K (0:Int) (3:Int)) (Cnd ((1099511627776:Int)<Qp) (K (0:Int) (3:Int)) (K Qp (0:Int)))))) (Qa,(0:Nat))))) (Lp1 (fun (Qk:ByteArray×Nat) z82=>Cnd (Qk.2<Qk.1.size) (Cnd ((↑(Go.Utf8.decode Qk.1 Qk.2).1:Int)<(48:Int)) (K (0:Int) (1:Int)) (Cnd ((57:Int)<(↑(Go.Utf8.decode Qk.1 Qk.2).1:Int)) (K (0:Int) (1:Int)) (z82 (Qk.1,Qk.2+(Go.Utf8.decode Qk.1 Qk.2).2)))) (R1 s fun Qp Ju=>Cnd ((match (Qp,Ju,()).2.1 with|true=>false|false=>true)=true) (K (0:Int) (3:Int)) (Cnd (Qp<(-1099511627776:Int)) (K (0:Int) (3:Int)) (Cnd ((1099511627776:Int)<Qp) (K (0:Int) (3:Int)) (K Qp (0:Int)))))) (Qa,(0:Nat))))
def Gm:Vc:=q09 Up q3n
abbrev Uq:Type:=ByteArray->(A3->Bool->Prop)->Prop
def z1v(q2g:q7l)(Gu:Vc):Uq:=fun s K=>q2g s (B8 [46]) fun Qa=>Fits Qa->Cnd ((↑Qa.length:Int)=3) (Fits Qa->LpH (fun (Qk:Int×Int×Int×Int×Int×Int×Int×Unit) z82=>CAt Qa Qk.1 (fun y4=>Gu y4 fun Zn q93=>Cnd (q93=0) (Cnd (Zn<0) (K ((0:Int),(0:Int),(0:Int)) false) (Cnd ((999999:Int)<Zn) (K ((0:Int),(0:Int),(0:Int)) false) (((0:Int)<=Qk.1/\Qk.1<(↑(3:Nat):Int))/\((True/\(Qk.1=(↑(nat_lit 0):Int)->InI (Qk.1+1)/\z82 (Qk.1+1,Zn,Qk.2.2.1,Qk.2.2.2.1,Qk.2.2.2.2.1,Qk.2.2.2.2.2.1,Qk.2.2.2.2.2.2.1,())))/\(Qk.1=(↑(nat_lit 1):Int)->InI (Qk.1+1)/\z82 (Qk.1+1,Qk.2.1,Zn,Qk.2.2.2.1,Qk.2.2.2.2.1,Qk.2.2.2.2.2.1,Qk.2.2.2.2.2.2.1,())))/\(Qk.1=(↑(nat_lit 2):Int)->InI (Qk.1+1)/\z82 (Qk.1+1,Qk.2.1,Qk.2.2.1,Zn,Qk.2.2.2.2.1,Qk.2.2.2.2.2.1,Qk.2.2.2.2.2.2.1,()))))) (K ((0:Int),(0:Int),(0:Int)) false)) (K (Qk.2.1,Qk.2.2.1,Qk.2.2.2.1) true)) ((0:Int),(0:Int),(0:Int),(0:Int),(0:Int),(0:Int),(0:Int),())) (K ((0:Int),(0:Int),(0:Int)) false)
def q1a:Uq:=z1v q7m Gm
abbrev q1b:Type:=Val->(Int->Prop)->Prop
def z1w(q6h:q5p)(q4m:q4d)(J0:Uq):q1b:=fun v K=>Cnd (v.1<1) (K (7:Int)) (Cnd ((5:Int)<v.1) (K (7:Int)) (q6h v fun Qa=>Cnd (Qa=true) (Cnd (v.1=1) (Cnd (v.2=0) (K (0:Int)) (Cnd (v.2=1) (K (0:Int)) (K (3:Int)))) (Cnd (v.1=2) (Cnd (v.2<(-1099511627776:Int)) (K (3:Int)) (Cnd ((1099511627776:Int)<v.2) (K (3:Int)) (K (0:Int)))) (Cnd (v.1=3) (q4m v.3 fun Qc=>Cnd (Qc=true) (K (0:Int)) (K (2:Int))) (Cnd (v.1=4) (J0 v.3 fun (_:Int×Int×Int) Z2=>Cnd (Z2=true) (K (0:Int)) (K (1:Int))) (Cnd (v.1=5) (Fits v.4->Cnd ((20:Int)<(↑v.4.length:Int)) (K (5:Int)) (Fits v.4->Lp1 (fun Qk z82=>CAt v.4 Qk (fun y4=>q4m y4 fun Zn=>Cnd (Zn=true) (InI (Qk+1)/\z82 (Qk+1)) (K (2:Int))) (Fits v.4->Lp1 (fun Qj j8y=>Cnd (Qj<(↑v.4.length:Int)) (Cnd ((0:Int)<Qj) (InI (Qj - 1)/\((0:Int)<=Qj - 1/\Qj - 1<(↑v.4.length:Int))/\ ∀y6,v.4[(Qj - 1).toNat]? =some y6->At v.4 Qj fun y8=>Cnd (Lk.blt y6 y8) (InI (Qj+1)/\j8y (Qj+1)) (K (9:Int))) (InI (Qj+1)/\j8y (Qj+1))) (K (0:Int))) (0:Int))) (0:Int))) (K (0:Int))))))) (K (15:Int))))
def q5r:q1b:=z1w q5q q8w q1a
abbrev He:Type:=Val->Val->(Int->Int->Prop)->Prop
def q7n(q2h:q1b)(J0:Uq):He:=fun a b K=>q2h a fun Qa=>Cnd (Qa=0) (q2h b fun Qc=>Cnd (Qc=0) (Cnd (a.1=b.1) (Cnd (a.1=1) (K (0:Int) (8:Int)) (Cnd (a.1=5) (K (0:Int) (8:Int)) (Cnd (a.1=2) (Cnd (a.2=a.2) (Cnd (b.2=b.2) (Cnd (a.2<b.2) (K (-1:Int) (0:Int)) (Cnd (b.2<a.2) (K (1:Int) (0:Int)) (K (0:Int) (0:Int)))) (K (1:Int) (0:Int))) (Cnd (b.2=b.2) (K (-1:Int) (0:Int)) (K (0:Int) (0:Int)))) (Cnd (a.1=3) (Cnd (a.3=a.3) (Cnd (b.3=b.3) (Cnd (Lk.blt a.3 b.3) (K (-1:Int) (0:Int)) (Cnd (Lk.blt b.3 a.3) (K (1:Int) (0:Int)) (K (0:Int) (0:Int)))) (K (1:Int) (0:Int))) (Cnd (b.3=b.3) (K (-1:Int) (0:Int)) (K (0:Int) (0:Int)))) (J0 a.3 fun (Qh:Int×Int×Int) _=>J0 b.3 fun (Qk:Int×Int×Int) _=>Two (([Qh.1,Qh.2.1,Qh.2.2].length<=(9223372036854775807:Nat)->Lp1 (fun Qj j8y=>Cnd (Qj<(↑[Qh.1,Qh.2.1,Qh.2.2].length:Int)) (((0:Int)<=Qj/\Qj<(↑[Qh.1,Qh.2.1,Qh.2.2].length:Int))/\ ∀y6,[Qh.1,Qh.2.1,Qh.2.2][Qj.toNat]? =some y6->[Qk.1,Qk.2.1,Qk.2.2].length<=(9223372036854775807:Nat)->Cnd ((↑[Qk.1,Qk.2.1,Qk.2.2].length:Int)<=Qj) (K (1:Int) (0:Int)) (((0:Int)<=Qj/\Qj<(↑[Qk.1,Qk.2.1,Qk.2.2].length:Int))/\ ∀y9,[Qk.1,Qk.2.1,Qk.2.2][Qj.toNat]? =some y9->Cnd (y6=y6) (Cnd (y9=y9) (Cnd (y6<y9) (Cnd ((-1:Int)=(0:Int)) (InI (Qj+1)/\j8y (Qj+1)) (K (-1:Int) (0:Int))) (Cnd (y9<y6) (Cnd ((1:Int)=(0:Int)) (InI (Qj+1)/\j8y (Qj+1)) (K (1:Int) (0:Int))) (Cnd ((0:Int)=(0:Int)) (InI (Qj+1)/\j8y (Qj+1)) (K (0:Int) (0:Int))))) (Cnd ((1:Int)=(0:Int)) (InI (Qj+1)/\j8y (Qj+1)) (K (1:Int) (0:Int)))) (Cnd (y9=y9) (Cnd ((-1:Int)=(0:Int)) (InI (Qj+1)/\j8y (Qj+1)) (K (-1:Int) (0:Int))) (Cnd ((0:Int)=(0:Int)) (InI (Qj+1)/\j8y (Qj+1)) (K (0:Int) (0:Int)))))) ([Qh.1,Qh.2.1,Qh.2.2].length<=(9223372036854775807:Nat)->[Qk.1,Qk.2.1,Qk.2.2].length<=(9223372036854775807:Nat)->Cnd ((↑[Qh.1,Qh.2.1,Qh.2.2].length:Int)<(↑[Qk.1,Qk.2.1,Qk.2.2].length:Int)) (K (-1:Int) (0:Int)) (K (0:Int) (0:Int)))) (0:Int)))))))) (K (0:Int) (8:Int))) (K (0:Int) Qc)) (K (0:Int) Qa)
def Hf:He:=q7n q5r q1a
abbrev q5s:Type:=Subj->Ex->(Bool->Prop)->Prop
def z1x(Z8:Wb)(Rf:q02)(Rh:q05)(U1:Wu)(U2:Wv)(Gv:q07)(Hm:He):q5s:=fun s e K=>Z8 (Subj.mk s.1) e.2 e.3 fun Qa Qx=>Cnd (Qx=true) (Rf e.1 fun Qc=>Cnd (Qc=true) (Cnd (e.1=6) (K true) (Cnd (e.1=8) (Fits e.4->Lp1 (fun Qk z82=>CAt e.4 Qk (fun y4=>Rh Qa y4 fun Zn=>Cnd (Zn=true) (K (decide ((0:Int)<=Qk))) (InI (Qk+1)/\z82 (Qk+1))) (K (decide ((0:Int)<=(-1:Int))))) (0:Int)) (Fits e.4->Cnd ((↑e.4.length:Int)=0) (K false) (((0:Int)<=(0:Int)/\(0:Int)<(↑e.4.length:Int))/\ ∀y3,e.4[Int.toNat (0:Int)]? =some y3->Cnd (Qa.1=3) (Cnd (e.1=7) (Rh Qa y3 fun Qj=>K Qj) (Cnd (e.1=9) (Cnd (y3.1=3) (U1 Qa.3 y3.3 fun Qj=>K Qj) (K false)) (Cnd (e.1=10) (Cnd (y3.1=3) (U2 Qa.3 y3.3 fun Qj=>K Qj) (K false)) (Cnd (e.1=11) (Cnd (y3.1=3) (Gv Qa.3 y3.3 fun Qj=>Cnd (Qj=true) (K true) (Cnd (y3.1=3) (Cnd (Qa.1=5) (Fits Qa.4->Lp1 (fun Jm y5k=>CAt Qa.4 Jm (fun y8=>Cnd (y3.3=y8) (K (decide ((0:Int)<=Jm))) (InI (Jm+1)/\y5k (Jm+1))) (K (decide ((0:Int)<=(-1:Int))))) (0:Int)) (K false)) (K false))) (Cnd (y3.1=3) (Cnd (Qa.1=5) (Fits Qa.4->Lp1 (fun Zn v3n=>CAt Qa.4 Zn (fun y7=>Cnd (y3.3=y7) (K (decide ((0:Int)<=Zn))) (InI (Zn+1)/\v3n (Zn+1))) (K (decide ((0:Int)<=(-1:Int))))) (0:Int)) (K false)) (K false))) (Hm Qa y3 fun Qj q94=>Cnd (q94=0) (Cnd (e.1=12) (K (decide (Qj<0))) (Cnd (e.1=13) (K (decide (Qj<=0))) (Cnd (e.1=14) (K (decide ((0:Int)<Qj))) (K (decide ((0:Int)<=Qj)))))) (K false)))))) (Cnd (e.1=7) (Rh Qa y3 fun Qj=>K Qj) (Cnd (e.1=9) (K false) (Cnd (e.1=10) (K false) (Cnd (e.1=11) (Cnd (y3.1=3) (Cnd (Qa.1=5) (Fits Qa.4->Lp1 (fun Zn v3n=>CAt Qa.4 Zn (fun y7=>Cnd (y3.3=y7) (K (decide ((0:Int)<=Zn))) (InI (Zn+1)/\v3n (Zn+1))) (K (decide ((0:Int)<=(-1:Int))))) (0:Int)) (K false)) (K false)) (Hm Qa y3 fun Qj q94=>Cnd (q94=0) (Cnd (e.1=12) (K (decide (Qj<0))) (Cnd (e.1=13) (K (decide (Qj<=0))) (Cnd (e.1=14) (K (decide ((0:Int)<Qj))) (K (decide ((0:Int)<=Qj)))))) (K false)))))))))) (K false)) (K false)
def Hy:q5s:=z1x U6 Uj q06 Uk Um q08 Hf
abbrev Jy:Type:=Subj->List (ByteArray)->Ex->(Bool->Prop)->Prop
def z1y(w4a:q5s)(X:Jy):Jy:=fun s in_ e K=>Cnd (e.1=1) (K true) (Cnd (e.1=2) (Fits e.5->Lp1 (fun Qc Ra=>CAt e.5 Qc (fun y2=>X (Subj.mk s.1) in_ (Ex.mk y2.1 y2.2 y2.3 y2.4 y2.5) fun Qp=>Cnd (Qp=true) (InI (Qc+1)/\Ra (Qc+1)) (K (match decide ((0:Int)<=Qc) with|true=>false|false=>true))) (K true)) (0:Int)) (Cnd (e.1=3) (Fits e.5->Lp1 (fun Qc Ra=>CAt e.5 Qc (fun y2=>X (Subj.mk s.1) in_ (Ex.mk y2.1 y2.2 y2.3 y2.4 y2.5) fun Qp=>Cnd (Qp=true) (K (decide ((0:Int)<=Qc))) (InI (Qc+1)/\Ra (Qc+1))) (K (decide ((0:Int)<=(-1:Int))))) (0:Int)) (Cnd (e.1=4) (Fits e.5->Cnd ((0:Int)<(↑e.5.length:Int)) (((0:Int)<=(0:Int)/\(0:Int)<(↑e.5.length:Int))/\ ∀y1,e.5[Int.toNat (0:Int)]? =some y1->X (Subj.mk s.1) in_ (Ex.mk y1.1 y1.2 y1.3 y1.4 y1.5) fun Qk=>K (match decide ((Qk,()).1=true) with|true=>false|false=>true)) (K false)) (Cnd (e.1=5) (Fits in_->Lp1 (fun Qc Ra=>CAt in_ Qc (fun y2=>Cnd (e.3=y2) (K (decide ((0:Int)<=Qc))) (InI (Qc+1)/\Ra (Qc+1))) (K (decide ((0:Int)<=(-1:Int))))) (0:Int)) (w4a (Subj.mk s.1) (Ex.mk e.1 e.2 e.3 e.4 e.5) fun Qa=>K Qa)))))
def Vd:Jy:=fun s in_ e K=> ∀X:Jy,(∀s in_ e K,z1y Hy X s in_ e K->X s in_ e K)->X s in_ e K
abbrev Ve:Type:=Seg->Subj->List (ByteArray)->(Bool->Prop)->Prop
def q1c(Ql:Zl)(Zr:Jy):Ve:=fun g s in_ K=>Ql (Subj.mk s.1) g.2 fun Qa Qx=>Cnd (Qx=true) (Fits g.4->Lp1 (fun Qh j01=>CAt g.4 Qh (fun y3=>Cnd (Qa.2=y3) (Cnd ((0:Int)<=Qh) (K false) (Fits g.3->Lp1 (fun Zn v3n=>CAt g.3 Zn (fun y7=>Cnd (Qa.2=y7) (Cnd ((0:Int)<=Zn) (K true) (Cnd (g.5.1=0) (K false) (Zr (Subj.mk s.1) in_ (Ex.mk g.5.1 g.5.2 g.5.3 g.5.4 g.5.5) fun W2=>K W2))) (InI (Zn+1)/\v3n (Zn+1))) (Cnd ((0:Int)<=(-1:Int)) (K true) (Cnd (g.5.1=0) (K false) (Zr (Subj.mk s.1) in_ (Ex.mk g.5.1 g.5.2 g.5.3 g.5.4 g.5.5) fun Jm=>K Jm)))) (0:Int))) (InI (Qh+1)/\j01 (Qh+1))) (Cnd ((0:Int)<=(-1:Int)) (K false) (Fits g.3->Lp1 (fun Qp y52=>CAt g.3 Qp (fun y5=>Cnd (Qa.2=y5) (Cnd ((0:Int)<=Qp) (K true) (Cnd (g.5.1=0) (K false) (Zr (Subj.mk s.1) in_ (Ex.mk g.5.1 g.5.2 g.5.3 g.5.4 g.5.5) fun Jm=>K Jm))) (InI (Qp+1)/\y52 (Qp+1))) (Cnd ((0:Int)<=(-1:Int)) (K true) (Cnd (g.5.1=0) (K false) (Zr (Subj.mk s.1) in_ (Ex.mk g.5.1 g.5.2 g.5.3 g.5.4 g.5.5) fun Qj=>K Qj)))) (0:Int)))) (0:Int)) (K false)
def Gn:Ve:=q1c Wn Vd
abbrev Js:Type:=List (Seg)->Subj->(List (ByteArray)->Prop)->Prop
def q2x(q2i:Hb)(Gw:Ve)(Qq:Zo):Js:=fun l s K=>q2i l fun Qa Qx=>Cnd (Qx=0) (Fits l->Lp2 (fun Qh j01 q5d=>CAt l Qh (fun y3=>InI (Qh+1)/\q5d (Qh+1) (put j01 y3.1 (Seg.mk y3.1 y3.2 y3.3 y3.4 (Ex.mk y3.5.1 y3.5.2 y3.5.3 y3.5.4 y3.5.5)))) (Fits Qa->Lp2 (fun Qp Ju v09=>CAt Qa Ju (fun y5=>Gw (Seg.mk ((j01 y5).getD (Seg.mk (B8 []) (B8 []) [] [] (Ex.mk (0:Int) (B8 []) (B8 []) [] []))).1 ((j01 y5).getD (Seg.mk (B8 []) (B8 []) [] [] (Ex.mk (0:Int) (B8 []) (B8 []) [] []))).2 ((j01 y5).getD (Seg.mk (B8 []) (B8 []) [] [] (Ex.mk (0:Int) (B8 []) (B8 []) [] []))).3 ((j01 y5).getD (Seg.mk (B8 []) (B8 []) [] [] (Ex.mk (0:Int) (B8 []) (B8 []) [] []))).4 (Ex.mk ((j01 y5).getD (Seg.mk (B8 []) (B8 []) [] [] (Ex.mk (0:Int) (B8 []) (B8 []) [] []))).5.1 ((j01 y5).getD (Seg.mk (B8 []) (B8 []) [] [] (Ex.mk (0:Int) (B8 []) (B8 []) [] []))).5.2 ((j01 y5).getD (Seg.mk (B8 []) (B8 []) [] [] (Ex.mk (0:Int) (B8 []) (B8 []) [] []))).5.3 ((j01 y5).getD (Seg.mk (B8 []) (B8 []) [] [] (Ex.mk (0:Int) (B8 []) (B8 []) [] []))).5.4 ((j01 y5).getD (Seg.mk (B8 []) (B8 []) [] [] (Ex.mk (0:Int) (B8 []) (B8 []) [] []))).5.5)) (Subj.mk s.1) Qp fun Jm=>Cnd (Jm=true) (Sml (Qp++[y5]).length/\InI (Ju+1)/\v09 (Qp++[y5]) (Ju+1)) (InI (Ju+1)/\v09 Qp (Ju+1))) (Qq Qp fun Qj=>K Qj)) [] (0:Int))) (0:Int) fun _=>none) (K [])
def Wq:Js:=q2x q03 Gn Jc
abbrev Wc:Type:=Envt->Subj->List (Frc)->(ByteArray->ByteArray->Int->List (Decl)->List (Seg)->List (Flg)->List (Lay_)->List (Exper)->List (Ctxt)->List (Frc)->List (ByteArray)->(ByteArray->Option (Dcs))->(ByteArray->Option (Bool))->Prop)->Prop
def q4v(Q2:Js):Wc:=fun v s forced K=>(Q2 v.3 (Subj.mk s.1) fun Qa=>(K v.1.1 v.1.2 v.1.3 v.2 v.3 v.4 v.5 v.6 s.1 forced Qa (fun _=>none) fun _=>none)/\K v.1.1 v.1.2 v.1.3 v.2 v.3 v.4 v.5 v.6 s.1 forced Qa (fun _=>none) fun _=>none)/\((Q2 v.3 (Subj.mk s.1) fun Qa=>K v.1.1 v.1.2 v.1.3 v.2 v.3 v.4 v.5 v.6 s.1 forced Qa (fun _=>none) fun _=>none)/\Q2 v.3 (Subj.mk s.1) fun Qa=>K v.1.1 v.1.2 v.1.3 v.2 v.3 v.4 v.5 v.6 s.1 forced Qa (fun _=>none) fun _=>none)/\(Q2 v.3 (Subj.mk s.1) fun Qa=>K v.1.1 v.1.2 v.1.3 v.2 v.3 v.4 v.5 v.6 s.1 forced Qa (fun _=>none) fun _=>none)/\Q2 v.3 (Subj.mk s.1) fun Qa=>K v.1.1 v.1.2 v.1.3 v.2 v.3 v.4 v.5 v.6 s.1 forced Qa (fun _=>none) fun _=>none
def U7:Wc:=q4v Wq
abbrev Vf:Type:=ByteArray->ByteArray->Int->List (Decl)->List (Seg)->List (Flg)->List (Lay_)->List (Exper)->List (Ctxt)->List (Frc)->List (ByteArray)->(ByteArray->Option (Dcs))->(ByteArray->Option (Bool))->ByteArray->(Flg->Bool->(ByteArray->Option (Dcs))->(ByteArray->Option (Bool))->Prop)->Prop
def Jg:Vf:=fun _ _ _ _ _ flags _ _ _ _ _ done opn key K=>Fits flags->Lp1 (fun Qc Ra=>CAt flags Qc (fun y2=>Cnd (y2.1=key) (Cnd (Qc<0) (K (Flg.mk (B8 []) (0:Int) [] false (0:Int) [] [] [] (Srv.mk (0:Int) (B8 []) (B8 []) (B8 []) [])) false done opn) (At flags Qc fun y4=>K (Flg.mk y4.1 y4.2 y4.3 y4.4 y4.5 y4.6 y4.7 y4.8 (Srv.mk y4.9.1 y4.9.2 y4.9.3 y4.9.4 y4.9.5)) true done opn)) (InI (Qc+1)/\Ra (Qc+1))) (Cnd ((-1:Int)<(0:Int)) (K (Flg.mk (B8 []) (0:Int) [] false (0:Int) [] [] [] (Srv.mk (0:Int) (B8 []) (B8 []) (B8 []) [])) false done opn) (At flags (-1:Int) fun y2=>K (Flg.mk y2.1 y2.2 y2.3 y2.4 y2.5 y2.6 y2.7 y2.8 (Srv.mk y2.9.1 y2.9.2 y2.9.3 y2.9.4 y2.9.5)) true done opn))) (0:Int)
abbrev Hz:Type:=Flg->Subj->(Int->Prop)->Prop
def q2y(Ql:Zl):Hz:=fun f s K=>Fits f.7->Lp1 (fun Qc Ra=>CAt f.7 Qc (fun y2=>Ql (Subj.mk s.1) y2.1 fun Qp Ju=>Cnd (Ju=true) (Fits y2.3->Lp1 (fun Zn v3n=>CAt y2.3 Zn (fun y7=>Cnd (Qp.2=y7) (Cnd ((0:Int)<=Zn) (InI (Qc+1)/\K (Qc+1)) (InI (Qc+1)/\Ra (Qc+1))) (InI (Zn+1)/\v3n (Zn+1))) (Cnd ((0:Int)<=(-1:Int)) (InI (Qc+1)/\K (Qc+1)) (InI (Qc+1)/\Ra (Qc+1)))) (0:Int)) (InI (Qc+1)/\Ra (Qc+1))) (K (0:Int))) (0:Int)
def Wr:Hz:=q2y Wn
abbrev q3o:Type:=List (List Int)->(List (Int)->Prop)->Prop
def q3p:q3o:=fun fields K=>Fits fields->Lp2 (fun Qc Z2 z6u=>CAt fields Z2 (fun y2=>Lp2 (fun Qp Ju v09=>Cnd ((0:Int)<=Ju) (Fits y2->InI ((8:Int)*Ju)/\(0:Int)<=(8:Int)*Ju/\Sml (Qp++[Go.IntKind.u8.wrap ((Go.IntKind.u64.wrap (↑y2.length:Int)).fdiv ((2:Int) ^ Min.min ((8:Int)*Ju).toNat (64:Nat)))]).length/\InI (Ju - 1)/\v09 (Qp++[Go.IntKind.u8.wrap ((Go.IntKind.u64.wrap (↑y2.length:Int)).fdiv ((2:Int) ^ Min.min ((8:Int)*Ju).toNat (64:Nat)))]) (Ju - 1)) (Sml (Qp++y2).length/\InI (Z2+1)/\z6u (Qp++y2) (Z2+1))) Qc (7:Int)) (K Qc)) [] (0:Int)
abbrev Ur:Type:=Int->Int->(Int->Prop)->Prop
def Us:Ur:=fun x k K=>(0:Int)<=Go.IntKind.u64.wrap (↑(BitVec.ofInt (64:Nat) (Go.IntKind.u64.wrap k) &&& BitVec.ofInt (64:Nat) (63:Int)).toNat:Int)/\(0:Int)<=Go.IntKind.u64.wrap ((64:Int) - Go.IntKind.u64.wrap (↑(BitVec.ofInt (64:Nat) (Go.IntKind.u64.wrap k) &&& BitVec.ofInt (64:Nat) (63:Int)).toNat:Int))/\K (Go.IntKind.u64.wrap (↑(BitVec.ofInt (64:Nat) (Go.IntKind.u64.wrap (x*2 ^ Min.min (Go.IntKind.u64.wrap (↑(BitVec.ofInt (64:Nat) (Go.IntKind.u64.wrap k) &&& BitVec.ofInt (64:Nat) (63:Int)).toNat:Int)).toNat (64:Nat)))|||BitVec.ofInt (64:Nat) (x.fdiv ((2:Int) ^ Min.min (Go.IntKind.u64.wrap ((64:Int) - Go.IntKind.u64.wrap (↑(BitVec.ofInt (64:Nat) (Go.IntKind.u64.wrap k) &&& BitVec.ofInt (64:Nat) (63:Int)).toNat:Int))).toNat (64:Nat)))).toNat:Int))
abbrev Z1:Type:=Int->Int->Int->Int->Int->(Int->Int->Int->Int->Prop)->Prop
def Rl(Zj:Ur):Z1:=fun v0 v1 v2 v3 n K=>Lp5 (fun Qa Qx z7f q45 j5h y53=>Cnd (Qa<n) (Zj z7f (13:Int) fun Qc=>Zj (Go.IntKind.u64.wrap (Qx+z7f)) (32:Int) fun Qh=>Zj j5h (16:Int) fun Qk=>Zj (Go.IntKind.u64.wrap (↑(BitVec.ofInt (64:Nat) Qk ^^^ BitVec.ofInt (64:Nat) (Go.IntKind.u64.wrap (q45+j5h))).toNat:Int)) (21:Int) fun Qp=>Zj (Go.IntKind.u64.wrap (↑(BitVec.ofInt (64:Nat) Qc ^^^ BitVec.ofInt (64:Nat) (Go.IntKind.u64.wrap (Qx+z7f))).toNat:Int)) (17:Int) fun Qj=>Zj (Go.IntKind.u64.wrap (Go.IntKind.u64.wrap (q45+j5h)+Go.IntKind.u64.wrap (↑(BitVec.ofInt (64:Nat) Qc ^^^ BitVec.ofInt (64:Nat) (Go.IntKind.u64.wrap (Qx+z7f))).toNat:Int))) (32:Int) fun Zn=>InI (Qa+1)/\y53 (Qa+1) (Go.IntKind.u64.wrap (Qh+Go.IntKind.u64.wrap (↑(BitVec.ofInt (64:Nat) Qk ^^^ BitVec.ofInt (64:Nat) (Go.IntKind.u64.wrap (q45+j5h))).toNat:Int))) (Go.IntKind.u64.wrap (↑(BitVec.ofInt (64:Nat) Qj ^^^ BitVec.ofInt (64:Nat) (Go.IntKind.u64.wrap (Go.IntKind.u64.wrap (q45+j5h)+Go.IntKind.u64.wrap (↑(BitVec.ofInt (64:Nat) Qc ^^^ BitVec.ofInt (64:Nat) (Go.IntKind.u64.wrap (Qx+z7f))).toNat:Int)))).toNat:Int)) Zn (Go.IntKind.u64.wrap (↑(BitVec.ofInt (64:Nat) Qp ^^^ BitVec.ofInt (64:Nat) (Go.IntKind.u64.wrap (Qh+Go.IntKind.u64.wrap (↑(BitVec.ofInt (64:Nat) Qk ^^^ BitVec.ofInt (64:Nat) (Go.IntKind.u64.wrap (q45+j5h))).toNat:Int)))).toNat:Int))) (K Qx z7f q45 j5h)) (0:Int) v0 v1 v2 v3
def Zm:Z1:=Rl Us
abbrev Vg:Type:=Int->Int->Int->Int->Int->(Int->Int->Int->Int->Prop)->Prop
def q1d(Zb:Z1):Vg:=fun v0 v1 v2 v3 m K=>Zb v0 v1 v2 (Go.IntKind.u64.wrap (↑(BitVec.ofInt (64:Nat) v3 ^^^ BitVec.ofInt (64:Nat) m).toNat:Int)) (2:Int) fun Qa Qx z7f q45=>K (Go.IntKind.u64.wrap (↑(BitVec.ofInt (64:Nat) Qa ^^^ BitVec.ofInt (64:Nat) m).toNat:Int)) Qx z7f q45
def Gq:Vg:=q1d Zm
abbrev q4e:Type:=Int->Int->List (Int)->(Int->Prop)->Prop
def z4c(Vm:Vg)(Zb:Z1):q4e:=fun k0 k1 b K=>Fits b->(0:Int)<=(56:Int)/\Lp5 (fun Qc Z2 z6c j1b y8j y9w=>InI (Qc+8)/\(Fits b->Cnd (Qc+8<=(↑b.length:Int)) (Lp2 (fun Qk Hj j9y=>Cnd (Hj<8) (InI (Qc+Hj)/\At b (Qc+Hj) fun y4=>InI ((8:Int)*Hj)/\(0:Int)<=(8:Int)*Hj/\InI (Hj+1)/\j9y (Go.IntKind.u64.wrap (↑(BitVec.ofInt (64:Nat) Qk|||BitVec.ofInt (64:Nat) (Go.IntKind.u64.wrap (Go.IntKind.u64.wrap y4*2 ^ Min.min ((8:Int)*Hj).toNat (64:Nat)))).toNat:Int)) (Hj+1)) (Vm Z2 z6c j1b y8j Qk fun Qp Ju j03 v70=>InI (Qc+8)/\y9w (Qc+8) Qp Ju j03 v70)) (0:Int) (0:Int)) (Fits b->(8:Int)≠(0:Int)/\Lp2 (fun Qp Ju v09=>Cnd (Ju<(↑b.length:Int).tmod (8:Int)) (Fits b->Fits b->(8:Int)≠(0:Int)/\InI ((↑b.length:Int) - (↑b.length:Int).tmod (8:Int))/\InI ((↑b.length:Int) - (↑b.length:Int).tmod (8:Int)+Ju)/\((0:Int)<=(↑b.length:Int) - (↑b.length:Int).tmod (8:Int)+Ju/\(↑b.length:Int) - (↑b.length:Int).tmod (8:Int)+Ju<(↑b.length:Int))/\ ∀y7,b[((↑b.length:Int) - (↑b.length:Int).tmod (8:Int)+Ju).toNat]? =some y7->InI ((8:Int)*Ju)/\(0:Int)<=(8:Int)*Ju/\InI (Ju+1)/\v09 (Go.IntKind.u64.wrap (↑(BitVec.ofInt (64:Nat) Qp|||BitVec.ofInt (64:Nat) (Go.IntKind.u64.wrap (Go.IntKind.u64.wrap y7*2 ^ Min.min ((8:Int)*Ju).toNat (64:Nat)))).toNat:Int)) (Ju+1)) (Vm Z2 z6c j1b y8j Qp fun Qj q94 y9y u00=>Zb Qj q94 (Go.IntKind.u64.wrap (↑(BitVec.ofInt (64:Nat) y9y ^^^ BitVec.ofInt (64:Nat) (255:Int)).toNat:Int)) u00 (4:Int) fun Zn q93 w03 w38=>K (Go.IntKind.u64.wrap (↑(BitVec.ofInt (64:Nat) (Go.IntKind.u64.wrap (↑(BitVec.ofInt (64:Nat) (Go.IntKind.u64.wrap (↑(BitVec.ofInt (64:Nat) Zn ^^^ BitVec.ofInt (64:Nat) q93).toNat:Int)) ^^^ BitVec.ofInt (64:Nat) w03).toNat:Int)) ^^^ BitVec.ofInt (64:Nat) w38).toNat:Int)))) (Go.IntKind.u64.wrap (Go.IntKind.u64.wrap (↑b.length:Int)*2 ^ Min.min (Int.toNat (56:Int)) (64:Nat))) (0:Int)))) (0:Int) (Go.IntKind.u64.wrap (↑(BitVec.ofInt (64:Nat) k0 ^^^ BitVec.ofInt (64:Nat) (8317987319222330741:Int)).toNat:Int)) (Go.IntKind.u64.wrap (↑(BitVec.ofInt (64:Nat) k1 ^^^ BitVec.ofInt (64:Nat) (7237128888997146477:Int)).toNat:Int)) (Go.IntKind.u64.wrap (↑(BitVec.ofInt (64:Nat) k0 ^^^ BitVec.ofInt (64:Nat) (7816392313619706465:Int)).toNat:Int)) (Go.IntKind.u64.wrap (↑(BitVec.ofInt (64:Nat) k1 ^^^ BitVec.ofInt (64:Nat) (8387220255154660723:Int)).toNat:Int))
def q8x:q4e:=z4c Gq Zm
abbrev q1e:Type:=Int->List (List Int)->(Int->Prop)->Prop
def z1z(q31:q3o)(q9f:q4e):q1e:=fun domain fields K=>q31 fields fun Qa=>q9f domain (0:Int) Qa fun Qc=>K Qc
def q5t:q1e:=z1z q3p q8x
abbrev Wx:Type:=ByteArray->ByteArray->(Int->Prop)->Prop
def z70(q6i:q1e):Wx:=fun salt key K=>Sml salt.size/\Sml key.size/\q6i (1:Int) [List.map (fun b=>(↑b.toNat:Int)) (salt,key,()).1.data.toList,List.map (fun b=>(↑b.toNat:Int)) (salt,key,()).2.1.data.toList] fun Qa=>(10000:Int)≠(0:Int)/\InI (Qa.tmod (10000:Int))/\K (Qa.tmod (10000:Int))
def Ut:Wx:=z70 q5t
abbrev q1f:Type:=List (Frc)->ByteArray->(Frc->Bool->Prop)->Prop
def q1g:q1f:=fun l layer K=>Fits l->Lp4 (fun Qc Z2 z6c j1b u01=>CAt l Qc (fun y2=>Cnd (y2.1=layer) (K y2 true) (InI (Qc+1)/\u01 (Qc+1) Z2 z6c j1b)) (K (Frc.mk (B8 []) (B8 []) (0:Int)) false)) (0:Int) (B8 []) (B8 []) (0:Int)
abbrev q5u:Type:=Envt->Frc->(Bool->Prop)->Prop
def q5v:q5u:=fun v f K=>Fits v.6->Lp1 (fun Qc Ra=>CAt v.6 Qc (fun y2=>Cnd (y2.1=f.2) (Cnd (y2.2=f.1) (Cnd (y2.5=2) (Fits y2.7->Lp1 (fun Qj j8y=>CAt y2.7 Qj (fun y6=>Cnd (y6.3=f.3) (Cnd ((0:Int)<=Qj) (K (decide ((0:Int)<=Qc))) (InI (Qc+1)/\Ra (Qc+1))) (InI (Qj+1)/\j8y (Qj+1))) (Cnd ((0:Int)<=(-1:Int)) (K (decide ((0:Int)<=Qc))) (InI (Qc+1)/\Ra (Qc+1)))) (0:Int)) (InI (Qc+1)/\Ra (Qc+1))) (InI (Qc+1)/\Ra (Qc+1))) (InI (Qc+1)/\Ra (Qc+1))) (K (decide ((0:Int)<=(-1:Int))))) (0:Int)
abbrev q1h:Type:=Envt->Subj->(Bool->Prop)->Prop
def z10(Ql:Zl)(Zf:Wx):q1h:=fun v s K=>Cnd (v.1.3<=0) (K false) (Ql (Subj.mk s.1) v.1.2 fun Qa Qx=>Cnd (Qx=true) (Zf v.1.1 Qa.2 fun Qc=>K (decide (Qc<v.1.3))) (K false))
def q5w:q1h:=z10 Wn Ut
abbrev V7:Type:=Envt->Subj->ByteArray->(Bool->Prop)->Prop
def q2z(Q2:Js)(Zr:Jy):V7:=fun v s experiment K=>Fits v.6->Lp1 (fun Qc Ra=>CAt v.6 Qc (fun y2=>Cnd (y2.1=experiment) (Q2 v.3 (Subj.mk s.1) fun Qp=>Zr (Subj.mk s.1) Qp (Ex.mk y2.8.1 y2.8.2 y2.8.3 y2.8.4 y2.8.5) fun Qj=>K Qj) (InI (Qc+1)/\Ra (Qc+1))) (K false)) (0:Int)
def H0:V7:=q2z Wq Vd
abbrev H1:Type:=List (Rng)->Int->(Int->Prop)->Prop
def q1i:H1:=fun l bucket K=>Fits l->Lp1 (fun Qc Ra=>CAt l Qc (fun y2=>Cnd (y2.1<=bucket) (Cnd (bucket<y2.2) (K y2.3) (InI (Qc+1)/\Ra (Qc+1))) (InI (Qc+1)/\Ra (Qc+1))) (K (0:Int))) (0:Int)
abbrev q3q:Type:=Envt->Subj->List (Frc)->ByteArray->(Asg->Int->Prop)->Prop
def q9q(Ql:Zl)(q2j:q1f)(Zf:Wx)(Wl:H1)(Ri:V7)(q6j:q1h)(q6k:q5u):q3q:=fun v s forced key K=>Jn1 (fun Qa=>Cnd (Qa<0) (K (Asg.mk (B8 []) (B8 []) (0:Int) (0:Int) false) (11:Int)) (At v.5 Qa fun y1=>Ql (Subj.mk s.1) y1.2 fun Qk Hj=>Jn1 (fun Qp=>q2j forced key fun Qj q94=>Jn1 (fun Zn=>Cnd (Zn=true) (Cnd (Qj.2=B8 []) (K (Asg.mk key (B8 []) Qp (0:Int) false) (0:Int)) (K (Asg.mk key Qj.2 Qp Qj.3 false) (0:Int))) (Jn1 (fun Jm=>Cnd (Jm=true) (K (Asg.mk key (B8 []) Qp (0:Int) true) (0:Int)) (Cnd (Hj=true) (Fits v.6->Lp3 (fun W2 z6d y5f y9v=>CAt v.6 W2 (fun y10=>Jn1 (fun Ub=>Jn1 (fun Q4=>Cnd (Q4=true) (Zf y10.4 Qk.2 fun Vu=>Wl y10.7 Vu fun w63=>K (Asg.mk key y10.1 Qp w63 false) (0:Int)) (InI (W2+1)/\y9v (W2+1) z6d y5f)) fun y0w=>Cnd (y10.2=key) (Cnd (y10.5=2) (Cnd (Ub=true) (Ri (Envt.mk (Sett.mk v.1.1 v.1.2 v.1.3) v.2 v.3 v.4 v.5 v.6) (Subj.mk s.1) y10.1 fun Vu=>y0w Vu) (y0w false)) (y0w false)) (y0w false)) fun v3j=>Fits y10.6->Lp1 (fun Vu v7t=>CAt y10.6 Vu (fun y15=>Cnd (y15.1<=Qp) (Cnd (Qp<y15.2) (v3j (decide ((0:Int)<=Vu))) (InI (Vu+1)/\v7t (Vu+1))) (InI (Vu+1)/\v7t (Vu+1))) (v3j (decide ((0:Int)<=(-1:Int))))) (0:Int)) (K (Asg.mk key z6d Qp y5f false) (0:Int))) (0:Int) (B8 []) (0:Int)) (K (Asg.mk key (B8 []) Qp (0:Int) false) (0:Int)))) fun v7x=>q6j (Envt.mk (Sett.mk v.1.1 v.1.2 v.1.3) v.2 v.3 v.4 v.5 v.6) (Subj.mk s.1) fun J3=>Cnd (J3=true) (v7x true) (Cnd (Hj=true) (v7x (decide (Qp<y1.4))) (v7x false)))) fun j5f=>Cnd (q94=true) (Cnd (Qj.2=B8 []) (j5f true) (q6k (Envt.mk (Sett.mk v.1.1 v.1.2 v.1.3) v.2 v.3 v.4 v.5 v.6) Qj fun Jm=>j5f Jm)) (j5f false)) fun v3k=>Cnd (Hj=true) (Zf y1.3 Qk.2 fun Qj=>v3k Qj) (v3k (-1:Int)))) fun q3w=>Fits v.5->Lp1 (fun Qh j01=>CAt v.5 Qh (fun y3=>Cnd (y3.1=key) (q3w Qh) (InI (Qh+1)/\j01 (Qh+1))) (q3w (-1:Int))) (0:Int)
def Gh:q3q:=q9q Wn q1g Ut q1i H0 q5w q5v
abbrev Vx:Type:=ByteArray->ByteArray->Int->List (Decl)->List (Seg)->List (Flg)->List (Lay_)->List (Exper)->List (Ctxt)->List (Frc)->List (ByteArray)->(ByteArray->Option (Dcs))->(ByteArray->Option (Bool))->Exper->(Int->(ByteArray->Option (Dcs))->(ByteArray->Option (Bool))->Prop)->Prop
def Rm(Ql:Zl)(Zf:Wx):Vx:=fun _ _ _ _ _ _ layers _ ctxs _ _ done opn x K=>Fits layers->Lp1 (fun Qc Ra=>CAt layers Qc (fun y2=>Cnd (y2.1=x.2) (Ql (Subj.mk ctxs) y2.2 fun Qp Ju=>Cnd (Ju=true) (Zf x.4 Qp.2 fun Qj=>K Qj done opn) (K (-1:Int) done opn)) (InI (Qc+1)/\Ra (Qc+1))) (K (-1:Int) done opn)) (0:Int)
def Jj:Vx:=Rm Wn Ut
abbrev q9r:Type:=Int->(ByteArray->Prop)->Prop
def q9s(i:Int)(K:ByteArray->Prop):Prop:=InI i/\K ⟨(Go.Lib.itoa i).toArray⟩
abbrev q1j:Type:=Int->(ByteArray->Prop)->Prop
def z91(q32:q9r):q1j:=fun n K=>q32 n fun Qa=>K Qa
def q5x:q1j:=z91 q9s
abbrev q4f:Type:=Val->(ByteArray->Bool->Prop)->Prop
def z4d(q6l:q1j):q4f:=fun v K=>Jn1 (fun Qa=>Cnd (Qa=true) (K v.3 true) (Cnd (v.1=2) (q6l v.2 fun Qc=>K Qc true) (Cnd (v.1=1) (Cnd (v.2=1) (K (B8 [116,114,117,101]) true) (K (B8 [102,97,108,115,101]) true)) (K (B8 []) false)))) fun q3w=>Cnd (v.1=3) (q3w (decide (v.1=3))) (q3w (decide (v.1=4)))
def q8y:q4f:=z4d q5x
abbrev U8:Type:=Subj->ByteArray->ByteArray->ByteArray->(Int->Bool->Prop)->Prop
def q4w(Z8:Wb)(q9g:q4f)(Zf:Wx):U8:=fun s kind by_ salt K=>Z8 (Subj.mk s.1) kind by_ fun Qa Qx=>Cnd (Qx=true) (q9g Qa fun Qc Z2=>Cnd (Z2=true) (Zf salt Qc fun Qh=>K Qh true) (K (0:Int) false)) (K (0:Int) false)
def Bb:U8:=q4w U6 q8y Ut
abbrev U9:Type:=Subj->Srv->(Int->Int->Bool->Prop)->Prop
def q4x(Bk:U8)(Wl:H1):U9:=fun s v K=>Cnd (v.1=0) (Bk (Subj.mk s.1) v.2 v.3 v.4 fun Qa Qx=>Cnd (Qx=true) (Wl v.5 Qa fun Qc=>K Qc Qa true) (K (0:Int) (-1:Int) false)) (K v.1 (-1:Int) true)
def Bc:U9:=q4x Bb q1i
abbrev Uu:Type:=ByteArray->ByteArray->Int->List (Decl)->List (Seg)->List (Flg)->List (Lay_)->List (Exper)->List (Ctxt)->List (Frc)->List (ByteArray)->(ByteArray->Option (Dcs))->(ByteArray->Option (Bool))->Flg->Srv->Rsn->(Int->Rsn->(ByteArray->Option (Dcs))->(ByteArray->Option (Bool))->Prop)->Prop
def Bv(Bl:U9):Uu:=fun _ _ _ _ _ _ _ _ ctxs _ _ done opn f v reason K=>Bl (Subj.mk ctxs) v fun Qa Qx z7f=>Cnd (z7f=true) (K Qa (Rsn.mk reason.1 reason.2 reason.3 Qx) done opn) (K f.5 (Rsn.mk (7:Int) reason.2 (B8 []) (-1:Int)) done opn)
def Jt:Uu:=Bv Bc
abbrev Za:Type:=ByteArray->ByteArray->Int->List (Decl)->List (Seg)->List (Flg)->List (Lay_)->List (Exper)->List (Ctxt)->List (Frc)->List (ByteArray)->(ByteArray->Option (Dcs))->(ByteArray->Option (Bool))->Flg->(Dcs->(ByteArray->Option (Dcs))->(ByteArray->Option (Bool))->Prop)->Prop
def Rn(Zx:Vb)(J7:Vf)(j3c:Hz)(j93:q3q)(z6v:Vx)(Zr:Jy)(q8g:Uu)(X:Za):Za:=fun salt hkind hold attrs segs flags layers expers ctxs fs inn done opn f K=>Jn1 (fun (Qa:ByteArray×Int×Int×Int×ByteArray×List ByteArray×Int×Int×ByteArray×Int×Int×(ByteArray->Option Dcs)×(ByteArray->Option Bool)×Unit)=>Zx (Val.mk Qa.2.2.1 Qa.2.2.2.1 Qa.2.2.2.2.1 Qa.2.2.2.2.2.1) fun Qc=>K (Dcs.mk Qa.1 Qa.2.1 Qc (Rsn.mk Qa.2.2.2.2.2.2.1 Qa.2.2.2.2.2.2.2.1 Qa.2.2.2.2.2.2.2.2.1 Qa.2.2.2.2.2.2.2.2.2.1) Qa.2.2.2.2.2.2.2.2.2.2.1) Qa.2.2.2.2.2.2.2.2.2.2.2.1 Qa.2.2.2.2.2.2.2.2.2.2.2.2.1) fun (q3w:ByteArray×Int×Int×Int×ByteArray×List ByteArray×Int×Int×ByteArray×Int×Int×(ByteArray->Option Dcs)×(ByteArray->Option Bool)×Unit->Prop)=>Cnd ((done f.1).isSome=true) (q3w (((done f.1).getD (Dcs.mk (B8 []) (0:Int) (Val.mk (0:Int) (0:Int) (B8 []) []) (Rsn.mk (0:Int) (0:Int) (B8 []) (0:Int)) (0:Int))).1,((done f.1).getD (Dcs.mk (B8 []) (0:Int) (Val.mk (0:Int) (0:Int) (B8 []) []) (Rsn.mk (0:Int) (0:Int) (B8 []) (0:Int)) (0:Int))).2,((done f.1).getD (Dcs.mk (B8 []) (0:Int) (Val.mk (0:Int) (0:Int) (B8 []) []) (Rsn.mk (0:Int) (0:Int) (B8 []) (0:Int)) (0:Int))).3.1,((done f.1).getD (Dcs.mk (B8 []) (0:Int) (Val.mk (0:Int) (0:Int) (B8 []) []) (Rsn.mk (0:Int) (0:Int) (B8 []) (0:Int)) (0:Int))).3.2,((done f.1).getD (Dcs.mk (B8 []) (0:Int) (Val.mk (0:Int) (0:Int) (B8 []) []) (Rsn.mk (0:Int) (0:Int) (B8 []) (0:Int)) (0:Int))).3.3,((done f.1).getD (Dcs.mk (B8 []) (0:Int) (Val.mk (0:Int) (0:Int) (B8 []) []) (Rsn.mk (0:Int) (0:Int) (B8 []) (0:Int)) (0:Int))).3.4,((done f.1).getD (Dcs.mk (B8 []) (0:Int) (Val.mk (0:Int) (0:Int) (B8 []) []) (Rsn.mk (0:Int) (0:Int) (B8 []) (0:Int)) (0:Int))).4.1,((done f.1).getD (Dcs.mk (B8 []) (0:Int) (Val.mk (0:Int) (0:Int) (B8 []) []) (Rsn.mk (0:Int) (0:Int) (B8 []) (0:Int)) (0:Int))).4.2,((done f.1).getD (Dcs.mk (B8 []) (0:Int) (Val.mk (0:Int) (0:Int) (B8 []) []) (Rsn.mk (0:Int) (0:Int) (B8 []) (0:Int)) (0:Int))).4.3,((done f.1).getD (Dcs.mk (B8 []) (0:Int) (Val.mk (0:Int) (0:Int) (B8 []) []) (Rsn.mk (0:Int) (0:Int) (B8 []) (0:Int)) (0:Int))).4.4,((done f.1).getD (Dcs.mk (B8 []) (0:Int) (Val.mk (0:Int) (0:Int) (B8 []) []) (Rsn.mk (0:Int) (0:Int) (B8 []) (0:Int)) (0:Int))).5,done,opn,())) (Cnd (f.4=true) (Fits f.6->LpH (fun (Qh:Int×Int×Int×ByteArray×Int×(ByteArray->Option Bool)×(ByteArray->Option Dcs)×Unit) (j01:Int×Int×Int×ByteArray×Int×(ByteArray->Option Bool)×(ByteArray->Option Dcs)×Unit->Prop)=>CAt f.6 Qh.1 (fun y3=>J7 salt hkind hold attrs segs flags layers expers ctxs fs inn Qh.2.2.2.2.2.2.1 Qh.2.2.2.2.2.1 y3.1 fun Qj q94 v3o y5h=>Cnd (q94=true) (Cnd (Qj.4=true) (Cnd ((y5h Qj.1).getD false=true) (Jn4 (fun Zn q93 w03 w38=>q3w (f.1,f.5,Zn,q93,w03,w38,(2:Int),(0:Int),y3.1,(-1:Int),(0:Int),put v3o f.1 (Dcs.mk f.1 f.5 (Val.mk Zn q93 w03 w38) (Rsn.mk (2:Int) (0:Int) y3.1 (-1:Int)) (0:Int)),dlt y5h f.1,())) fun j5f=>Cnd ((1:Int)<=f.5) (Fits f.3->Cnd (f.5<=(↑f.3.length:Int)) (InI (f.5 - 1)/\((0:Int)<=f.5 - 1/\f.5 - 1<(↑f.3.length:Int))/\ ∀y8,f.3[(f.5 - 1).toNat]? =some y8->j5f y8.1 y8.2 y8.3 y8.4) (j5f (0:Int) (0:Int) (B8 []) [])) (j5f (0:Int) (0:Int) (B8 []) [])) (X salt hkind hold attrs segs flags layers expers ctxs fs inn v3o y5h (Flg.mk Qj.1 Qj.2 Qj.3 Qj.4 Qj.5 Qj.6 Qj.7 Qj.8 (Srv.mk Qj.9.1 Qj.9.2 Qj.9.3 Qj.9.4 Qj.9.5)) fun Zn v3n v7z=>Cnd (Zn.2=y3.2) (InI (Qh.1+1)/\j01 (Qh.1+1,Qh.2.1,Qh.2.2.1,Qh.2.2.2.1,Qh.2.2.2.2.1,v7z,v3n,())) (Jn4 (fun Jm z81 u0n y0t=>q3w (f.1,f.5,Jm,z81,u0n,y0t,(2:Int),(0:Int),y3.1,(-1:Int),(0:Int),put v3n f.1 (Dcs.mk f.1 f.5 (Val.mk Jm z81 u0n y0t) (Rsn.mk (2:Int) (0:Int) y3.1 (-1:Int)) (0:Int)),dlt v7z f.1,())) fun v7x=>Cnd ((1:Int)<=f.5) (Fits f.3->Cnd (f.5<=(↑f.3.length:Int)) (InI (f.5 - 1)/\((0:Int)<=f.5 - 1/\f.5 - 1<(↑f.3.length:Int))/\ ∀y9,f.3[(f.5 - 1).toNat]? =some y9->v7x y9.1 y9.2 y9.3 y9.4) (v7x (0:Int) (0:Int) (B8 []) [])) (v7x (0:Int) (0:Int) (B8 []) [])))) (Jn4 (fun Zn q93 w03 w38=>q3w (f.1,f.5,Zn,q93,w03,w38,(2:Int),(0:Int),y3.1,(-1:Int),(0:Int),put v3o f.1 (Dcs.mk f.1 f.5 (Val.mk Zn q93 w03 w38) (Rsn.mk (2:Int) (0:Int) y3.1 (-1:Int)) (0:Int)),dlt y5h f.1,())) fun j5f=>Cnd ((1:Int)<=f.5) (Fits f.3->Cnd (f.5<=(↑f.3.length:Int)) (InI (f.5 - 1)/\((0:Int)<=f.5 - 1/\f.5 - 1<(↑f.3.length:Int))/\ ∀y8,f.3[(f.5 - 1).toNat]? =some y8->j5f y8.1 y8.2 y8.3 y8.4) (j5f (0:Int) (0:Int) (B8 []) [])) (j5f (0:Int) (0:Int) (B8 []) []))) (Jn4 (fun Zn q93 w03 w38=>q3w (f.1,f.5,Zn,q93,w03,w38,(2:Int),(0:Int),y3.1,(-1:Int),(0:Int),put v3o f.1 (Dcs.mk f.1 f.5 (Val.mk Zn q93 w03 w38) (Rsn.mk (2:Int) (0:Int) y3.1 (-1:Int)) (0:Int)),dlt y5h f.1,())) fun j5f=>Cnd ((1:Int)<=f.5) (Fits f.3->Cnd (f.5<=(↑f.3.length:Int)) (InI (f.5 - 1)/\((0:Int)<=f.5 - 1/\f.5 - 1<(↑f.3.length:Int))/\ ∀y8,f.3[(f.5 - 1).toNat]? =some y8->j5f y8.1 y8.2 y8.3 y8.4) (j5f (0:Int) (0:Int) (B8 []) [])) (j5f (0:Int) (0:Int) (B8 []) []))) (j3c (Flg.mk f.1 f.2 f.3 f.4 f.5 f.6 f.7 f.8 (Srv.mk f.9.1 f.9.2 f.9.3 f.9.4 f.9.5)) (Subj.mk ctxs) fun Qk=>Cnd ((0:Int)<Qk) (InI (Qk - 1)/\((0:Int)<=Qk - 1/\Qk - 1<(↑f.7.length:Int))/\ ∀y4,f.7[(Qk - 1).toNat]? =some y4->Jn4 (fun Zn q93 w03 w38=>q3w (f.1,y4.2,Zn,q93,w03,w38,(3:Int),Qk,B8 [],(-1:Int),(0:Int),put Qh.2.2.2.2.2.2.1 f.1 (Dcs.mk f.1 y4.2 (Val.mk Zn q93 w03 w38) (Rsn.mk (3:Int) Qk (B8 []) (-1:Int)) (0:Int)),dlt Qh.2.2.2.2.2.1 f.1,())) fun j5f=>Cnd ((1:Int)<=y4.2) (Fits f.3->Cnd (y4.2<=(↑f.3.length:Int)) (InI (y4.2 - 1)/\((0:Int)<=y4.2 - 1/\y4.2 - 1<(↑f.3.length:Int))/\ ∀y8,f.3[(y4.2 - 1).toNat]? =some y8->j5f y8.1 y8.2 y8.3 y8.4) (j5f (0:Int) (0:Int) (B8 []) [])) (j5f (0:Int) (0:Int) (B8 []) [])) (Fits expers->LpH (fun (Qj:Int×Int×Int×ByteArray×Int×(ByteArray->Option Dcs)×(ByteArray->Option Bool)×Unit) (j8y:Int×Int×Int×ByteArray×Int×(ByteArray->Option Dcs)×(ByteArray->Option Bool)×Unit->Prop)=>CAt expers Qj.1 (fun y6=>Cnd (y6.3=f.1) (Cnd (y6.5=2) (j93 (Envt.mk (Sett.mk salt hkind hold) attrs segs flags layers expers) (Subj.mk ctxs) fs y6.2 fun J3 w68=>Cnd (w68=0) (Cnd (J3.2=y6.1) (z6v salt hkind hold attrs segs flags layers expers ctxs fs inn Qj.2.2.2.2.2.1 Qj.2.2.2.2.2.2.1 (Exper.mk y6.1 y6.2 y6.3 y6.4 y6.5 y6.6 y6.7 (Ex.mk y6.8.1 y6.8.2 y6.8.3 y6.8.4 y6.8.5)) fun W2 y5j y5i=>Jn4 (fun Ua R0 w9o y8e=>q3w (f.1,J3.4,Ua,R0,w9o,y8e,(4:Int),(0:Int),y6.1,W2,(0:Int),put y5j f.1 (Dcs.mk f.1 J3.4 (Val.mk Ua R0 w9o y8e) (Rsn.mk (4:Int) (0:Int) y6.1 W2) (0:Int)),dlt y5i f.1,())) fun y5x=>Cnd ((1:Int)<=J3.4) (Fits f.3->Cnd (J3.4<=(↑f.3.length:Int)) (InI (J3.4 - 1)/\((0:Int)<=J3.4 - 1/\J3.4 - 1<(↑f.3.length:Int))/\ ∀y12,f.3[(J3.4 - 1).toNat]? =some y12->y5x y12.1 y12.2 y12.3 y12.4) (y5x (0:Int) (0:Int) (B8 []) [])) (y5x (0:Int) (0:Int) (B8 []) [])) (InI (Qj.1+1)/\j8y (Qj.1+1,Qj.2.1,Qj.2.2.1,Qj.2.2.2.1,Qj.2.2.2.2.1,Qj.2.2.2.2.2.1,Qj.2.2.2.2.2.2.1,()))) (InI (Qj.1+1)/\j8y (Qj.1+1,Qj.2.1,Qj.2.2.1,Qj.2.2.2.1,Qj.2.2.2.2.1,Qj.2.2.2.2.2.1,Qj.2.2.2.2.2.2.1,()))) (InI (Qj.1+1)/\j8y (Qj.1+1,Qj.2.1,Qj.2.2.1,Qj.2.2.2.1,Qj.2.2.2.2.1,Qj.2.2.2.2.2.1,Qj.2.2.2.2.2.2.1,()))) (InI (Qj.1+1)/\j8y (Qj.1+1,Qj.2.1,Qj.2.2.1,Qj.2.2.2.1,Qj.2.2.2.2.1,Qj.2.2.2.2.2.1,Qj.2.2.2.2.2.2.1,()))) (Fits f.8->LpH (fun (Jm:Int×Int×Int×ByteArray×Int×(ByteArray->Option Bool)×(ByteArray->Option Dcs)×Unit) (y5k:Int×Int×Int×ByteArray×Int×(ByteArray->Option Bool)×(ByteArray->Option Dcs)×Unit->Prop)=>CAt f.8 Jm.1 (fun y8=>Zr (Subj.mk ctxs) inn (Ex.mk y8.2.1 y8.2.2 y8.2.3 y8.2.4 y8.2.5) fun Ua=>Cnd (Ua=true) (InI (Jm.1+1)/\q8g salt hkind hold attrs segs flags layers expers ctxs fs inn Jm.2.2.2.2.2.2.1 Jm.2.2.2.2.2.1 (Flg.mk f.1 f.2 f.3 f.4 f.5 f.6 f.7 f.8 (Srv.mk f.9.1 f.9.2 f.9.3 f.9.4 f.9.5)) (Srv.mk y8.3.1 y8.3.2 y8.3.3 y8.3.4 y8.3.5) (Rsn.mk (5:Int) (Jm.1+1) y8.1 (0:Int)) fun Vv z49 u0h u0i=>Jn4 (fun Ub v3l y8f y8g=>q3w (f.1,Vv,Ub,v3l,y8f,y8g,z49.1,z49.2,z49.3,z49.4,(0:Int),put u0h f.1 (Dcs.mk f.1 Vv (Val.mk Ub v3l y8f y8g) z49 (0:Int)),dlt u0i f.1,())) fun v3j=>Cnd ((1:Int)<=Vv) (Fits f.3->Cnd (Vv<=(↑f.3.length:Int)) (InI (Vv - 1)/\((0:Int)<=Vv - 1/\Vv - 1<(↑f.3.length:Int))/\ ∀y14,f.3[(Vv - 1).toNat]? =some y14->v3j y14.1 y14.2 y14.3 y14.4) (v3j (0:Int) (0:Int) (B8 []) [])) (v3j (0:Int) (0:Int) (B8 []) [])) (InI (Jm.1+1)/\y5k (Jm.1+1,Jm.2.1,Jm.2.2.1,Jm.2.2.2.1,Jm.2.2.2.2.1,Jm.2.2.2.2.2.1,Jm.2.2.2.2.2.2.1,()))) (q8g salt hkind hold attrs segs flags layers expers ctxs fs inn Jm.2.2.2.2.2.2.1 Jm.2.2.2.2.2.1 (Flg.mk f.1 f.2 f.3 f.4 f.5 f.6 f.7 f.8 (Srv.mk f.9.1 f.9.2 f.9.3 f.9.4 f.9.5)) (Srv.mk f.9.1 f.9.2 f.9.3 f.9.4 f.9.5) (Rsn.mk (6:Int) (0:Int) (B8 []) (0:Int)) fun J3 w68 y8m y9z=>Jn4 (fun W2 z6d y5f y1x=>q3w (f.1,J3,W2,z6d,y5f,y1x,w68.1,w68.2,w68.3,w68.4,(0:Int),put y8m f.1 (Dcs.mk f.1 J3 (Val.mk W2 z6d y5f y1x) w68 (0:Int)),dlt y9z f.1,())) fun y0s=>Cnd ((1:Int)<=J3) (Fits f.3->Cnd (J3<=(↑f.3.length:Int)) (InI (J3 - 1)/\((0:Int)<=J3 - 1/\J3 - 1<(↑f.3.length:Int))/\ ∀y11,f.3[(J3 - 1).toNat]? =some y11->y0s y11.1 y11.2 y11.3 y11.4) (y0s (0:Int) (0:Int) (B8 []) [])) (y0s (0:Int) (0:Int) (B8 []) []))) ((0:Int),Qj.2.1,Qj.2.2.1,Qj.2.2.2.1,Qj.2.2.2.2.1,Qj.2.2.2.2.2.2.1,Qj.2.2.2.2.2.1,()))) ((0:Int),Qh.2.1,Qh.2.2.1,Qh.2.2.2.1,Qh.2.2.2.2.1,Qh.2.2.2.2.2.2.1,Qh.2.2.2.2.2.1,())))) ((0:Int),(0:Int),(0:Int),B8 [],(0:Int),put opn f.1 true,done,())) (Jn4 (fun Qc Z2 z6c j1b=>q3w (f.1,f.5,Qc,Z2,z6c,j1b,(1:Int),(0:Int),B8 [],(-1:Int),(0:Int),put done f.1 (Dcs.mk f.1 f.5 (Val.mk Qc Z2 z6c j1b) (Rsn.mk (1:Int) (0:Int) (B8 []) (-1:Int)) (0:Int)),dlt (put opn f.1 true) f.1,())) fun j5g=>Cnd ((1:Int)<=f.5) (Fits f.3->Cnd (f.5<=(↑f.3.length:Int)) (InI (f.5 - 1)/\((0:Int)<=f.5 - 1/\f.5 - 1<(↑f.3.length:Int))/\ ∀y3,f.3[(f.5 - 1).toNat]? =some y3->j5g y3.1 y3.2 y3.3 y3.4) (j5g (0:Int) (0:Int) (B8 []) [])) (j5g (0:Int) (0:Int) (B8 []) [])))
def We:Za:=fun salt hkind hold attrs segs flags layers expers ctxs fs inn done opn f K=> ∀X:Za,(∀salt hkind hold attrs segs flags layers expers ctxs fs inn done opn f K,Rn Jd Jg Wr Gh Jj Vd Jt X salt hkind hold attrs segs flags layers expers ctxs fs inn done opn f K->X salt hkind hold attrs segs flags layers expers ctxs fs inn done opn f K)->X salt hkind hold attrs segs flags layers expers ctxs fs inn done opn f K
abbrev Hg:Type:=Envt->Subj->List (Frc)->ByteArray->(Dcs->Int->Prop)->Prop
def q7o(Z9:Wc)(J7:Vf)(Zc:Za):Hg:=fun v s forced key K=>Z9 (Envt.mk (Sett.mk v.1.1 v.1.2 v.1.3) v.2 v.3 v.4 v.5 v.6) (Subj.mk s.1) forced fun Qa Qx z7f q45 j5h y8n y8o y8p y8q y8r y0x y5y y5z=>J7 Qa Qx z7f q45 j5h y8n y8o y8p y8q y8r y0x y5y y5z key fun Qc Z2 z6u v7q=>Cnd (Z2=true) (Zc Qa Qx z7f q45 j5h y8n y8o y8p y8q y8r y0x z6u v7q (Flg.mk Qc.1 Qc.2 Qc.3 Qc.4 Qc.5 Qc.6 Qc.7 Qc.8 (Srv.mk Qc.9.1 Qc.9.2 Qc.9.3 Qc.9.4 Qc.9.5)) fun Qh _ _=>K (Dcs.mk Qh.1 Qh.2 (Val.mk Qh.3.1 Qh.3.2 Qh.3.3 Qh.3.4) (Rsn.mk Qh.4.1 Qh.4.2 Qh.4.3 Qh.4.4) Qh.5) (0:Int)) (K (Dcs.mk (B8 []) (0:Int) (Val.mk (0:Int) (0:Int) (B8 []) []) (Rsn.mk (0:Int) (0:Int) (B8 []) (0:Int)) (0:Int)) (11:Int))
def q1k:Hg:=q7o U7 Jg We
abbrev q1l:Type:=(Bool->Prop)->Prop
def z11(q2k:Hg):q1l:=fun K=>q2k (Envt.mk (Sett.mk (B8 []) (B8 []) (0:Int)) [] [] [Flg.mk (B8 [102]) (1:Int) [Val.mk (1:Int) (0:Int) (B8 []) [],Val.mk (1:Int) (1:Int) (B8 []) []] true (1:Int) [] [] [] (Srv.mk (2:Int) (B8 []) (B8 []) (B8 []) [])] [] []) (Subj.mk []) [] (B8 [102]) fun Qa Qx=>Cnd (Qx=0) (Cnd (Qa.1=B8 [102]) (Cnd (Qa.2=2) (Cnd (Qa.3.2=1) (K (decide (Qa.4.1=6/\Qa.4.2=0/\Qa.4.3=B8 []/\Qa.4.4=(-1:Int)))) (K false)) (K false)) (K false)) (K false)
def q5y:q1l:=z11 q1k
abbrev w1t:Type:=List (Int)->Int->(List (Int)->Int->Prop)->Prop
def w1u:w1t:=fun list_ most K=>Jn1 (fun Qa=>K Qa (0:Int)) fun q3w=>Fits list_->Cnd (most<(↑list_.length:Int)) (((0:Int)<=(0:Int)/\(0:Int)<=most/\most<=(↑list_.length:Int))/\q3w (List.drop (Int.toNat (0:Int)) (List.take most.toNat list_))) (q3w list_)
abbrev q7p:Type:=List (Int)->Int->ByteArray->(Ctxt->Int->Prop)->Prop
def z71(z2s:z7m)(Qz:Wm)(Qb:Zg)(Z6:q0h):q7p:=fun list at_ kind K=>z2s list at_ fun Qa Qx=>Qz fun Qc=>Lp3 (fun Qh Zi w4b y5g=>Fits Qc->CAt Qc Qh (fun y4=>Cnd (y4.1=kind) (Qb list w4b (4:Int) fun Zn q93=>Cnd ((0:Int)<Zn) (At Qc Qh fun y7=>At Qc Qh fun y9=>Z6 list q93 y9.3 fun Vv z49=>Sml (Zi++[Attr.mk y7.2 Vv]).length/\InI (Qh+1)/\y5g (Qh+1) (Zi++[Attr.mk y7.2 Vv]) z49) (InI (Qh+1)/\y5g (Qh+1) Zi q93)) (InI (Qh+1)/\y5g (Qh+1) Zi w4b)) (K (Ctxt.mk kind Qa Zi) w4b)) (0:Int) [] Qx
def q7q:q7p:=z71 j6g Ud Jv Rv
abbrev q7r:Type:=List (Int)->Int->(Subj->Int->Prop)->Prop
def z72(Qb:Zg)(B6:q7p):q7r:=fun list at_ K=>Qb list at_ (6:Int) fun Qa Qx=>Jn2 (fun Qc Z2=>Cnd (Qa=1) (K (Subj.mk Z2) Qc) (Cnd (Qa=5) (K (Subj.mk Z2) Qc) (B6 list Qc (B8 [117,115,101,114]) fun Qh Zi=>Sml (Z2++[Qh]).length/\K (Subj.mk (Z2++[Qh])) Zi))) fun j5g=>Cnd (Qa=1) (B6 list Qx (B8 [100,101,118,105,99,101]) fun Qh Zi=>Sml ([]++[Qh]).length/\j5g Zi ([]++[Qh])) (Cnd (Qa=2) (B6 list Qx (B8 [100,101,118,105,99,101]) fun Qh Zi=>Sml ([]++[Qh]).length/\j5g Zi ([]++[Qh])) (Cnd (Qa=4) (B6 list Qx (B8 [100,101,118,105,99,101]) fun Qh Zi=>Sml ([]++[Qh]).length/\j5g Zi ([]++[Qh])) (j5g Qx [])))
def z13:q7r:=z72 Jv q7q
abbrev w0o:Type:=List (List Int)->(List (Int)->Prop)->Prop
def j16:w0o:=fun fields K=>Lp2 (fun Qa Qx q2p=>Fits fields->CAt fields Qx (fun y2=>Fits y2->Lp2 (fun Qj q94 v3o=>Cnd ((0:Int)<=q94) ((0:Int)<=Go.IntKind.u64.wrap q94/\Sml (Qj++[Go.IntKind.u8.wrap ((Go.IntKind.u64.wrap (↑y2.length:Int)).fdiv ((2:Int) ^ Min.min (Go.IntKind.u64.wrap q94).toNat (64:Nat)))]).length/\InI (q94 - 8)/\v3o (Qj++[Go.IntKind.u8.wrap ((Go.IntKind.u64.wrap (↑y2.length:Int)).fdiv ((2:Int) ^ Min.min (Go.IntKind.u64.wrap q94).toNat (64:Nat)))]) (q94 - 8)) (At fields Qx fun y6=>Sml (Qj++y6).length/\InI (Qx+1)/\q2p (Qj++y6) (Qx+1))) Qa (56:Int)) (K Qa)) [] (0:Int)
abbrev j6r:Type:=Int->Int->(Int->Prop)->Prop
def z73:j6r:=fun x n K=>(0:Int)<=n/\(0:Int)<=Go.IntKind.u64.wrap ((64:Int) - n)/\K (Go.IntKind.u64.wrap (↑(BitVec.ofInt (64:Nat) (Go.IntKind.u64.wrap (x*2 ^ Min.min n.toNat (64:Nat)))|||BitVec.ofInt (64:Nat) (x.fdiv ((2:Int) ^ Min.min (Go.IntKind.u64.wrap ((64:Int) - n)).toNat (64:Nat)))).toNat:Int))
abbrev q4y:Type:=Sip->Int->(Sip->Prop)->Prop
def z3b(q3h:j6r):q4y:=fun v n K=>Lp5 (fun Qa Qx z7f q45 j5h y53=>Cnd (Qa<n) (q3h z7f (13:Int) fun Qc=>q3h (Go.IntKind.u64.wrap (Qx+z7f)) (32:Int) fun Qh=>q3h j5h (16:Int) fun Qk=>q3h (Go.IntKind.u64.wrap (↑(BitVec.ofInt (64:Nat) Qk ^^^ BitVec.ofInt (64:Nat) (Go.IntKind.u64.wrap (q45+j5h))).toNat:Int)) (21:Int) fun Qp=>q3h (Go.IntKind.u64.wrap (↑(BitVec.ofInt (64:Nat) Qc ^^^ BitVec.ofInt (64:Nat) (Go.IntKind.u64.wrap (Qx+z7f))).toNat:Int)) (17:Int) fun Qj=>q3h (Go.IntKind.u64.wrap (Go.IntKind.u64.wrap (q45+j5h)+Go.IntKind.u64.wrap (↑(BitVec.ofInt (64:Nat) Qc ^^^ BitVec.ofInt (64:Nat) (Go.IntKind.u64.wrap (Qx+z7f))).toNat:Int))) (32:Int) fun Zn=>InI (Qa+1)/\y53 (Qa+1) (Go.IntKind.u64.wrap (Qh+Go.IntKind.u64.wrap (↑(BitVec.ofInt (64:Nat) Qk ^^^ BitVec.ofInt (64:Nat) (Go.IntKind.u64.wrap (q45+j5h))).toNat:Int))) (Go.IntKind.u64.wrap (↑(BitVec.ofInt (64:Nat) Qj ^^^ BitVec.ofInt (64:Nat) (Go.IntKind.u64.wrap (Go.IntKind.u64.wrap (q45+j5h)+Go.IntKind.u64.wrap (↑(BitVec.ofInt (64:Nat) Qc ^^^ BitVec.ofInt (64:Nat) (Go.IntKind.u64.wrap (Qx+z7f))).toNat:Int)))).toNat:Int)) Zn (Go.IntKind.u64.wrap (↑(BitVec.ofInt (64:Nat) Qp ^^^ BitVec.ofInt (64:Nat) (Go.IntKind.u64.wrap (Qh+Go.IntKind.u64.wrap (↑(BitVec.ofInt (64:Nat) Qk ^^^ BitVec.ofInt (64:Nat) (Go.IntKind.u64.wrap (q45+j5h))).toNat:Int)))).toNat:Int))) (K (Sip.mk Qx z7f q45 j5h))) (0:Int) v.1 v.2 v.3 v.4
def Jk:q4y:=z3b z73
abbrev w1v:Type:=Int->Int->List (Int)->(Int->Prop)->Prop
def v0k(q49:q4y):w1v:=fun k0 k1 b K=>Lp5 (fun Qa Qx z7f q45 j5h y53=>Fits b->(8:Int)≠(0:Int)/\InI ((↑b.length:Int).tdiv (8:Int))/\Cnd (Qa<=(↑b.length:Int).tdiv (8:Int)) (Lp2 (fun Qh Zi q5d=>Cnd (Zi<8) (InI ((8:Int)*Qa)/\InI ((8:Int)*Qa+Zi)/\(Fits b->Cnd ((8:Int)*Qa+Zi<(↑b.length:Int)) (InI ((8:Int)*Qa)/\InI ((8:Int)*Qa+Zi)/\((0:Int)<=(8:Int)*Qa+Zi/\(8:Int)*Qa+Zi<(↑b.length:Int))/\ ∀y4,b[((8:Int)*Qa+Zi).toNat]? =some y4->InI ((8:Int)*Zi)/\(0:Int)<=Go.IntKind.u64.wrap ((8:Int)*Zi)/\InI (Zi+1)/\q5d (Go.IntKind.u64.wrap (↑(BitVec.ofInt (64:Nat) Qh|||BitVec.ofInt (64:Nat) (Go.IntKind.u64.wrap (Go.IntKind.u64.wrap y4*2 ^ Min.min (Go.IntKind.u64.wrap ((8:Int)*Zi)).toNat (64:Nat)))).toNat:Int)) (Zi+1)) (Jn1 (fun Qp=>q49 (Sip.mk Qx z7f q45 (Go.IntKind.u64.wrap (↑(BitVec.ofInt (64:Nat) j5h ^^^ BitVec.ofInt (64:Nat) Qp).toNat:Int))) (2:Int) fun Qj=>InI (Qa+1)/\y53 (Qa+1) (Go.IntKind.u64.wrap (↑(BitVec.ofInt (64:Nat) Qj.1 ^^^ BitVec.ofInt (64:Nat) Qp).toNat:Int)) Qj.2 Qj.3 Qj.4) fun v3k=>Fits b->(8:Int)≠(0:Int)/\InI ((↑b.length:Int).tdiv (8:Int))/\Cnd (Qa=(↑b.length:Int).tdiv (8:Int)) (Fits b->(256:Int)≠(0:Int)/\(0:Int)<=(56:Int)/\v3k (Go.IntKind.u64.wrap (↑(BitVec.ofInt (64:Nat) Qh|||BitVec.ofInt (64:Nat) (Go.IntKind.u64.wrap (Go.IntKind.u64.wrap ((↑b.length:Int).tmod (256:Int))*(2:Int) ^ Min.min (Int.toNat (56:Int)) (64:Nat)))).toNat:Int))) (v3k Qh)))) (Jn1 (fun Qk=>q49 (Sip.mk Qx z7f q45 (Go.IntKind.u64.wrap (↑(BitVec.ofInt (64:Nat) j5h ^^^ BitVec.ofInt (64:Nat) Qk).toNat:Int))) (2:Int) fun Qp=>InI (Qa+1)/\y53 (Qa+1) (Go.IntKind.u64.wrap (↑(BitVec.ofInt (64:Nat) Qp.1 ^^^ BitVec.ofInt (64:Nat) Qk).toNat:Int)) Qp.2 Qp.3 Qp.4) fun v7r=>Fits b->(8:Int)≠(0:Int)/\InI ((↑b.length:Int).tdiv (8:Int))/\Cnd (Qa=(↑b.length:Int).tdiv (8:Int)) (Fits b->(256:Int)≠(0:Int)/\(0:Int)<=(56:Int)/\v7r (Go.IntKind.u64.wrap (↑(BitVec.ofInt (64:Nat) Qh|||BitVec.ofInt (64:Nat) (Go.IntKind.u64.wrap (Go.IntKind.u64.wrap ((↑b.length:Int).tmod (256:Int))*(2:Int) ^ Min.min (Int.toNat (56:Int)) (64:Nat)))).toNat:Int))) (v7r Qh))) (0:Int) (0:Int)) (q49 (Sip.mk Qx z7f (Go.IntKind.u64.wrap (↑(BitVec.ofInt (64:Nat) q45 ^^^ BitVec.ofInt (64:Nat) (255:Int)).toNat:Int)) j5h) (4:Int) fun Qh=>K (Go.IntKind.u64.wrap (↑(BitVec.ofInt (64:Nat) (Go.IntKind.u64.wrap (↑(BitVec.ofInt (64:Nat) (Go.IntKind.u64.wrap (↑(BitVec.ofInt (64:Nat) Qh.1 ^^^ BitVec.ofInt (64:Nat) Qh.2).toNat:Int)) ^^^ BitVec.ofInt (64:Nat) Qh.3).toNat:Int)) ^^^ BitVec.ofInt (64:Nat) Qh.4).toNat:Int)))) (0:Int) (Go.IntKind.u64.wrap (↑(BitVec.ofInt (64:Nat) k0 ^^^ BitVec.ofInt (64:Nat) (8317987319222330741:Int)).toNat:Int)) (Go.IntKind.u64.wrap (↑(BitVec.ofInt (64:Nat) k1 ^^^ BitVec.ofInt (64:Nat) (7237128888997146477:Int)).toNat:Int)) (Go.IntKind.u64.wrap (↑(BitVec.ofInt (64:Nat) k0 ^^^ BitVec.ofInt (64:Nat) (7816392313619706465:Int)).toNat:Int)) (Go.IntKind.u64.wrap (↑(BitVec.ofInt (64:Nat) k1 ^^^ BitVec.ofInt (64:Nat) (8387220255154660723:Int)).toNat:Int))
def w1w:w1v:=v0k Jk
abbrev j6s:Type:=Int->List (List Int)->(Int->Prop)->Prop
def w5g(v3m:w0o)(y0y:w1v):j6s:=fun domain fields K=>v3m fields fun Qa=>y0y domain (0:Int) Qa fun Qc=>K Qc
def j6t:j6s:=w5g j16 w1w
abbrev v0l:Type:=ByteArray->ByteArray->(Int->Prop)->Prop
def v0m(v7w:j6s):v0l:=fun salt key K=>Sml salt.size/\Sml key.size/\v7w (1:Int) [List.map (fun b=>(↑b.toNat:Int)) (salt,key,()).1.data.toList,List.map (fun b=>(↑b.toNat:Int)) (salt,key,()).2.1.data.toList] fun Qa=>(10000:Int)≠(0:Int)/\InI (Qa.tmod (10000:Int))/\K (Qa.tmod (10000:Int))
def w1x:v0l:=v0m j6t
abbrev z0s:Type:=List (Int)->Int->Envt->(List (Frc)->Int->Prop)->Prop
def j17(Qb:Zg):z0s:=fun list at_ v K=>Lp3 (fun Qa Qx z7f u02=>Qb list z7f (3:Int) fun Qc Z2=>Cnd (Qx<Qc) (Qb list Z2 (4:Int) fun Qh Zi=>InI ((1:Int)+Qh)/\Jn2 (fun Qk Hj=>Jn4 (fun Qp Ju j03 v70=>Sml (Qa++[Frc.mk Qp Ju j03]).length/\InI (Qx+1)/\u02 (Qa++[Frc.mk Qp Ju j03]) (Qx+1) v70) fun v3k=>Qb list Hj (4:Int) fun Qj q94=>Fits v.6->CAt v.6 Qj (fun y7=>Jn2 (fun W2 z6d=>At v.6 Qj fun y10=>Qb list z6d (4:Int) fun Ub v3l=>Cnd ((0:Int)<Ub) (Fits y10.7->Cnd ((0:Int)<(↑y10.7.length:Int)) (Fits y10.7->Qb list v3l (↑y10.7.length:Int) fun w63 u0j=>At y10.7 w63 fun y16=>v3k W2 y7.1 y16.3 u0j) (v3k W2 y7.1 ((1:Int)+Qh) v3l)) (v3k W2 y7.1 ((1:Int)+Qh) v3l)) fun y0s=>Qb list q94 (4:Int) fun Ua R0=>Cnd ((0:Int)<Ua) (At v.6 Qj fun y11=>y0s y11.2 R0) (y0s Qk R0)) (v3k Qk (B8 []) ((1:Int)+Qh) q94)) fun v7r=>Qb list Zi (3:Int) fun Qp Ju=>Cnd (Qp=1) (v7r (B8 [108,98]) Ju) (v7r (B8 [108,97]) Ju)) (K Qa Z2)) [] (0:Int) at_
def z52:z0s:=j17 Jv
abbrev q1m:Type:=List (Int)->List (Int)->(Envt->Subj->List (Frc)->Prop)->Prop
def z14(j8w:w1t)(q2l:G9)(z23:q7r)(z6n:z0s):q1m:=fun codes who K=>j8w codes (400:Int) fun Qa Qx=>q2l Qa Qx (10:Int) fun Qc _=>j8w who (80:Int) fun Qh Zi=>z23 Qh Zi fun Qk Hj=>z6n Qh Hj (Envt.mk (Sett.mk Qc.1.1 Qc.1.2 Qc.1.3) Qc.2 Qc.3 Qc.4 Qc.5 Qc.6) fun Qp _=>K (Envt.mk (Sett.mk Qc.1.1 Qc.1.2 Qc.1.3) Qc.2 Qc.3 Qc.4 Qc.5 Qc.6) (Subj.mk Qk.1) Qp
def q1n:q1m:=z14 w1u q01 z13 z52
abbrev Ry:Type:=Envt->Subj->List (Frc)->(List (Dcs)->Prop)->Prop
def q9t(Z9:Wc)(Zc:Za):Ry:=fun v s forced K=>Z9 (Envt.mk (Sett.mk v.1.1 v.1.2 v.1.3) v.2 v.3 v.4 v.5 v.6) (Subj.mk s.1) forced fun Qa Qx z7f q45 j5h y8n y8o y8p y8q y8r y0x y5y y5z=>Fits v.4->Lp4 (fun Qh Zi q5d y5g u03=>CAt v.4 Zi (fun y3=>Zc Qa Qx z7f q45 j5h y8n y8o y8p y8q y8r y0x q5d y5g (Flg.mk y3.1 y3.2 y3.3 y3.4 y3.5 y3.6 y3.7 y3.8 (Srv.mk y3.9.1 y3.9.2 y3.9.3 y3.9.4 y3.9.5)) fun Qj j8y v3o=>Sml (Qh++[Dcs.mk Qj.1 Qj.2 (Val.mk Qj.3.1 Qj.3.2 Qj.3.3 Qj.3.4) (Rsn.mk Qj.4.1 Qj.4.2 Qj.4.3 Qj.4.4) Qj.5]).length/\InI (Zi+1)/\u03 (Qh++[Dcs.mk Qj.1 Qj.2 (Val.mk Qj.3.1 Qj.3.2 Qj.3.3 Qj.3.4) (Rsn.mk Qj.4.1 Qj.4.2 Qj.4.3 Qj.4.4) Qj.5]) (Zi+1) j8y v3o) (K Qh)) [] (0:Int) y5y y5z
def Vs:Ry:=q9t U7 We
abbrev q7s:Type:=Envt->Subj->List (Frc)->(List (DcsX)->Prop)->Prop
def q7t(v:Envt)(s:Subj)(forced:List (Frc))(K:List (DcsX)->Prop):Prop:=Vs v s forced fun l=>K (l.map toX)
abbrev z0t:Type:=Dcs->Dcs->(Bool->Prop)->Prop
def j18(H6:q2q):z0t:=fun a b K=>Cnd (a.1=b.1) (Cnd (a.2=b.2) (H6 (Val.mk a.3.1 a.3.2 a.3.3 a.3.4) (Val.mk b.3.1 b.3.2 b.3.3 b.3.4) fun Qa=>Cnd (Qa=true) (Cnd (a.4.1=b.4.1/\a.4.2=b.4.2/\a.4.3=b.4.3/\a.4.4=b.4.4) (K (decide (a.5=b.5))) (K false)) (K false)) (K false)) (K false)
def z54:z0t:=j18 z0b
abbrev q1o:Type:=List (Dcs)->List (Dcs)->(Bool->Prop)->Prop
def z15(z6o:z0t):q1o:=fun a b K=>Fits a->Fits b->Cnd ((↑a.length:Int)=(↑b.length:Int)) (Lp1 (fun Qh j01=>Fits a->CAt a Qh (fun y4=>At b Qh fun y6=>z6o (Dcs.mk y4.1 y4.2 (Val.mk y4.3.1 y4.3.2 y4.3.3 y4.3.4) (Rsn.mk y4.4.1 y4.4.2 y4.4.3 y4.4.4) y4.5) (Dcs.mk y6.1 y6.2 (Val.mk y6.3.1 y6.3.2 y6.3.3 y6.3.4) (Rsn.mk y6.4.1 y6.4.2 y6.4.3 y6.4.4) y6.5) fun J3=>Cnd (J3=true) (InI (Qh+1)/\j01 (Qh+1)) (K false)) (K true)) (0:Int)) (K false)
def q5z:q1o:=z15 z54
abbrev w1y:Type:=Int->Int->(Int->Prop)->Prop
def w1z:w1y:=fun x n K=>n≠(0:Int)/\Cnd (x.tmod n<0) (InI (x.tmod n+n)/\K (x.tmod n+n)) (K (x.tmod n))
abbrev Bw:Type:=List (Int)->List (Int)->Int->(Bool->Prop)->Prop
def Bx(q2m:q1l)(q2n:q1m)(j8x:w1y)(Hn:q7s)(Gi:Ry)(q2o:q1o):Bw:=fun codes who which K=>q2m fun Qa=>Cnd (Qa=true) (q2n codes who fun Qc Z2 z6c=>Fits Qc.4->Cnd ((↑Qc.4.length:Int)=0) (K true) (Fits Qc.4->j8x which (↑Qc.4.length:Int) fun Qp=>Sml ([]++Qc.2).length/\Sml ([]++Qc.3).length/\Sml ([]++Qc.4).length/\Sml ([]++Qc.5).length/\Sml ([]++Qc.6).length/\((0:Int)<=Qp/\Qp<(↑([]++Qc.4).length:Int))/\ ∀y5,([]++Qc.4)[Qp.toNat]? =some y5->Hn (Envt.mk (Sett.mk Qc.1.1 Qc.1.2 Qc.1.3) ([]++Qc.2) ([]++Qc.3) (([]++Qc.4).set Qp.toNat (Flg.mk y5.1 y5.2 y5.3 false y5.5 y5.6 y5.7 y5.8 (Srv.mk y5.9.1 y5.9.2 y5.9.3 y5.9.4 y5.9.5))) ([]++Qc.5) ([]++Qc.6)) (Subj.mk Z2.1) z6c fun Jm=>Fits Jm->(([]++Qc.4).set Qp.toNat (Flg.mk y5.1 y5.2 y5.3 false y5.5 y5.6 y5.7 y5.8 (Srv.mk y5.9.1 y5.9.2 y5.9.3 y5.9.4 y5.9.5))).length<=(9223372036854775807:Nat)->Cnd ((↑Jm.length:Int)=(↑(([]++Qc.4).set Qp.toNat (Flg.mk y5.1 y5.2 y5.3 false y5.5 y5.6 y5.7 y5.8 (Srv.mk y5.9.1 y5.9.2 y5.9.3 y5.9.4 y5.9.5))).length:Int)) (At Jm Qp fun y10=>Cnd (y10.4.1=1) (At Jm Qp fun y12=>At Qc.4 Qp fun y14=>Cnd (y12.2=y14.5) (Fits Jm->Lp1 (fun q47 y8h=>Cnd (q47<(↑Jm.length:Int)) (Lp1 (fun q3f y8i=>((0:Int)<=q47/\q47<(↑(([]++Qc.4).set Qp.toNat (Flg.mk y5.1 y5.2 y5.3 false y5.5 y5.6 y5.7 y5.8 (Srv.mk y5.9.1 y5.9.2 y5.9.3 y5.9.4 y5.9.5))).length:Int))/\ ∀y19,(([]++Qc.4).set Qp.toNat (Flg.mk y5.1 y5.2 y5.3 false y5.5 y5.6 y5.7 y5.8 (Srv.mk y5.9.1 y5.9.2 y5.9.3 y5.9.4 y5.9.5)))[q47.toNat]? =some y19->Cnd (y19.4=true) (((0:Int)<=q47/\q47<(↑(([]++Qc.4).set Qp.toNat (Flg.mk y5.1 y5.2 y5.3 false y5.5 y5.6 y5.7 y5.8 (Srv.mk y5.9.1 y5.9.2 y5.9.3 y5.9.4 y5.9.5))).length:Int))/\ ∀y21,(([]++Qc.4).set Qp.toNat (Flg.mk y5.1 y5.2 y5.3 false y5.5 y5.6 y5.7 y5.8 (Srv.mk y5.9.1 y5.9.2 y5.9.3 y5.9.4 y5.9.5)))[q47.toNat]? =some y21->Fits y21.6->Cnd (q3f<(↑y21.6.length:Int)) (((0:Int)<=q47/\q47<(↑(([]++Qc.4).set Qp.toNat (Flg.mk y5.1 y5.2 y5.3 false y5.5 y5.6 y5.7 y5.8 (Srv.mk y5.9.1 y5.9.2 y5.9.3 y5.9.4 y5.9.5))).length:Int))/\ ∀y24,(([]++Qc.4).set Qp.toNat (Flg.mk y5.1 y5.2 y5.3 false y5.5 y5.6 y5.7 y5.8 (Srv.mk y5.9.1 y5.9.2 y5.9.3 y5.9.4 y5.9.5)))[q47.toNat]? =some y24->At y24.6 q3f fun y26=>At Qc.4 Qp fun y28=>Cnd (y26.1=y28.1) (At Jm q47 fun y30=>Cnd (y30.4.1=2) (At Jm q47 fun y32=>((0:Int)<=q47/\q47<(↑(([]++Qc.4).set Qp.toNat (Flg.mk y5.1 y5.2 y5.3 false y5.5 y5.6 y5.7 y5.8 (Srv.mk y5.9.1 y5.9.2 y5.9.3 y5.9.4 y5.9.5))).length:Int))/\ ∀y34,(([]++Qc.4).set Qp.toNat (Flg.mk y5.1 y5.2 y5.3 false y5.5 y5.6 y5.7 y5.8 (Srv.mk y5.9.1 y5.9.2 y5.9.3 y5.9.4 y5.9.5)))[q47.toNat]? =some y34->Cnd (y32.2=y34.5) (InI (q3f+1)/\y8i (q3f+1)) (K false)) (K false)) (InI (q3f+1)/\y8i (q3f+1))) (InI (q47+1)/\y8h (q47+1))) (InI (q47+1)/\y8h (q47+1))) (0:Int)) (At Qc.4 Qp fun y18=>((0:Int)<=Qp/\Qp<(↑(([]++Qc.4).set Qp.toNat (Flg.mk y5.1 y5.2 y5.3 false y5.5 y5.6 y5.7 y5.8 (Srv.mk y5.9.1 y5.9.2 y5.9.3 y5.9.4 y5.9.5))).length:Int))/\ ∀y20,(([]++Qc.4).set Qp.toNat (Flg.mk y5.1 y5.2 y5.3 false y5.5 y5.6 y5.7 y5.8 (Srv.mk y5.9.1 y5.9.2 y5.9.3 y5.9.4 y5.9.5)))[Qp.toNat]? =some y20->Gi (Envt.mk (Sett.mk Qc.1.1 Qc.1.2 Qc.1.3) ([]++Qc.2) ([]++Qc.3) ((([]++Qc.4).set Qp.toNat (Flg.mk y5.1 y5.2 y5.3 false y5.5 y5.6 y5.7 y5.8 (Srv.mk y5.9.1 y5.9.2 y5.9.3 y5.9.4 y5.9.5))).set Qp.toNat (Flg.mk y20.1 y20.2 y20.3 y18.4 y20.5 y20.6 y20.7 y20.8 (Srv.mk y20.9.1 y20.9.2 y20.9.3 y20.9.4 y20.9.5))) ([]++Qc.5) ([]++Qc.6)) (Subj.mk Z2.1) z6c fun v7u=>Gi (Envt.mk (Sett.mk Qc.1.1 Qc.1.2 Qc.1.3) Qc.2 Qc.3 Qc.4 Qc.5 Qc.6) (Subj.mk Z2.1) z6c fun y5r=>q2o v7u y5r fun Q7=>K Q7)) (0:Int)) (K false)) (K false)) (K false))) (K false)
def Ja:Bw:=Bx q5y q1n w1z q7t Vs q5z
end Go.En
end
noncomputable section
set_option maxRecDepth 100000
namespace Go.Proofs
open Go.Shelf
def Tryz.laysM171_ren:Go.Shelf.Ren:=⟨fun|171=>164|243=>202|246=>260|283=>288|284=>289|285=>290|286=>291|129=>238|317=>304|318=>305|319=>306|320=>307|337=>319|338=>320|n=>n,fun|3=>3|9=>9|2=>2|4=>4|171=>365|0=>0|53=>221|37=>22|5=>5|173=>367|212=>375|51=>326|20=>20|213=>376|46=>273|232=>390|233=>391|n=>n,fun|17=>5|18=>7|19=>8|n=>n⟩
theorem Tryz.laysM171:Go.Proofs.LaysM.n171 Tryz.prog Tryz.laysM171_ren:={
 mixed:=by kernel_rfl
 f129:=Tryz.func238.trans (congrArg some (by kernel_rfl))
 f171:=Tryz.func164.trans (congrArg some (by kernel_rfl))
 f243:=Tryz.func202.trans (congrArg some (by kernel_rfl))
 f246:=Tryz.func260.trans (congrArg some (by kernel_rfl))
 f283:=Tryz.func288.trans (congrArg some (by kernel_rfl))
 f284:=Tryz.func289.trans (congrArg some (by kernel_rfl))
 f285:=Tryz.func290.trans (congrArg some (by kernel_rfl))
 f286:=Tryz.func291.trans (congrArg some (by kernel_rfl))
 f317:=Tryz.func304.trans (congrArg some (by kernel_rfl))
 f318:=Tryz.func305.trans (congrArg some (by kernel_rfl))
 f319:=Tryz.func306.trans (congrArg some (by kernel_rfl))
 f320:=Tryz.func307.trans (congrArg some (by kernel_rfl))
 f337:=Tryz.func319.trans (congrArg some (by kernel_rfl))
 f338:=Tryz.func320.trans (congrArg some (by kernel_rfl))
 t0:=Tryz.underlying0
 a0:=Tryz.isAgg0
 z0:=Tryz.sizeOf0
 v0:=Tryz.zeroValue0
 t2:=Tryz.underlying2
 a2:=Tryz.isAgg2
 z2:=Tryz.sizeOf2
 v2:=Tryz.zeroValue2
 t3:=Tryz.underlying3
 a3:=Tryz.isAgg3
 z3:=Tryz.sizeOf3
 v3:=Tryz.zeroValue3
 t4:=Tryz.underlying4
 a4:=Tryz.isAgg4
 z4:=Tryz.sizeOf4
 v4:=Tryz.zeroValue4
 t5:=Tryz.underlying5
 a5:=Tryz.isAgg5
 z5:=Tryz.sizeOf5
 v5:=Tryz.zeroValue5
 t9:=Tryz.underlying9
 a9:=Tryz.isAgg9
 z9:=Tryz.sizeOf9
 v9:=Tryz.zeroValue9
 t20:=Tryz.underlying20
 a20:=Tryz.isAgg20
 z20:=Tryz.sizeOf20
 v20:=Tryz.zeroValue20
 t37:=Tryz.underlying22
 a37:=Tryz.isAgg22
 z37:=Tryz.sizeOf22
 v37:=Tryz.zeroValue22
 t46:=Tryz.underlying273
 a46:=Tryz.isAgg273
 z46:=Tryz.sizeOf273
 v46:=Tryz.zeroValue273
 t51:=Tryz.underlying326
 a51:=Tryz.isAgg326
 z51:=Tryz.sizeOf326
 v51:=Tryz.zeroValue326
 t53:=Tryz.underlying221
 a53:=Tryz.isAgg221
 z53:=Tryz.sizeOf221
 v53:=Tryz.zeroValue221
 t171:=Tryz.underlying365
 a171:=Tryz.isAgg365
 z171:=Tryz.sizeOf365
 v171:=Tryz.zeroValue365
 t173:=Tryz.underlying367
 a173:=Tryz.isAgg367
 z173:=Tryz.sizeOf367
 v173:=Tryz.zeroValue367
 t212:=Tryz.underlying375
 a212:=Tryz.isAgg375
 z212:=Tryz.sizeOf375
 v212:=Tryz.zeroValue375
 t213:=Tryz.underlying376
 a213:=Tryz.isAgg376
 z213:=Tryz.sizeOf376
 t232:=Tryz.underlying390
 a232:=Tryz.isAgg390
 z232:=Tryz.sizeOf390
 v232:=Tryz.zeroValue390
 t233:=Tryz.underlying391
 a233:=Tryz.isAgg391
 z233:=Tryz.sizeOf391
 v233:=Tryz.zeroValue391
 g17:=by kernel_rfl
 g18:=by kernel_rfl
 g19:=by kernel_rfl
 i0:=by kernel_rfl
 i2:=by kernel_rfl
 i3:=by kernel_rfl
 i4:=by kernel_rfl
 i5:=by kernel_rfl
 i9:=by kernel_rfl
 i20:=by kernel_rfl
 i37:=by kernel_rfl
 i46:=by kernel_rfl
 i51:=by kernel_rfl
 i53:=by kernel_rfl
 i171:=by kernel_rfl
 i173:=by kernel_rfl
 i212:=by kernel_rfl
 i232:=by kernel_rfl
 i233:=by kernel_rfl
 m17:=by kernel_rfl
 m18:=by kernel_rfl
 m19:=by kernel_rfl}
open Go.RowKit Go.Sort Go.Lib in
theorem Tryz.strconv_Itoa (n:Int) (h0: -9223372036854775808<=n) (h1:n<=9223372036854775807) (w:World) (htab:Lib.TabIs Tryz.prog w "internal/strconv.uint64pow10" .u64 Lib.pow10Tab):
  Calls Tryz.prog 164 #[.int .i64 n] w fun e w'=>e= .returned (.string ⟨(Lib.itoa n).toArray⟩)/\ ∃k os,w'=grow (w.drewN k) os:=Any.strconv_Itoa Tryz.laysM171 n h0 h1 w htab
def Tryz.laysC172_ren:Go.Shelf.Ren:=⟨fun|172=>318|244=>326|245=>327|247=>331|279=>332|280=>333|281=>334|282=>335|287=>337|316=>338|171=>164|205=>339|321=>340|322=>341|243=>202|246=>260|283=>288|284=>289|285=>290|286=>291|129=>238|317=>304|318=>305|319=>306|320=>307|337=>319|338=>320|n=>n,fun|9=>9|3=>3|75=>383|76=>384|4=>4|5=>5|167=>395|37=>22|0=>0|85=>396|2=>2|168=>398|53=>221|175=>401|46=>273|210=>405|127=>408|145=>411|143=>409|21=>21|171=>365|173=>367|212=>375|51=>326|20=>20|213=>376|232=>390|233=>391|80=>95|n=>n,fun|15=>9|16=>10|17=>5|18=>7|19=>8|n=>n⟩
theorem Tryz.laysC172:Go.Proofs.LaysC.n172 Tryz.prog Tryz.laysC172_ren:={
 mixed:=by kernel_rfl
 f129:=Tryz.func238.trans (congrArg some (by kernel_rfl))
 f171:=Tryz.func164.trans (congrArg some (by kernel_rfl))
 f172:=Tryz.func318.trans (congrArg some (by kernel_rfl))
 f205:=Tryz.func339.trans (congrArg some (by kernel_rfl))
 f243:=Tryz.func202.trans (congrArg some (by kernel_rfl))
 f244:=Tryz.func326.trans (congrArg some (by kernel_rfl))
 f245:=Tryz.func327.trans (congrArg some (by kernel_rfl))
 f246:=Tryz.func260.trans (congrArg some (by kernel_rfl))
 f247:=Tryz.func331.trans (congrArg some (by kernel_rfl))
 f279:=Tryz.func332.trans (congrArg some (by kernel_rfl))
 f280:=Tryz.func333.trans (congrArg some (by kernel_rfl))
 f281:=Tryz.func334.trans (congrArg some (by kernel_rfl))
 f282:=Tryz.func335.trans (congrArg some (by kernel_rfl))
 f283:=Tryz.func288.trans (congrArg some (by kernel_rfl))
 f284:=Tryz.func289.trans (congrArg some (by kernel_rfl))
 f285:=Tryz.func290.trans (congrArg some (by kernel_rfl))
 f286:=Tryz.func291.trans (congrArg some (by kernel_rfl))
 f287:=Tryz.func337.trans (congrArg some (by kernel_rfl))
 f316:=Tryz.func338.trans (congrArg some (by kernel_rfl))
 f317:=Tryz.func304.trans (congrArg some (by kernel_rfl))
 f318:=Tryz.func305.trans (congrArg some (by kernel_rfl))
 f319:=Tryz.func306.trans (congrArg some (by kernel_rfl))
 f320:=Tryz.func307.trans (congrArg some (by kernel_rfl))
 f321:=Tryz.func340.trans (congrArg some (by kernel_rfl))
 f322:=Tryz.func341.trans (congrArg some (by kernel_rfl))
 f337:=Tryz.func319.trans (congrArg some (by kernel_rfl))
 f338:=Tryz.func320.trans (congrArg some (by kernel_rfl))
 t0:=Tryz.underlying0
 a0:=Tryz.isAgg0
 z0:=Tryz.sizeOf0
 v0:=Tryz.zeroValue0
 t2:=Tryz.underlying2
 a2:=Tryz.isAgg2
 z2:=Tryz.sizeOf2
 v2:=Tryz.zeroValue2
 t3:=Tryz.underlying3
 a3:=Tryz.isAgg3
 z3:=Tryz.sizeOf3
 v3:=Tryz.zeroValue3
 t4:=Tryz.underlying4
 a4:=Tryz.isAgg4
 z4:=Tryz.sizeOf4
 v4:=Tryz.zeroValue4
 t5:=Tryz.underlying5
 a5:=Tryz.isAgg5
 z5:=Tryz.sizeOf5
 v5:=Tryz.zeroValue5
 t9:=Tryz.underlying9
 a9:=Tryz.isAgg9
 z9:=Tryz.sizeOf9
 v9:=Tryz.zeroValue9
 t20:=Tryz.underlying20
 a20:=Tryz.isAgg20
 z20:=Tryz.sizeOf20
 v20:=Tryz.zeroValue20
 t21:=Tryz.underlying21
 a21:=Tryz.isAgg21
 z21:=Tryz.sizeOf21
 v21:=Tryz.zeroValue21
 t37:=Tryz.underlying22
 a37:=Tryz.isAgg22
 z37:=Tryz.sizeOf22
 v37:=Tryz.zeroValue22
 t46:=Tryz.underlying273
 a46:=Tryz.isAgg273
 z46:=Tryz.sizeOf273
 v46:=Tryz.zeroValue273
 t51:=Tryz.underlying326
 a51:=Tryz.isAgg326
 z51:=Tryz.sizeOf326
 v51:=Tryz.zeroValue326
 t53:=Tryz.underlying221
 a53:=Tryz.isAgg221
 z53:=Tryz.sizeOf221
 v53:=Tryz.zeroValue221
 t75:=Tryz.underlying383
 a75:=Tryz.isAgg383
 z75:=Tryz.sizeOf383
 v75:=Tryz.zeroValue383
 t76:=Tryz.underlying384
 a76:=Tryz.isAgg384
 z76:=Tryz.sizeOf384
 v76:=Tryz.zeroValue384
 t85:=Tryz.underlying396
 a85:=Tryz.isAgg396
 z85:=Tryz.sizeOf396
 v85:=Tryz.zeroValue396
 t127:=Tryz.underlying408
 a127:=Tryz.isAgg408
 z127:=Tryz.sizeOf408
 v127:=Tryz.zeroValue408
 t143:=Tryz.underlying409
 a143:=Tryz.isAgg409
 z143:=Tryz.sizeOf409
 v143:=Tryz.zeroValue409
 t145:=Tryz.underlying411
 a145:=Tryz.isAgg411
 z145:=Tryz.sizeOf411
 v145:=Tryz.zeroValue411
 t167:=Tryz.underlying395
 a167:=Tryz.isAgg395
 z167:=Tryz.sizeOf395
 v167:=Tryz.zeroValue395
 t168:=Tryz.underlying398
 a168:=Tryz.isAgg398
 z168:=Tryz.sizeOf398
 v168:=Tryz.zeroValue398
 t171:=Tryz.underlying365
 a171:=Tryz.isAgg365
 z171:=Tryz.sizeOf365
 v171:=Tryz.zeroValue365
 t173:=Tryz.underlying367
 a173:=Tryz.isAgg367
 z173:=Tryz.sizeOf367
 v173:=Tryz.zeroValue367
 t175:=Tryz.underlying401
 a175:=Tryz.isAgg401
 z175:=Tryz.sizeOf401
 v175:=Tryz.zeroValue401
 t210:=Tryz.underlying405
 a210:=Tryz.isAgg405
 z210:=Tryz.sizeOf405
 v210:=Tryz.zeroValue405
 t212:=Tryz.underlying375
 a212:=Tryz.isAgg375
 z212:=Tryz.sizeOf375
 v212:=Tryz.zeroValue375
 t213:=Tryz.underlying376
 a213:=Tryz.isAgg376
 z213:=Tryz.sizeOf376
 t232:=Tryz.underlying390
 a232:=Tryz.isAgg390
 z232:=Tryz.sizeOf390
 v232:=Tryz.zeroValue390
 t233:=Tryz.underlying391
 a233:=Tryz.isAgg391
 z233:=Tryz.sizeOf391
 v233:=Tryz.zeroValue391
 g15:=by kernel_rfl
 g16:=by kernel_rfl
 g17:=by kernel_rfl
 g18:=by kernel_rfl
 g19:=by kernel_rfl
 t80:=Tryz.underlying95
 a80:=Tryz.isAgg95
 z80:=Tryz.sizeOf95
 v80:=Tryz.zeroValue95
 i0:=by kernel_rfl
 i2:=by kernel_rfl
 i3:=by kernel_rfl
 i4:=by kernel_rfl
 i5:=by kernel_rfl
 i9:=by kernel_rfl
 i20:=by kernel_rfl
 i21:=by kernel_rfl
 i37:=by kernel_rfl
 i46:=by kernel_rfl
 i51:=by kernel_rfl
 i53:=by kernel_rfl
 i75:=by kernel_rfl
 i76:=by kernel_rfl
 i80:=by kernel_rfl
 i85:=by kernel_rfl
 i127:=by kernel_rfl
 i143:=by kernel_rfl
 i145:=by kernel_rfl
 i167:=by kernel_rfl
 i168:=by kernel_rfl
 i171:=by kernel_rfl
 i173:=by kernel_rfl
 i175:=by kernel_rfl
 i210:=by kernel_rfl
 i212:=by kernel_rfl
 i232:=by kernel_rfl
 i233:=by kernel_rfl
 m15:=by kernel_rfl
 m16:=by kernel_rfl
 m17:=by kernel_rfl
 m18:=by kernel_rfl
 m19:=by kernel_rfl
 c0:=by kernel_rfl
 c2:=by kernel_rfl
 c3:=by kernel_rfl
 c4:=by kernel_rfl
 c5:=by kernel_rfl
 c9:=by kernel_rfl
 c20:=by kernel_rfl
 c21:=by kernel_rfl
 c37:=by kernel_rfl
 c46:=by kernel_rfl
 c51:=by kernel_rfl
 c53:=by kernel_rfl
 c75:=by kernel_rfl
 c76:=by kernel_rfl
 c80:=by kernel_rfl
 c85:=by kernel_rfl
 c127:=by kernel_rfl
 c143:=by kernel_rfl
 c145:=by kernel_rfl
 c167:=by kernel_rfl
 c168:=by kernel_rfl
 c171:=by kernel_rfl
 c173:=by kernel_rfl
 c175:=by kernel_rfl
 c210:=by kernel_rfl
 c212:=by kernel_rfl
 c213:=by kernel_rfl
 c232:=by kernel_rfl
 c233:=by kernel_rfl}
open Go.RowKit in
theorem Tryz.strconv_Atoi_ok(s:ByteArray)(hmax:s.size<=9223372036854775806)(v:Int)(h:Lib.atoiAll s.data.toList= .ok v)(w:World):
  Calls Tryz.prog 318 #[.string s] w fun e w'=>e= .returned (.tuple #[.int .i64 v,.nilIface])/\(w'=w∨ ∃t,w'=Lib.bytesWorld w 5 t):=Any.strconv_Atoi_ok Tryz.laysC172 s hmax v h w
open Go.RowKit in
theorem Tryz.strconv_Atoi_syntax(s:ByteArray)(hlim:s.size<=281474976710656)(h:Lib.atoiAll s.data.toList=Go.Lib.NumEnd.syntax)(ev:Value)(w:World)(hv:w.cell? ⟨9,0,none⟩=some ev)(hev:ev= .nilIface∨ ∃te pe,ev= .iface te pe):
  Calls Tryz.prog 318 #[.string s] w fun e w'=> ∃N,e= .returned (.tuple #[.int .i64 (0),.iface 398 (.pointer (some ⟨N,0,none⟩))])/\w.heap.size<=N/\w'.heap[N]? =some (.cells #[.string ⟨#[65,116,111,105]⟩,.string s,ev] 405 (0,0))/\Below w.heap.size w w':=Any.strconv_Atoi_syntax Tryz.laysC172 s hlim h ev w hv hev
open Go.RowKit in
theorem Tryz.strconv_Atoi_range(s:ByteArray)(hlim:s.size<=281474976710656)(h:Lib.atoiAll s.data.toList= .range)(ev:Value)(w:World)(hv:w.cell? ⟨10,0,none⟩=some ev)(hev:ev= .nilIface∨ ∃te pe,ev= .iface te pe):
  Calls Tryz.prog 318 #[.string s] w fun e w'=> ∃N,e= .returned (.tuple #[.int .i64 (Lib.atoiSat s.data.toList),.iface 398 (.pointer (some ⟨N,0,none⟩))])/\w.heap.size<=N/\w'.heap[N]? =some (.cells #[.string ⟨#[65,116,111,105]⟩,.string s,ev] 405 (0,0))/\Below w.heap.size w w':=Any.strconv_Atoi_range Tryz.laysC172 s hlim h ev w hv hev
def Tryz.lays144_ren:Go.Shelf.Ren:=⟨fun|144=>251|143=>282|219=>298|217=>312|225=>313|224=>314|267=>315|266=>321|314=>322|n=>n,fun|9=>9|4=>4|3=>3|5=>5|46=>273|146=>386|51=>326|n=>n,fun|1=>6|n=>n⟩
theorem Tryz.lays144:Go.Proofs.Lays.n144 Tryz.prog Tryz.lays144_ren:={
 mixed:=by kernel_rfl
 f143:=Tryz.func282.trans (congrArg some (by kernel_rfl))
 f144:=Tryz.func251.trans (congrArg some (by kernel_rfl))
 f217:=Tryz.func312.trans (congrArg some (by kernel_rfl))
 f219:=Tryz.func298.trans (congrArg some (by kernel_rfl))
 f224:=Tryz.func314.trans (congrArg some (by kernel_rfl))
 f225:=Tryz.func313.trans (congrArg some (by kernel_rfl))
 f266:=Tryz.func321.trans (congrArg some (by kernel_rfl))
 f267:=Tryz.func315.trans (congrArg some (by kernel_rfl))
 f314:=Tryz.func322.trans (congrArg some (by kernel_rfl))
 t3:=Tryz.underlying3
 a3:=Tryz.isAgg3
 z3:=Tryz.sizeOf3
 v3:=Tryz.zeroValue3
 t4:=Tryz.underlying4
 a4:=Tryz.isAgg4
 z4:=Tryz.sizeOf4
 v4:=Tryz.zeroValue4
 t5:=Tryz.underlying5
 a5:=Tryz.isAgg5
 z5:=Tryz.sizeOf5
 v5:=Tryz.zeroValue5
 t9:=Tryz.underlying9
 a9:=Tryz.isAgg9
 z9:=Tryz.sizeOf9
 v9:=Tryz.zeroValue9
 t46:=Tryz.underlying273
 a46:=Tryz.isAgg273
 z46:=Tryz.sizeOf273
 v46:=Tryz.zeroValue273
 t51:=Tryz.underlying326
 a51:=Tryz.isAgg326
 z51:=Tryz.sizeOf326
 v51:=Tryz.zeroValue326
 t146:=Tryz.underlying386
 a146:=Tryz.isAgg386
 z146:=Tryz.sizeOf386
 v146:=Tryz.zeroValue386
 g1:=by kernel_rfl}
open Go.RowKit Go.Lib in
theorem Tryz.strings_Contains(s sub:ByteArray)(m:Int)(w:World)(hs:s.size<4294967281)(hm:w.cell? ⟨6,0,none⟩=some (.int .i64 m)):
  Calls Tryz.prog 251 #[.string s,.string sub] w fun e w'=>e= .returned (.bool (Lib.contains s.data.toList sub.data.toList))/\w'=w:=Any.strings_Contains Tryz.lays144 s sub m w hs hm
def Tryz.lays190_ren:Go.Shelf.Ren:=⟨fun|190=>137|125=>180|258=>179|128=>237|129=>238|302=>228|303=>229|304=>230|305=>231|306=>232|307=>233|308=>234|309=>235|310=>236|333=>270|329=>271|330=>272|334=>273|335=>274|336=>275|344=>297|n=>n,fun|31=>70|9=>9|3=>3|46=>273|0=>0|51=>326|53=>221|4=>4|183=>319|182=>318|131=>112|5=>5|218=>356|222=>353|228=>371|229=>341|n=>n,fun|n=>n⟩
theorem Tryz.lays190:Go.Proofs.Lays.n190 Tryz.prog Tryz.lays190_ren:={
 mixed:=by kernel_rfl
 f125:=Tryz.func180.trans (congrArg some (by kernel_rfl))
 f128:=Tryz.func237.trans (congrArg some (by kernel_rfl))
 f129:=Tryz.func238.trans (congrArg some (by kernel_rfl))
 f190:=Tryz.func137.trans (congrArg some (by kernel_rfl))
 f258:=Tryz.func179.trans (congrArg some (by kernel_rfl))
 f302:=Tryz.func228.trans (congrArg some (by kernel_rfl))
 f303:=Tryz.func229.trans (congrArg some (by kernel_rfl))
 f304:=Tryz.func230.trans (congrArg some (by kernel_rfl))
 f305:=Tryz.func231.trans (congrArg some (by kernel_rfl))
 f306:=Tryz.func232.trans (congrArg some (by kernel_rfl))
 f307:=Tryz.func233.trans (congrArg some (by kernel_rfl))
 f308:=Tryz.func234.trans (congrArg some (by kernel_rfl))
 f309:=Tryz.func235.trans (congrArg some (by kernel_rfl))
 f310:=Tryz.func236.trans (congrArg some (by kernel_rfl))
 f329:=Tryz.func271.trans (congrArg some (by kernel_rfl))
 f330:=Tryz.func272.trans (congrArg some (by kernel_rfl))
 f333:=Tryz.func270.trans (congrArg some (by kernel_rfl))
 f334:=Tryz.func273.trans (congrArg some (by kernel_rfl))
 f335:=Tryz.func274.trans (congrArg some (by kernel_rfl))
 f336:=Tryz.func275.trans (congrArg some (by kernel_rfl))
 f344:=Tryz.func297.trans (congrArg some (by kernel_rfl))
 t0:=Tryz.underlying0
 a0:=Tryz.isAgg0
 z0:=Tryz.sizeOf0
 v0:=Tryz.zeroValue0
 t3:=Tryz.underlying3
 a3:=Tryz.isAgg3
 z3:=Tryz.sizeOf3
 v3:=Tryz.zeroValue3
 t4:=Tryz.underlying4
 a4:=Tryz.isAgg4
 z4:=Tryz.sizeOf4
 v4:=Tryz.zeroValue4
 t5:=Tryz.underlying5
 a5:=Tryz.isAgg5
 z5:=Tryz.sizeOf5
 v5:=Tryz.zeroValue5
 t9:=Tryz.underlying9
 a9:=Tryz.isAgg9
 z9:=Tryz.sizeOf9
 v9:=Tryz.zeroValue9
 t31:=Tryz.underlying70
 a31:=Tryz.isAgg70
 z31:=Tryz.sizeOf70
 v31:=Tryz.zeroValue70
 t46:=Tryz.underlying273
 a46:=Tryz.isAgg273
 z46:=Tryz.sizeOf273
 v46:=Tryz.zeroValue273
 t51:=Tryz.underlying326
 a51:=Tryz.isAgg326
 z51:=Tryz.sizeOf326
 v51:=Tryz.zeroValue326
 t53:=Tryz.underlying221
 a53:=Tryz.isAgg221
 z53:=Tryz.sizeOf221
 v53:=Tryz.zeroValue221
 t131:=Tryz.underlying112
 a131:=Tryz.isAgg112
 z131:=Tryz.sizeOf112
 v131:=Tryz.zeroValue112
 t182:=Tryz.underlying318
 a182:=Tryz.isAgg318
 z182:=Tryz.sizeOf318
 v182:=Tryz.zeroValue318
 t183:=Tryz.underlying319
 a183:=Tryz.isAgg319
 z183:=Tryz.sizeOf319
 v183:=Tryz.zeroValue319
 t218:=Tryz.underlying356
 a218:=Tryz.isAgg356
 z218:=Tryz.sizeOf356
 v218:=Tryz.zeroValue356
 t222:=Tryz.underlying353
 a222:=Tryz.isAgg353
 z222:=Tryz.sizeOf353
 v222:=Tryz.zeroValue353
 t228:=Tryz.underlying371
 a228:=Tryz.isAgg371
 z228:=Tryz.sizeOf371
 v228:=Tryz.zeroValue371
 t229:=Tryz.underlying341
 a229:=Tryz.isAgg341
 z229:=Tryz.sizeOf341
 v229:=Tryz.zeroValue341}
open Go.Sort Go.RowKit in
theorem Tryz.slices_Sort_string(blk off cap:Nat)(ss:List (List UInt8))(w:World)(hH:Holds encStr w blk off ss.toArray)(hblk:blk<w.heap.size)(hsz:ss.length<4611686018427387904):
  Calls Tryz.prog 137 #[.slice (some ⟨blk,off,none⟩) ss.length cap] w fun e w'=>
   e= .returned (.tuple #[])/\ ∃n os,w'=grow (putRow encStr (Sort.ahead w n) blk off (ss.mergeSort fun x y=>decide (x<=y)).toArray) os:=Any.slices_Sort_string Tryz.lays190 blk off cap ss w hH hblk hsz
def Tryz.lays146_ren:Go.Shelf.Ren:=⟨fun|146=>302|221=>316|268=>323|138=>324|143=>282|195=>328|197=>329|218=>330|219=>298|260=>336|217=>312|225=>313|224=>314|267=>315|266=>321|314=>322|n=>n,fun|9=>9|31=>70|3=>3|4=>4|0=>0|105=>393|21=>21|5=>5|46=>273|119=>348|139=>351|138=>350|146=>386|51=>326|n=>n,fun|1=>6|3=>3|4=>4|n=>n⟩
theorem Tryz.lays146:Go.Proofs.Lays.n146 Tryz.prog Tryz.lays146_ren:={
 mixed:=by kernel_rfl
 f138:=Tryz.func324.trans (congrArg some (by kernel_rfl))
 f143:=Tryz.func282.trans (congrArg some (by kernel_rfl))
 f146:=Tryz.func302.trans (congrArg some (by kernel_rfl))
 f195:=Tryz.func328.trans (congrArg some (by kernel_rfl))
 f197:=Tryz.func329.trans (congrArg some (by kernel_rfl))
 f217:=Tryz.func312.trans (congrArg some (by kernel_rfl))
 f218:=Tryz.func330.trans (congrArg some (by kernel_rfl))
 f219:=Tryz.func298.trans (congrArg some (by kernel_rfl))
 f221:=Tryz.func316.trans (congrArg some (by kernel_rfl))
 f224:=Tryz.func314.trans (congrArg some (by kernel_rfl))
 f225:=Tryz.func313.trans (congrArg some (by kernel_rfl))
 f260:=Tryz.func336.trans (congrArg some (by kernel_rfl))
 f266:=Tryz.func321.trans (congrArg some (by kernel_rfl))
 f267:=Tryz.func315.trans (congrArg some (by kernel_rfl))
 f268:=Tryz.func323.trans (congrArg some (by kernel_rfl))
 f314:=Tryz.func322.trans (congrArg some (by kernel_rfl))
 t0:=Tryz.underlying0
 a0:=Tryz.isAgg0
 z0:=Tryz.sizeOf0
 v0:=Tryz.zeroValue0
 t3:=Tryz.underlying3
 a3:=Tryz.isAgg3
 z3:=Tryz.sizeOf3
 v3:=Tryz.zeroValue3
 t4:=Tryz.underlying4
 a4:=Tryz.isAgg4
 z4:=Tryz.sizeOf4
 v4:=Tryz.zeroValue4
 t5:=Tryz.underlying5
 a5:=Tryz.isAgg5
 z5:=Tryz.sizeOf5
 v5:=Tryz.zeroValue5
 t9:=Tryz.underlying9
 a9:=Tryz.isAgg9
 z9:=Tryz.sizeOf9
 v9:=Tryz.zeroValue9
 t21:=Tryz.underlying21
 a21:=Tryz.isAgg21
 z21:=Tryz.sizeOf21
 v21:=Tryz.zeroValue21
 t31:=Tryz.underlying70
 a31:=Tryz.isAgg70
 z31:=Tryz.sizeOf70
 v31:=Tryz.zeroValue70
 t46:=Tryz.underlying273
 a46:=Tryz.isAgg273
 z46:=Tryz.sizeOf273
 v46:=Tryz.zeroValue273
 t51:=Tryz.underlying326
 a51:=Tryz.isAgg326
 z51:=Tryz.sizeOf326
 v51:=Tryz.zeroValue326
 t105:=Tryz.underlying393
 a105:=Tryz.isAgg393
 z105:=Tryz.sizeOf393
 v105:=Tryz.zeroValue393
 t119:=Tryz.underlying348
 a119:=Tryz.isAgg348
 z119:=Tryz.sizeOf348
 t138:=Tryz.underlying350
 a138:=Tryz.isAgg350
 z138:=Tryz.sizeOf350
 v138:=Tryz.zeroValue350
 t139:=Tryz.underlying351
 a139:=Tryz.isAgg351
 z139:=Tryz.sizeOf351
 v139:=Tryz.zeroValue351
 t146:=Tryz.underlying386
 a146:=Tryz.isAgg386
 z146:=Tryz.sizeOf386
 v146:=Tryz.zeroValue386
 g1:=by kernel_rfl
 g3:=by kernel_rfl
 g4:=by kernel_rfl}
open Go.RowKit Go.Lib in
theorem Tryz.strings_Split(s sep:ByteArray)(m:Int)(w:World)(hs:s.size<4294967281)(hm:w.cell? ⟨6,0,none⟩=some (.int .i64 m))(h1:1<=sep.size):
  Calls Tryz.prog 302 #[.string s,.string sep] w fun e w'=>
   e= .returned (.slice (some ⟨w.heap.size,0,none⟩) (Lib.countB s sep+1) (Lib.countB s sep+1))/\w'=w.alloc (.cells ((Lib.splitB sep 0 (Lib.countB s sep) s).map Value.string).toArray 9):=Any.strings_Split Tryz.lays146 (by kernel_rfl) s sep m w hs hm h1
def Tryz.lays194_ren:Go.Shelf.Ren:=⟨fun|194=>220|n=>n,fun|31=>70|9=>9|3=>3|4=>4|0=>0|n=>n,fun|n=>n⟩
theorem Tryz.lays194:Go.Proofs.Lays.n194 Tryz.prog Tryz.lays194_ren:={
 mixed:=by kernel_rfl
 f194:=Tryz.func220.trans (congrArg some (by kernel_rfl))
 t0:=Tryz.underlying0
 a0:=Tryz.isAgg0
 z0:=Tryz.sizeOf0
 v0:=Tryz.zeroValue0
 t3:=Tryz.underlying3
 a3:=Tryz.isAgg3
 z3:=Tryz.sizeOf3
 v3:=Tryz.zeroValue3
 t4:=Tryz.underlying4
 a4:=Tryz.isAgg4
 z4:=Tryz.sizeOf4
 v4:=Tryz.zeroValue4
 t9:=Tryz.underlying9
 a9:=Tryz.isAgg9
 z9:=Tryz.sizeOf9
 v9:=Tryz.zeroValue9
 t31:=Tryz.underlying70
 a31:=Tryz.isAgg70
 z31:=Tryz.sizeOf70
 v31:=Tryz.zeroValue70}
open Go.RowKit Go.Lib Go.Sort in
theorem Tryz.slices_Compact_string(blk off cap:Nat)(zs:List (List UInt8))(w:World)(hH:Holds encStr w blk off zs.toArray)(hsz:zs.length<=9223372036854775807)(hcap:zs.length<=cap):
  Calls Tryz.prog 220 #[.slice (some ⟨blk,off,none⟩) zs.length cap] w fun e w'=>e= .returned (.slice (some ⟨blk,off,none⟩) (Lib.compact zs).length cap)/\ ∃q,w'=putRow encStr (Sort.ahead w q) blk off (Lib.compact zs++List.replicate (zs.length - (Lib.compact zs).length) []).toArray:=Any.slices_Compact_string Tryz.lays194 blk off cap zs w hH hsz hcap
open Go.RowKit Go.Lib Go.Sort in
theorem Tryz.slices_Compact_string_empty(a:Option Addr)(cap:Nat)(w:World):
  Calls Tryz.prog 220 #[.slice a 0 cap] w fun e w'=>e= .returned (.slice a 0 cap)/\w'=w:=Any.slices_Compact_string_empty Tryz.lays194 a cap w
def Tryz.laysNm224_ren:Go.Shelf.Ren:=⟨fun|24=>227|n=>n,fun|24=>70|9=>9|3=>3|4=>4|0=>0|n=>n,fun|n=>n⟩
theorem Tryz.laysNm224:Go.Proofs.Lays2.n24 Tryz.prog Tryz.laysNm224_ren:={
 mixed:=by kernel_rfl
 f24:=Tryz.func227.trans (congrArg some (by kernel_rfl))
 t0:=Tryz.underlying0
 a0:=Tryz.isAgg0
 z0:=Tryz.sizeOf0
 v0:=Tryz.zeroValue0
 t3:=Tryz.underlying3
 a3:=Tryz.isAgg3
 z3:=Tryz.sizeOf3
 v3:=Tryz.zeroValue3
 t4:=Tryz.underlying4
 a4:=Tryz.isAgg4
 z4:=Tryz.sizeOf4
 v4:=Tryz.zeroValue4
 t9:=Tryz.underlying9
 a9:=Tryz.isAgg9
 z9:=Tryz.sizeOf9
 v9:=Tryz.zeroValue9
 t24:=Tryz.underlying70
 a24:=Tryz.isAgg70
 z24:=Tryz.sizeOf70
 v24:=Tryz.zeroValue70
 i9:=by kernel_rfl}
open Go.RowKit Go.Lib Go.Sort in
theorem Tryz.slices_Delete_string(blk off cap i j:Nat)(zs:List (List UInt8))(w:World)(hH:Holds encStr w blk off zs.toArray)(hcap:zs.length<=cap)(hm:cap<=9223372036854775807)(hij:i<=j)(hj:j<=zs.length):
  Calls Tryz.prog 227 #[.slice (some ⟨blk,off,none⟩) zs.length cap,.int .i64 i,.int .i64 j] w fun e w'=>e= .returned (.slice (some ⟨blk,off,none⟩) (zs.length - (j - i)) cap)/\ ∃q,w'=putRow encStr (Sort.ahead w q) blk off (zs.take i++zs.drop j++List.replicate (j - i) []).toArray:=Any.slices_Delete_string Tryz.laysNm224 blk off cap i j zs w hH hcap hm hij hj
open Go.RowKit Go.Sort in
theorem Tryz.slices_Sort_string_none(p:Option Addr)(cap:Nat)(w:World):
  Calls Tryz.prog 137 #[.slice p 0 cap] w fun e w'=>e= .returned (.tuple #[])/\w'=w:=Any.slices_Sort_string_none Tryz.lays190 p cap w
def Tryz.lays196_ren:Go.Shelf.Ren:=⟨fun|196=>206|259=>263|n=>n,fun|9=>9|4=>4|3=>3|5=>5|12=>12|119=>348|0=>0|46=>273|139=>351|138=>350|53=>221|n=>n,fun|3=>3|4=>4|n=>n⟩
theorem Tryz.lays196:Go.Proofs.Lays.n196 Tryz.prog Tryz.lays196_ren:={
 mixed:=by kernel_rfl
 f196:=Tryz.func206.trans (congrArg some (by kernel_rfl))
 f259:=Tryz.func263.trans (congrArg some (by kernel_rfl))
 t0:=Tryz.underlying0
 a0:=Tryz.isAgg0
 z0:=Tryz.sizeOf0
 v0:=Tryz.zeroValue0
 t3:=Tryz.underlying3
 a3:=Tryz.isAgg3
 z3:=Tryz.sizeOf3
 v3:=Tryz.zeroValue3
 t4:=Tryz.underlying4
 a4:=Tryz.isAgg4
 z4:=Tryz.sizeOf4
 v4:=Tryz.zeroValue4
 t5:=Tryz.underlying5
 a5:=Tryz.isAgg5
 z5:=Tryz.sizeOf5
 v5:=Tryz.zeroValue5
 t9:=Tryz.underlying9
 a9:=Tryz.isAgg9
 z9:=Tryz.sizeOf9
 v9:=Tryz.zeroValue9
 t12:=Tryz.underlying12
 a12:=Tryz.isAgg12
 z12:=Tryz.sizeOf12
 v12:=Tryz.zeroValue12
 t46:=Tryz.underlying273
 a46:=Tryz.isAgg273
 z46:=Tryz.sizeOf273
 v46:=Tryz.zeroValue273
 t53:=Tryz.underlying221
 a53:=Tryz.isAgg221
 z53:=Tryz.sizeOf221
 v53:=Tryz.zeroValue221
 t119:=Tryz.underlying348
 a119:=Tryz.isAgg348
 z119:=Tryz.sizeOf348
 t138:=Tryz.underlying350
 a138:=Tryz.isAgg350
 z138:=Tryz.sizeOf350
 v138:=Tryz.zeroValue350
 t139:=Tryz.underlying351
 a139:=Tryz.isAgg351
 z139:=Tryz.sizeOf351
 v139:=Tryz.zeroValue351
 g3:=by kernel_rfl
 g4:=by kernel_rfl}
def Tryz.sorted221_ren:Go.Shelf.Ren:=⟨fun|6=>221|8=>268|9=>137|11=>296|13=>180|12=>179|23=>237|24=>238|14=>228|15=>229|16=>230|17=>231|18=>232|19=>233|20=>234|21=>235|22=>236|25=>270|26=>271|27=>272|28=>273|29=>274|30=>275|31=>297|n=>n,fun|26=>9|28=>311|24=>70|0=>0|3=>3|37=>273|48=>326|50=>221|4=>4|40=>319|39=>318|45=>112|5=>5|9=>9|51=>356|55=>353|57=>371|58=>341|33=>264|n=>n,fun|n=>n⟩
theorem Tryz.sorted221:Go.Proofs.SlLaysZ.n6 Tryz.prog Tryz.sorted221_ren:={
 mixed:=by kernel_rfl
 f6:=⟨Tryz.f221.name,by decide,Tryz.func221.trans (congrArg some (by kernel_rfl))⟩
 f8:=⟨Tryz.f268.name,by decide,Tryz.func268.trans (congrArg some (by kernel_rfl))⟩
 f11:=⟨Tryz.f296.name,by decide,Tryz.func296.trans (congrArg some (by kernel_rfl))⟩
 t0:=Tryz.underlying0
 a0:=Tryz.isAgg0
 z0:=Tryz.sizeOf0
 v0:=Tryz.zeroValue0
 t24:=Tryz.underlying70
 a24:=Tryz.isAgg70
 z24:=Tryz.sizeOf70
 v24:=Tryz.zeroValue70
 t26:=Tryz.underlying9
 a26:=Tryz.isAgg9
 z26:=Tryz.sizeOf9
 v26:=Tryz.zeroValue9
 t28:=Tryz.underlying311
 a28:=Tryz.isAgg311
 z28:=Tryz.sizeOf311
 v28:=Tryz.zeroValue311
 i26:=by kernel_rfl}
end Go.Proofs
end
noncomputable section
set_option maxRecDepth 100000
namespace Go.Fl
open Go Go.Proofs Go.RowKit Go.Maps Go.Sort Go.Shelf
variable {P:Program}{ρ:Ren}
def v5x(F:Fence)(n:Nat)(P:Program)(g:Nat)(lb:Array Value)(ss:List (List UInt8))(w:World):Prop:=
 ∀(l:Nat) (J:List (List UInt8)->World->Prop) (W:World),Below w.heap.size w W->AbidesFrom W.heap.size J->(∀pre W1,J pre W1->Below w.heap.size w W1)->
  (∀pre x W1,J pre W1->pre.length<ss.length->YieldAt F (n - 1) P l #[encStr x] W1 fun e W'=>e= .returned (.bool true)/\J (pre++[x]) W'/\KeepsWalks W1 W')->
  J [] W->CallsIn F n P g (#[.func (.yield l) #[] #[]]++lb) W fun e W'=>(∃v,e= .returned v)/\J ss W'
theorem w0p{W:World}{base j:Nat}{e:TypeId}{v:Value}{k:Nat}{xs:List Value}{o:Obj}(h:W.ownsRow base e 1 v k xs)(hj:W.heap[j]? =some o)(hno: ∀cur,o≠ .cells cur e (0,0))(o':Obj):(W.putObj j o').ownsRow base e 1 v k xs:=
 h.kept (grownBy_putObj_a W j o') (ownsRow_ne_a h hj hno)
set_option maxHeartbeats 2000000 in
theorem j6u(L:SlLaysZ.n11 P ρ)(F:Fence)(n:Nat)(hf:F.fn (ρ.f 11))(hro:F.round=none)(hn:2<=n)(g:Nat)(lb:Array Value)(hg:F.fn g)(eg: ∀args w,(callFunc g args).run P w= .ok (.enter g args) w)
  (ss:List (List UInt8))(hN:ss.length<=maxLen)(hNb:ss.length*16<=140737488355328)(w:World)(hseq:v5x F (n - 1) P g lb ss w):
  CallsIn F n P (ρ.f 11) #[.slice none 0 0,.func (.func g) #[] lb] w fun e w'=> ∃v,e= .returned v/\w'.ownsRow w.heap.size (ρ.t 26) 1 v ss.length (ss.map encStr)/\Below w.heap.size w w':=by
 have mixed:=L.mixed;have t0:=L.t0;have a0:=L.a0;have z0:=L.z0;have v0:=L.v0;have t24:=L.t24;have a24:=L.a24;have z24:=L.z24;have v24:=L.v24;have t26:=L.t26;have a26:=L.a26;have z26:=L.z26;have v26:=L.v26
 have u0:=run_underlying L.t0;have u24:=run_underlying L.t24;have u26:=run_underlying L.t26
 have apart:ρ.t 24≠ρ.t 26:=fun e=>by have h:=L.t24;rw[e,L.t26] at h;cases h
 obtain⟨_,_,body⟩:=L.f11
 refine callsIn_of_wp_marks body rfl hf ?_ hro
 simp only[SlBodyZ.n11_ntmps ρ,List.size_toArray,List.length_cons,List.length_nil,Nat.reduceAdd,Nat.reduceSub,Array.replicate_succ,Array.replicate_zero,List.push_toArray,List.append_toArray,List.nil_append,List.cons_append]
 gi_wp2
 refine wpIn_rangeFunc fun fn hfn=> ?_
 rw[hro]
 generalize hA:w.alloc (.cells #[.slice none 0 0] (ρ.t 24))=A
 have sA:A.heap.size=w.heap.size+1:=by rw[←hA];simp
 have bA:Below w.heap.size w A:=by rw[←hA];exact (Below.refl _ w).alloc (Nat.le_refl _) _
 have xA:A.heap[w.heap.size]? =some (.cells #[.slice none 0 0] (ρ.t 24) (0,0)):=by rw[←hA];exact World.alloc_heap_new w _
 generalize hrec:AnyZ.apRec ρ fn (.func (.func g) #[] lb) w.heap.size A.heap.size .ready none=rec
 generalize hB:(A.alloc (.deferred (some []))).alloc (.loop rec)=B
 have oldB: ∀k,k<A.heap.size->B.heap[k]? =A.heap[k]? :=fun k hk=>by rw[←hB];exact (Below.heap_alloc _ _ k (by simp;omega)).trans (Below.heap_alloc _ _ k hk)
 have bB:Below w.heap.size w B:=by rw[←hB];exact (bA.alloc bA.size _).alloc (by have:=bA.size;simp;omega) _
 have dB:B.heap[A.heap.size]? =some (.deferred (some [])):=by rw[←hB];exact (Below.heap_alloc _ _ _ (by simp)).trans (World.alloc_heap_new A _)
 have lB:B.heap[A.heap.size+1]? =some (.loop rec):=by rw[←hB];have:=World.alloc_heap_new (A.alloc (.deferred (some []))) (.loop rec);rwa [World.size_alloc] at this
 have start:AnyZ.ApAt ρ w fn (.func (.func g) #[] lb) w.heap.size (A.heap.size+1) A.heap.size [] B:=
  ⟨⟨_,(oldB _ (by omega)).trans xA,⟨rfl,.inl ⟨rfl,rfl⟩⟩,by simp⟩,by rw[hrec];exact lB,dB,bB⟩
 refine⟨A.heap.size+1,[{target:= .collected A.heap.size,args:= #[]}],B,{target:= .fn (.func g) lb,args:= #[.func (.yield (A.heap.size+1)) #[] #[]]},B,g,#[.func (.yield (A.heap.size+1)) #[] #[]]++lb,B,?_,?_,?_,?_,fun _=>(by omega),?_⟩
 ·rw[←hB,←hrec];exact run_enterLoop_outer _ _ _ _ _
 ·simp[resolve,go_sem]
 ·intro f' h';simp[Target.leads] at h';exact h'▸hg
 ·simp[invoke,go_sem,eg]
 refine (hseq _ (AnyZ.ApAt ρ w fn (.func (.func g) #[] lb) w.heap.size (A.heap.size+1) A.heap.size) B bB (AnyZ.ap_abides ρ _ _ _ _ _ _ _ bB.size) (fun _ _ h=>h.below)
  (fun pre x W h hl=>AnyZ.apYield {L with} F _ w fn hfn _ _ _ _ (by omega) (by omega) (by omega) (Nat.le_refl _) (by omega) ss.length hN hNb pre x W h hl) start).mono ?_
 rintro e C ⟨⟨_,rfl⟩,hC⟩
 obtain⟨v,hv,hrow,_⟩:=hC.box
 have hend:=run_endLoop (P:=P) hC.L (by simp[AnyZ.apRec])
 generalize hD:C.putObj (A.heap.size+1) (.loop {AnyZ.apRec ρ fn (.func (.func g) #[] lb) w.heap.size A.heap.size .ready none with state:= .exhausted})=D at hend
 have rowD:D.ownsRow w.heap.size (ρ.t 26) 1 v ss.length (ss.map encStr):=by rw[←hD];exact w0p hrow hC.L (fun _ h=>by cases h) _
 have boxD:D.heap[w.heap.size]? =some (.cells #[v] (ρ.t 24) (0,0)):=by rw[←hD];exact (World.putObj_heap_other (by omega)).trans hv
 have defD:D.heap[A.heap.size]? =some (.deferred (some [])):=by rw[←hD];exact (World.putObj_heap_other (by omega)).trans hC.K
 have belD:Below w.heap.size w D:=by rw[←hD];exact hC.below.grown (grownBy_putObj_a _ _ _) hC.below.size (fun k h=>by cases h;omega)
 obtain⟨cellD,markD⟩:=cell_of_box_a boxD
 clear hD
 refine⟨none,D,hend,?_⟩
 gi_wp2
 rw[←sA]
 refine⟨by simp,.inl ⟨_,_,rfl,run_takeDeferred defD,?_⟩⟩
 exact⟨_,results_tmp rfl _ _ _,v,rfl,w0p rowD defD (fun _ h=>by cases h) _,belD.grown (grownBy_putObj_a _ _ _) belD.size (fun k h=>by cases h;omega)⟩
end Go.Fl
end
noncomputable section
set_option maxRecDepth 100000
namespace Go.Proofs.YtkbjibhkaddepaaGreatDoor
open Go Go.Proofs Go.RowKit Go.Fl Go.Maps Go.Sort Go.Shelf
attribute [local go_sem] Oper.semAt_some
set_option maxHeartbeats 2000000 in
theorem w73(n:Nat)(hn:1<=n)(w W:World)(l Bs b off cap:Nat)(zs:List (List UInt8))(hreach:zs.length<=140737488355328)(hBs:Bs<w.heap.size)(hb:b<w.heap.size)(J:List (List UInt8)->World->Prop)
  (hJ: ∀pre W1,J pre W1->Below w.heap.size w W1)(hc:w.cell? ⟨Bs,0,none⟩=some (.slice (some ⟨b,off,none⟩) zs.length cap))(hcs: ∀j,j<zs.length->w.cell? ⟨b,off+j,none⟩=some (encStr (zs[j]?.getD [])))
  (hY: ∀pre x W1,J pre W1->pre.length<zs.length->YieldAt Fence.wide (n - 1) Tryz.prog l #[encStr x] W1 fun e W'=>e= .returned (.bool true)/\J (pre++[x]) W'/\KeepsWalks W1 W')(h0:J [] W):
  CallsIn Fence.wide n Tryz.prog 269 #[.func (.yield l) #[] #[],.pointer (some ⟨Bs,0,none⟩)] W fun e W'=>(∃v,e= .returned v)/\J zs W':=by
 have hc0:=((hJ _ _ h0).cell (p:=⟨Bs,0,none⟩) hBs).trans hc
 refine callsIn_of_wp Tryz.func269 rfl trivial ?_ rfl
 simp only[Tryz.ntmps269,List.size_toArray,List.length_cons,List.length_nil,Nat.reduceAdd,Nat.reduceSub,Array.replicate_succ,Array.replicate_zero,List.push_toArray,List.append_toArray,List.nil_append,List.cons_append]
 gi_wp2
 gi_loopw [7] (fun i wr=> ∃k:Nat,k<=zs.length/\i= .int .i64 k/\J (zs.take k) wr) (fun i _=>zs.length - (intOf i).toNat)
 case atStart=>exact⟨0,Nat.zero_le _,rfl,h0⟩
 case round=>
  obtain⟨k,hk,rfl,hJk⟩:=hrel
  by_cases hlt:k<zs.length
  ·have hck:=((hJ _ _ hJk).cell (p:=⟨b,off+k,none⟩) hb).trans (hcs k hlt)
   obtain⟨fn,tmps,assign,body,hy,hR⟩:=hY _ zs[k] wr hJk (by rw[List.length_take];omega)
   gi_wp2
   refine hR.mono ?_
   rintro e W3 ⟨rfl,hJ3,_⟩
   gi_wp2
   go_roundw
   case rel=>exact⟨k+1,by omega,by simp,by rw[List.take_succ_eq_append_getElem hlt];exact hJ3⟩
   case measure=>simp[intOf];omega
  ·obtain rfl:k=zs.length:=by omega
   rw[List.take_length] at hJk
   gi_wp2
   go_end0
   exact⟨⟨_,rfl⟩,hJk⟩
set_option maxHeartbeats 2000000 in
theorem w74(n:Nat)(w W:World)(l Bs cap:Nat)(a:Option Addr)(hBs:Bs<w.heap.size)(J:List (List UInt8)->World->Prop)(hJ: ∀pre W1,J pre W1->Below w.heap.size w W1)(hc:w.cell? ⟨Bs,0,none⟩=some (.slice a 0 cap))(h0:J [] W):
  CallsIn Fence.wide n Tryz.prog 269 #[.func (.yield l) #[] #[],.pointer (some ⟨Bs,0,none⟩)] W fun e W'=>(∃v,e= .returned v)/\J [] W':=by
 have hc0:=((hJ _ _ h0).cell (p:=⟨Bs,0,none⟩) hBs).trans hc
 refine callsIn_of_wp Tryz.func269 rfl trivial ?_ rfl
 simp only[Tryz.ntmps269,List.size_toArray,List.length_cons,List.length_nil,Nat.reduceAdd,Nat.reduceSub,Array.replicate_succ,Array.replicate_zero,List.push_toArray,List.append_toArray,List.nil_append,List.cons_append]
 gi_wp2
 gi_loopw [7] (fun i wr=>i= .int .i64 0/\J [] wr) (fun _ _=>0)
 case atStart=>exact⟨rfl,h0⟩
 case round=>
  obtain⟨rfl,hJs⟩:=hrel
  gi_wp2
  go_end0
  exact⟨⟨_,rfl⟩,hJs⟩
theorem y9n{σ:Hv}{w:World}(Bs:Nat)(v:Value)(l:List ByteArray)(hV:View σ w)(hB:σ Bs=some (.cells #[v] 70 (0,0)))(hr:RSl 1 (REnc Qg) σ v l)(hs:Sml l.length):
  Calls Tryz.prog 296 #[.slice none 0 0,.func (.func 269) #[] #[.pointer (some ⟨Bs,0,none⟩)]] w fun e w1=> ∃v1,e= .returned v1/\Grow [] σ w σ w1/\((vec v1 9 1 l.length (l.flatMap Qg)).ok w1/\ ∀k,(vec v1 9 1 l.length (l.flatMap Qg)).foot=some k->w.heap.size<=k/\σ k=none):=by
 have hBw:=hV _ _ hB
 have hBl:=lt_of_block hBw
 have hBc:w.cell? ⟨Bs,0,none⟩=some v:=by simp[World.cell?,hBw]
 have hlen:(l.map (·.data.toList)).length=l.length:=List.length_map _
 have hgive:v5x Fence.wide 2 Tryz.prog 269 #[.pointer (some ⟨Bs,0,none⟩)] (l.map (·.data.toList)) w:=by
  intro lp J W _ _ hJB hY h0
  obtain⟨a,cap,rfl,h1,h2,hel⟩:=hr
  cases hl0:l with
  |nil=>
   subst hl0
   exact w74 2 w W lp Bs cap a hBl J hJB hBc h0
  |cons x l'=>
   obtain⟨ad,cs,rfl,_,hrow0,hcs0⟩:=hel 0 x (by rw[hl0];rfl)
   have cell0:=(hrow0.row hV) 0 _ (by rw[hcs0];rfl)
   obtain⟨ab,ao,asp⟩:=ad
   have hsp:asp=none:=by
    cases asp with
    |none=>rfl
    |some s=>
     have:=hrow0 0 (.string x) (by rw[hcs0];rfl)
     simp[Hv.cell,Addr.add] at this
     split at this<;>simp at this
   subst hsp
   have hbl:ab<w.heap.size:=by
    have:=hrow0 0 (.string x) (by rw[hcs0];rfl)
    simp only[W4] at this
    unfold Hv.cell at this
    simp only at this
    cases hq:σ ab with
    |none=>rw[hq] at this;simp at this
    |some o=>exact lt_of_block (hV _ _ hq)
   rw[←hl0]
   have hcome:=w73 2 (by omega) w W lp Bs ab ao cap (l.map (·.data.toList)) (by rw[hlen];exact h2) hBl hbl J hJB (by rw[hlen];exact hBc) (fun j hj=>by
    rw[hlen] at hj
    obtain⟨y,hy⟩:=getq hj
    obtain⟨ad',cs',had,_,hrow,hcs⟩:=hel j y hy
    cases had
    have hc:=(hrow.row hV) 0 (.string y) (by rw[hcs];rfl)
    rw[R2,W4] at hc
    rw[List.getElem?_map,hy]
    simpa [encStr] using hc) hY h0
   exact hcome
 refine (callsIn_wide (n:=3)).1 ((j6u (ρ:=Tryz.sorted221_ren) {Tryz.sorted221 with} Fence.wide 3 trivial rfl (by omega) 269 _ trivial (enters_of Tryz.func269 (by kernel_rfl) rfl) (l.map (·.data.toList)) (by rw[hlen];exact (q35 hs (show 16<=32768 by omega)).2) (by rw[hlen];exact (q35 hs (by omega)).1) w hgive).mono ?_)
 rintro e w1 ⟨v1,rfl,hown,hbel⟩
 rw[hlen] at hown
 have hfl:(l.map (·.data.toList)).map encStr=l.flatMap Qg:=(Hq l).symm
 rw[hfl] at hown
 have hsame: ∀b,b<w.heap.size->w1.heap[b]? =w.heap[b]? :=fun b hb=>hbel.block b hb
 refine⟨v1,rfl,⟨⟨hbel.os,hbel.tape,hbel.output,hbel.size,fun k hk _=>hbel.block k hk⟩,fun b o hb=>(hbel.block b (lt_of_block (hV b o hb))).trans (hV b o hb),.refl _,fun _ _ _=>rfl⟩,?_,?_⟩
 ·exact⟨hown.1,hown.2.imp id fun ⟨g,cap,cur,e1,_,e3⟩=>⟨g,cap,cur,e1,Nat.zero_le _,e3⟩⟩
 ·intro k hk
  have hge:w.heap.size<=k:=(hown.lt k hk).1
  refine⟨hge,?_⟩
  cases hq:σ k with
  |none=>rfl
  |some o=>have:=lt_of_block (hV k o hq);omega
end Go.Proofs.YtkbjibhkaddepaaGreatDoor
end
noncomputable section
set_option maxRecDepth 100000
namespace Go.Proofs.YtkbjibhkaddepaaGreatDoor
open Go Go.Proofs Go.RowKit Go.Fl
set_option maxHeartbeats 2000000 in
theorem q20{σ:Hv}{w:World}(s_p:(List ByteArray))(v1:Value){K:(List ByteArray)->Prop}(hV:View σ w)(hr1:RSl 1 (REnc Qg) σ v1 s_p)(hP:Zd s_p K):
    Calls Tryz.prog 143 #[v1] w (fun e w1=> ∃(r1:(List ByteArray)) (v2:Value),e= .returned v2/\St ⟨w,σ,[]⟩ w1 σ [vec v2 9 1 r1.length ((r1).flatMap Qg)]/\Sml r1.length/\K r1):=by
 unfold Zd at hP
 obtain⟨a1,cap1,rfl⟩:=hr1.shape
 refine enter Tryz.func143 rfl rfl rfl ?_
 have hS:=St.start hV
 refine Qs (Qt (v:=(.slice none 0 0)) rfl (wpList_nil (Qm (wp_seq (Qs (Q6 (v:=(.slice a1 s_p.length cap1)) rfl ?_))))))
 replace hP:=hP a1.isNone (RSl.isNil hr1)
 obtain⟨r1_,hn1⟩: ∃r:Bool,a1.isNone=r:=⟨_,rfl⟩
 rw[hn1] at hP
 refine v8i Tryz.underlying70 rfl hn1 (wpList_nil (Qm ?_))
 refine if_b rfl (fun ht1=> ?_) (fun ht1=> ?_)
 ·
  replace hP:=hP.1 ht1
  refine Qs (Qt (v:=(.slice none 0 0)) rfl (wpList_nil (Qm (wp_ret (Rj (ret1 rfl (show ev _ _ _=(.slice none 0 0) from rfl) ?_))))))
  have hS1:=hS.addNil 9 1
  exact⟨[],(.slice none 0 0),rfl,(St.back hS1 (Sub.refl _)),(by simp[Sml]),hP⟩
 ·
  replace hP:=hP.2 (by first|(rw[ht1];exact Bool.false_ne_true)|simp[ht1])
  refine wp_skip (Qm (Qs (j4s (cs:=[]) (e:=9) hS (fun _=>by kernel_rfl) ?_)))
  intro b1 w1 hS2
  refine Q6 (v:=(.slice a1 s_p.length cap1)) rfl ?_
  have hS3:=hS2.asVec (i:=0) (ms':=[vec (.slice (some ⟨b1,0,none⟩) 0 0) 9 1 0 []]) (size:=1) rfl rfl (by unfold maxLen;omega) rfl
  obtain⟨hsm1,hP⟩:=hP
  refine y6d (enc:=Qg) (l:=s_p) (Ms:=fun v3=>[vec v3 9 1 s_p.length ((s_p).flatMap Qg)]) (k':=s_p.length) (xs':=(s_p).flatMap Qg) Tryz.underlying70 Tryz.type9 rfl rfl (bytes:=16) rfl rfl (Nat.succ_pos _) hS3 rfl (q:=0) rfl rfl hr1 hS3.view q34 v32 hsm1 (by omega) (by first|rfl|exact List.length_append.symm|simp) (List.nil_append _) (fun _=>rfl) ?_
  intro v3 w2 ho1 hS4
  refine Qt (v:=v3) rfl (wpList_nil (Qm (wp_ret (ret1 rfl (show ev _ _ _=v3 from rfl) ?_))))
  exact⟨s_p,v3,rfl,(St.back hS4 (Sub.refl _)),hsm1,hP⟩
set_option maxHeartbeats 2000000 in
theorem q21{σ:Hv}{w:World}(s_p:(List ByteArray))(v_p:ByteArray)(v1:Value){K:Int->Prop}(hV:View σ w)(hr1:RSl 1 (REnc Qg) σ v1 s_p)(hP:Ze s_p v_p K):
    Calls Tryz.prog 79 #[v1,(.string v_p)] w (fun e w1=> ∃(r1:Int),e= .returned (.int .i64 r1)/\Grow [] σ w σ w1/\K r1):=by
 unfold Ze at hP
 obtain⟨a1,cap1,rfl⟩:=hr1.shape
 refine enter Tryz.func79 rfl rfl rfl ?_
 have hS:=St.start hV
 refine Qs (Qt (v:=(.int .i64 (0:Int))) rfl (wpList_nil (Qm (wp_seq (Qs (Q6 (v:=(.slice a1 s_p.length cap1)) rfl (z04 rfl Tryz.underlying70 ?_)))))))
 have hlen1:=RSl.len63 hr1
 replace hP:=hP hlen1
 refine Q6 (v:=(.int .i64 (0:Int))) rfl (wpList_nil (Qm (wp_block ?_)))
 refine w07 (fun k_2 f z=> ∃(σ1:Hv) (g:Fr),f=(upd (upd (upd (upd g 0 (.slice a1 s_p.length cap1)) 1 (.string v_p)) 7 (.int .i64 ((s_p.length:Nat):Int))) 8 (.int .i64 ((k_2:Nat):Int)))/\St ⟨w,σ,[]⟩ z σ1 []/\Sub σ σ1) hP ⟨σ,_,(Zs rfl (Zs rfl (Zs rfl (Zs rfl rfl)))),hS,(Sub.refl _)⟩ ?_
 clear hP
 rintro k_2 Y1 hP f w1 ⟨σ1,g,rfl,hS1,hsub1⟩
 refine Qs (v3r (r:=(decide (((k_2:Nat):Int)<((s_p.length:Nat):Int)))) rfl rfl rfl (wpList_nil (Qm (wp_seq ?_))))
 refine if_d (((k_2:Nat):Int)<((s_p.length:Nat):Int)) rfl (fun ht1=> ?_) (fun ht1=> ?_)
 ·
  replace hP:=hP.1 ht1
  refine wp_skip (Qm (wp_seq (wp_block (Qs (Q6 (v:=(.int .i64 ((k_2:Nat):Int))) rfl (Qt (v:=(.int .i64 ((k_2:Nat):Int))) rfl (wpList_nil (Qm (Qs (Q6 (v:=(.string v_p)) rfl (Q6 (v:=(.slice a1 s_p.length cap1)) rfl (Q6 (v:=(.int .i64 ((k_2:Nat):Int))) rfl ?_))))))))))))
  obtain⟨x1_,hx1⟩:=getq (l:=s_p) (k:=k_2) (by have:=ht1;omega)
  replace hP:=hP x1_ hx1
  obtain⟨ad1,cs1,ha1,hl1,hr2,hR1,hlt1⟩:=RSl.at hr1 hx1
  cases hR1
  refine Ho (k:=k_2) (a':=(ad1.add (k_2*1))) (congrArg (fun z=>Value.slice z _ _) ha1) rfl rfl hlt1 Tryz.underlying70 Tryz.sizeOf9 rfl (q6r (v:=(.string x1_)) rfl Tryz.isAgg9 (hr2.cell (View.of hsub1 hS1.view) 0 rfl rfl) (y55 (r:=(decide (v_p=x1_))) rfl rfl rfl (wpList_nil (Qm ?_))))
  refine if_d (v_p=x1_) rfl (fun ht2=> ?_) (fun ht2=> ?_)
  ·
   replace hP:=hP.1 ht2
   refine Qs (Q6 (v:=(.int .i64 ((k_2:Nat):Int))) rfl (Qt (v:=(.int .i64 ((k_2:Nat):Int))) rfl (wpList_nil (Qm (wp_ret (j3u (Rj (Rj (j3u (Rj (ret1 rfl (show ev _ _ _=(.int .i64 ((k_2:Nat):Int)) from rfl) ?_)))))))))))
   exact⟨((k_2:Nat):Int),rfl,hS1.done.forget,hP⟩
  ·
   replace hP:=hP.2 ht2
   refine wp_skip (v1b (Qm (j1c (v1a (r:=((k_2+1:Nat):Int)) rfl rfl (nw (by omega) (by omega) (by have:=hlen1;omega)) (Q6 (v:=(.int .i64 ((k_2+1:Nat):Int))) rfl (wpList_nil (Qm ?_)))))))
   exact⟨k_2+1,_,rfl,hP,σ1,_,(Zs rfl (Zs rfl (Zs rfl (Zs rfl rfl)))),hS1,hsub1⟩
 ·
  replace hP:=hP.2 ht1
  refine wp_exit (z6w (z6w (j5k (Qm (Qs (Qt (v:=(.int .i64 (-1:Int))) rfl (wpList_nil (Qm (wp_ret (ret1 rfl (show ev _ _ _=(.int .i64 (-1:Int)) from rfl) ?_))))))))))
  exact⟨(-1:Int),rfl,hS1.done.forget,hP⟩
set_option maxHeartbeats 2000000 in
theorem Wy{σ:Hv}{w:World}(s_p:(List ByteArray))(v_p:ByteArray)(v1:Value){K:Bool->Prop}(hV:View σ w)(hr1:RSl 1 (REnc Qg) σ v1 s_p)(hP:Qw s_p v_p K):
    Calls Tryz.prog 45 #[v1,(.string v_p)] w (fun e w1=> ∃(r1:Bool),e= .returned (.bool (r1))/\Grow [] σ w σ w1/\K r1):=by
 unfold Qw at hP
 obtain⟨a1,cap1,rfl⟩:=hr1.shape
 refine enter Tryz.func45 rfl rfl rfl ?_
 have hS:=St.start hV
 refine Qs (Qt (v:=(.bool false)) rfl (wpList_nil (Qm (Qs (Q6 (v:=(.slice a1 s_p.length cap1)) rfl (Q6 (v:=(.string v_p)) rfl ?_))))))
 obtain⟨Y1,hK1,hc1⟩:=hP
 refine q8i (args:=[(.slice a1 s_p.length cap1),(.string v_p)]) rfl Tryz.call79 (Calls.mono (q21 s_p v_p (.slice a1 s_p.length cap1) hS.view hr1 hc1) ?_)
 rintro _ w1 ⟨r1_,rfl,hg1,hY1⟩
 refine⟨_,rfl,?_⟩
 have hS1:=hS.grow hg1
 replace hP:=hK1 r1_ hY1
 refine y54 (r:=(decide ((0:Int)<=r1_))) rfl rfl rfl (Qt (v:=(.bool (decide ((0:Int)<=r1_)))) rfl (wpList_nil (Qm (wp_ret (ret1 rfl (show ev _ _ _=(.bool (decide ((0:Int)<=r1_))) from rfl) ?_)))))
 exact⟨(decide ((0:Int)<=r1_)),rfl,hS1.done.forget,hP⟩
set_option maxHeartbeats 2000000 in
theorem w_graph_Order{σ:Hv}{w:World}(nodes_p:(List ByteArray))(edges_p:(List (ByteArray×ByteArray)))(v1:Value)(v2:Value){K:(List ByteArray)->Int->Prop}(hV:View σ w)(hr1:RSl 1 (REnc Qg) σ v1 nodes_p)(hr2:RSl 2 (REnc y6e) σ v2 edges_p)(hP:P_graph_Order nodes_p edges_p K):
    Calls Tryz.prog 178 #[v1,v2] w (fun e w1=> ∃(r1:(List ByteArray)) (r2:Int) (v3:Value),e= .returned (.tuple #[v3,(.int .i64 r2)])/\St ⟨w,σ,[]⟩ w1 σ [vec v3 9 1 r1.length ((r1).flatMap Qg)]/\Sml r1.length/\K r1 r2):=by
 unfold P_graph_Order at hP
 obtain⟨a1,cap1,rfl⟩:=hr1.shape
 obtain⟨a2,cap2,rfl⟩:=hr2.shape
 refine enter Tryz.func178 rfl rfl rfl ?_
 have hS:=St.start hV
 refine Qs (Qt (v:=(.slice none 0 0)) rfl (Qt (v:=(.int .i64 (0:Int))) rfl (wpList_nil (Qm (Qs (Q6 (v:=(.slice a1 nodes_p.length cap1)) rfl (q8i (args:=[(.slice a1 nodes_p.length cap1)]) rfl Tryz.call222 ?_)))))))
 refine enter Tryz.func222 rfl rfl rfl ?_
 refine Qs (y8u (cs:=[(.slice a1 nodes_p.length cap1)]) hS rfl rfl ?_)
 intro b1 w1 hS1
 refine Qt (v:= .nilFunc) rfl (wpList_nil (Qm (Qs (j1d (la:=[]) (lb:=[(.pointer (some ⟨b1,0,none⟩))]) rfl rfl (Qt (v:=(.func (.func 269) #[] #[(.pointer (some ⟨b1,0,none⟩))])) rfl (wpList_nil (Qm (wp_ret (ret1 rfl (show ev _ _ _=(.func (.func 269) #[] #[(.pointer (some ⟨b1,0,none⟩))]) from rfl) ?_)))))))))
 refine⟨_,rfl,?_⟩
 refine q8i (args:=[(.func (.func 269) #[] #[(.pointer (some ⟨b1,0,none⟩))])]) rfl Tryz.call221 ?_
 refine enter Tryz.func221 rfl rfl rfl ?_
 refine Qs (Qt (v:=(.slice none 0 0)) rfl (wpList_nil (Qm (Qs (Q6 (v:=(.func (.func 269) #[] #[(.pointer (some ⟨b1,0,none⟩))])) rfl (q8i (args:=[(.func (.func 269) #[] #[(.pointer (some ⟨b1,0,none⟩))])]) rfl Tryz.call268 ?_))))))
 refine enter Tryz.func268 rfl rfl rfl ?_
 refine Qs (Qt (v:=(.slice none 0 0)) rfl (wpList_nil (Qm (Qs (Q6 (v:=(.func (.func 269) #[] #[(.pointer (some ⟨b1,0,none⟩))])) rfl ?_)))))
 obtain⟨σ1,hS2,hsub1,hfr1⟩:=hS1.freeze' (i:=0) rfl rfl
 have hB1:σ1 b1=some (.cells #[(.slice a1 nodes_p.length cap1)] 70 (0,0)):=(hfr1 _ rfl).trans (hS1.get (i:=0) rfl)
 obtain⟨hsm1,hP⟩:=hP
 refine q8i (args:=[(.slice none 0 0),(.func (.func 269) #[] #[(.pointer (some ⟨b1,0,none⟩))])]) rfl Tryz.call296 (Calls.mono (y9n b1 (.slice a1 nodes_p.length cap1) nodes_p hS2.view hB1 (RSl.menc hsub1 hr1) hsm1) ?_)
 rintro _ w2 ⟨v4,rfl,hg1,ho1⟩
 refine⟨_,rfl,?_⟩
 have hS3:=hS2.growAdd hg1 (o:=vec v4 9 1 nodes_p.length ((nodes_p).flatMap Qg)) ho1
 refine Qt (v:=v4) rfl (wpList_nil (Qm (wp_ret (ret1 rfl (show ev _ _ _=v4 from rfl) ?_))))
 refine⟨_,rfl,?_⟩
 refine Qt (v:=v4) rfl (wpList_nil (Qm (Qs (Q6 (v:=v4) rfl ?_))))
 refine q8i (args:=[v4]) rfl Tryz.call137 (Calls.mono (w9t Tryz.slices_Sort_string Tryz.slices_Sort_string_none hS3.view (hS3.get (i:=0) rfl) rfl (fun b hb=>hS3.off _ (List.mem_of_getElem? (i:=0) rfl) b hb) (by have:=hsm1;unfold Sml at this;omega)) ?_)
 rintro _ w3 ⟨rfl,hg2,ho2⟩
 refine⟨_,rfl,?_⟩
 have hS4:=hS3.growV (i:=0) (o':=vec v4 9 1 nodes_p.length ((srt nodes_p).flatMap Qg)) rfl hg2 rfl ho2 (ms':=[vec v4 9 1 nodes_p.length ((srt nodes_p).flatMap Qg)]) rfl
 have hS5:=hS4.re (ms':=[vec v4 9 1 ((srt nodes_p).length) ((srt nodes_p).flatMap Qg)]) (by simp only[Jn])
 refine wpList_nil (Qm (Qs (Q6 (v:=v4) rfl (Qt (v:=v4) rfl (wpList_nil (Qm (wp_ret (ret1 rfl (show ev _ _ _=v4 from rfl) ?_))))))))
 refine⟨_,rfl,?_⟩
 refine Qt (v:=v4) rfl (wpList_nil (Qm (wp_seq (Qs (Q6 (v:=v4) rfl ?_)))))
 obtain⟨σ2,hS6,hsub2,hr4⟩:=hS5.peek (i:=0) rfl q34 (show Sml (srt nodes_p).length by rw[Jn];exact hsm1)
 obtain⟨Y1,hK1,hc1⟩:=hP
 refine q8i (args:=[v4]) rfl Tryz.call143 (Calls.mono (q20 (srt nodes_p) v4 hS6.view hr4 hc1) ?_)
 rintro _ w4 ⟨r1_,v5,rfl,hg3,hl1,hY1⟩
 refine⟨_,rfl,?_⟩
 have hS7:=St.callM (ins:=[]) (rest:=[vec v4 9 1 ((srt nodes_p).length) ((srt nodes_p).flatMap Qg)]) (ms':=[vec v5 9 1 r1_.length ((r1_).flatMap Qg),vec v4 9 1 ((srt nodes_p).length) ((srt nodes_p).flatMap Qg)]) hS5 (St.back hg3 hsub2) rfl
 replace hP:=hK1 r1_ hY1
 obtain⟨hsm2,hP⟩:=hP
 refine q8i (args:=[v5]) rfl Tryz.call220 (Calls.mono (j5s Tryz.slices_Compact_string Tryz.slices_Compact_string_empty hS7.view (hS7.get (i:=0) rfl) rfl (fun b hb=>hS7.off _ (List.mem_of_getElem? (i:=0) rfl) b hb) (by have:=hl1;unfold Sml at this;omega)) ?_)
 rintro _ w5 ⟨v6,rfl,hf1,hg4,ho3⟩
 refine⟨_,rfl,?_⟩
 have ho4:=Bm ho3
 have hS8:=hS7.growV (i:=0) (o':=vec v6 9 1 ((cpt r1_).length) ((cpt r1_).flatMap Qg)) rfl hg4 hf1 ho3 (ms':=[vec v6 9 1 ((cpt r1_).length) ((cpt r1_).flatMap Qg),vec v4 9 1 ((srt nodes_p).length) ((srt nodes_p).flatMap Qg)]) rfl
 refine z84 hS8 rfl (i:=0) rfl Tryz.underlying70 ?_
 have hlen1:(cpt r1_).length<=9223372036854775807:=by have:=hsm2;unfold Sml at this;omega
 replace hP:=hP hlen1
 refine Q6 (v:=v4) rfl (z84 hS8 rfl (i:=1) rfl Tryz.underlying70 ?_)
 have hlen2:(srt nodes_p).length<=9223372036854775807:=by have:=(show Sml (srt nodes_p).length by rw[Jn];exact hsm1);unfold Sml at this;omega
 replace hP:=hP hlen2
 refine y8s (r:=(!decide ((((cpt r1_).length:Nat):Int)=(((srt nodes_p).length:Nat):Int)))) rfl rfl rfl (wpList_nil (Qm ?_))
 refine y56 ((((cpt r1_).length:Nat):Int)=(((srt nodes_p).length:Nat):Int)) rfl (fun ht1=> ?_) (fun ht1=> ?_)
 ·
  replace hP:=hP.2 ht1
  refine Qs (Qt (v:=(.slice none 0 0)) rfl (Qt (v:=(.int .i64 (10:Int))) rfl (wpList_nil (Qm (wp_ret (Rj (ret2 rfl (show ev _ _ _=(.slice none 0 0) from rfl) (show ev _ _ _=(.int .i64 (10:Int)) from rfl) ?_)))))))
  have hS9:=hS8.addNil 9 1
  exact⟨[],(10:Int),(.slice none 0 0),rfl,(St.back (hS9.keep 1 (ms':=[vec (.slice none 0 0) 9 1 0 []]) rfl) (Sub.refl _)),(by simp[Sml]),hP⟩
 ·
  replace hP:=hP.1 ht1
  refine wp_skip (Qm (Qs (v1f 9 1 Qg hS8 ?_)))
  intro b2 w6 hS10
  refine w7a (cs:=[(.map none)]) hS10 Tryz.zeroValue313 rfl ?_
  intro b3 w7 hS11
  refine w69 (T:=313) (vs:=[(.map (some b2))]) (cs':=[(.map (some b2))]) (ms':=(blk b3 313 [(.map (some b2))]::smap b2 (asl [])::vec v6 9 1 ((cpt r1_).length) ((cpt r1_).flatMap Qg)::vec v4 9 1 ((srt nodes_p).length) ((srt nodes_p).flatMap Qg)::Gx 9 1 Qg [])) (i:=0) hS11 rfl rfl rfl Tryz.sizeOf313 rfl (ones rfl) rfl (Nat.le_of_ble_eq_true rfl) rfl rfl ?_
  intro w8 hS12
  refine wpList_nil (Qm (wp_seq (Qs (Q6 (v:=(.slice a2 edges_p.length cap2)) rfl (z04 rfl Tryz.underlying177 ?_)))))
  have hlen3:=RSl.len63 hr2
  replace hP:=hP hlen3
  refine Q6 (v:=(.int .i64 (0:Int))) rfl (wpList_nil (Qm (wp_block ?_)))
  have hS13:=hS12.front 3 rfl (ms':=(vec v4 9 1 ((srt nodes_p).length) ((srt nodes_p).flatMap Qg)::blk b3 313 [(.map (some b2))]::smap b2 (asl [])::vec v6 9 1 ((cpt r1_).length) ((cpt r1_).flatMap Qg)::Gx 9 1 Qg [])) rfl
  have hS14:=hS13.front 3 rfl (ms':=(vec v6 9 1 ((cpt r1_).length) ((cpt r1_).flatMap Qg)::vec v4 9 1 ((srt nodes_p).length) ((srt nodes_p).flatMap Qg)::blk b3 313 [(.map (some b2))]::smap b2 (asl [])::Gx 9 1 Qg [])) rfl
  have hS15:=hS14.front 2 rfl (ms':=(blk b3 313 [(.map (some b2))]::vec v6 9 1 ((cpt r1_).length) ((cpt r1_).flatMap Qg)::vec v4 9 1 ((srt nodes_p).length) ((srt nodes_p).flatMap Qg)::smap b2 (asl [])::Gx 9 1 Qg [])) rfl
  have hS16:=hS15.front 3 rfl (ms':=(smap b2 (asl [])::blk b3 313 [(.map (some b2))]::vec v6 9 1 ((cpt r1_).length) ((cpt r1_).flatMap Qg)::vec v4 9 1 ((srt nodes_p).length) ((srt nodes_p).flatMap Qg)::Gx 9 1 Qg [])) rfl
  refine v8f (fun k_3 F_2 f z=> ∃(es2:EL ByteArray) (σ3:Hv) (g:Fr),f=(upd (upd (upd (upd (upd g 6 v4) 7 (.pointer (some ⟨b3,0,none⟩))) 24 (.slice a2 edges_p.length cap2)) 25 (.int .i64 ((edges_p.length:Nat):Int))) 26 (.int .i64 ((k_3:Nat):Int)))/\St ⟨w,σ,[]⟩ z σ3 (smap b2 (asl es2)::blk b3 313 [(.map (some b2))]::vec v6 9 1 ((cpt r1_).length) ((cpt r1_).flatMap Qg)::vec v4 9 1 ((srt nodes_p).length) ((srt nodes_p).flatMap Qg)::Gx 9 1 Qg es2)/\Sub σ1 σ3/\ELF es2 F_2) hP ⟨[],σ1,_,(Zs rfl (Zs rfl (Zs rfl (Zs rfl (Zs rfl rfl))))),hS16,(Sub.refl _),ELF.nil⟩ ?_
  clear hP
  rintro k_3 F_2 Y2 hP f w9 ⟨es2,σ3,g,rfl,hS17,hsub3,hF2⟩
  refine Qs (v3r (r:=(decide (((k_3:Nat):Int)<((edges_p.length:Nat):Int)))) rfl rfl rfl (wpList_nil (Qm (wp_seq ?_))))
  refine if_d (((k_3:Nat):Int)<((edges_p.length:Nat):Int)) rfl (fun ht2=> ?_) (fun ht2=> ?_)
  ·
   replace hP:=hP.1 ht2
   refine wp_skip (Qm (wp_seq (wp_block (Qs ?_))))
   obtain⟨x1_,hx1⟩:=getq (l:=edges_p) (k:=k_3) (by have:=ht2;omega)
   replace hP:=hP x1_ hx1
   obtain⟨ad1,cs1,ha1,hl2,hr6,hR1,hlt1⟩:=RSl.at hr2 hx1
   cases hR1
   refine Ho (k:=k_3) (a':=(ad1.add (k_3*2))) (congrArg (fun z=>Value.slice z _ _) ha1) rfl rfl hlt1 Tryz.underlying177 Tryz.sizeOf238 rfl (y2a (cs:=[(.string x1_.1),(.string x1_.2)]) rfl Tryz.isAgg238 Tryz.sizeOf238 rfl (hr6.row (View.of (Sub.trans hsub1 hsub3) hS17.view)) (w7a (cs:=[(.string (⟨#[]⟩:ByteArray)),(.string (⟨#[]⟩:ByteArray))]) hS17 Tryz.zeroValue238 rfl ?_))
   intro b4 w10 hS18
   refine w69 (T:=238) (vs:=[(.string x1_.1),(.string x1_.2)]) (cs':=[(.string x1_.1),(.string x1_.2)]) (ms':=(blk b4 238 [(.string x1_.1),(.string x1_.2)]::smap b2 (asl es2)::blk b3 313 [(.map (some b2))]::vec v6 9 1 ((cpt r1_).length) ((cpt r1_).flatMap Qg)::vec v4 9 1 ((srt nodes_p).length) ((srt nodes_p).flatMap Qg)::Gx 9 1 Qg es2)) (i:=0) hS18 rfl rfl rfl Tryz.sizeOf238 rfl (ones rfl) rfl (Nat.le_of_ble_eq_true rfl) rfl rfl ?_
   intro w11 hS19
   refine wpList_nil (Qm (wp_seq (Qs (Q6 (v:=v4) rfl (j5i (a':=⟨b4,0,none⟩) rfl Tryz.underlying238 rfl Tryz.sizeOf9 rfl (q6r (v:=(.string x1_.1)) rfl Tryz.isAgg9 (hS19.cell (i:=0) rfl rfl) ?_))))))
   obtain⟨σ4,hS20,hsub4,hr7⟩:=hS19.peek (i:=4) rfl q34 (show Sml (srt nodes_p).length by rw[Jn];exact hsm1)
   obtain⟨Y3,hK2,hc2⟩:=hP
   refine q8i (args:=[v4,(.string x1_.1)]) rfl Tryz.call45 (Calls.mono (Wy (srt nodes_p) x1_.1 v4 hS20.view hr7 hc2) ?_)
   rintro _ w12 ⟨r2_,rfl,hg5,hY2⟩
   refine⟨_,rfl,?_⟩
   have hg5b:=hg5.back hsub4
   have hS21:=hS19.grow hg5b
   replace hP:=hK2 r2_ hY2
   refine v79 (r:=(!r2_)) rfl rfl ?_
   rcases Bool.eq_false_or_eq_true (r2_) with hb1|hb1
   ·
    replace hP:=hP.1 hb1
    refine Q6 (v:=(.bool false)) (congrArg Value.bool (congrArg Bool.not hb1)) (o_on rfl rfl (Q6 (v:=v4) rfl (o_on rfl rfl (j5i (a':=⟨b4,1,none⟩) rfl Tryz.underlying238 rfl Tryz.sizeOf9 rfl (o_on rfl rfl (q6r (v:=(.string x1_.2)) rfl Tryz.isAgg9 (hS21.cell (i:=0) rfl rfl) (o_on rfl rfl ?_)))))))
    obtain⟨σ5,hS22,hsub5,hr8⟩:=hS21.peek (i:=4) rfl q34 (show Sml (srt nodes_p).length by rw[Jn];exact hsm1)
    obtain⟨Y4,hK3,hc3⟩:=hP
    refine q8i (args:=[v4,(.string x1_.2)]) rfl Tryz.call45 (Calls.mono (Wy (srt nodes_p) x1_.2 v4 hS22.view hr8 hc3) ?_)
    rintro _ w13 ⟨r3_,rfl,hg6,hY3⟩
    refine⟨_,rfl,?_⟩
    have hg6b:=hg6.back hsub5
    have hS23:=hS21.grow hg6b
    replace hP:=hK3 r3_ hY3
    refine o_on rfl rfl (v79 (r:=(!r3_)) rfl rfl (v77 (v:=(.bool (!r3_))) rfl rfl (wpList_nil (Qm ?_))))
    refine y57 rfl (fun ht3=> ?_) (fun ht3=> ?_)
    ·
     replace hP:=hP.2 (by first|(rw[ht3];exact Bool.false_ne_true)|simp[ht3])
     refine Qs (Qt (v:=(.slice none 0 0)) rfl (Qt (v:=(.int .i64 (11:Int))) rfl (wpList_nil (Qm (wp_ret (Rj (j3u (Rj (Rj (j3u (Rj (ret2 rfl (show ev _ _ _=(.slice none 0 0) from rfl) (show ev _ _ _=(.int .i64 (11:Int)) from rfl) ?_))))))))))))
     have hS24:=hS23.addNil 9 1
     exact⟨[],(11:Int),(.slice none 0 0),rfl,(St.back (hS24.keep 1 (ms':=[vec (.slice none 0 0) 9 1 0 []]) rfl) (Sub.refl _)),(by simp[Sml]),hP⟩
    ·
     replace hP:=hP.1 ht3
     refine wp_skip (Qm (dr (fun z=>St ⟨w,σ,[]⟩ z σ3 [blk b4 238 [(.string x1_.1),(.string x1_.2)],blk b3 313 [(.map (some b2))],vec v6 9 1 ((cpt r1_).length) ((cpt r1_).flatMap Qg),vec v4 9 1 ((srt nodes_p).length) ((srt nodes_p).flatMap Qg)]) (by kernel_rfl) rfl ?_))
     have hS25:=hS23.drew
     refine dt 0 1 (v:=(.map (some b2))) (by kernel_rfl) rfl rfl (fun _ _ _ h=>h) (hS25.sublist (.cons_cons _ (.cons _ (.cons_cons _ (.cons_cons _ (.cons_cons _ (List.nil_sublist _))))))) (fun _ hJ _ hK=>q6r (v:=(.map (some b2))) rfl Tryz.isAgg313 (hJ.cell (i:=1) rfl rfl) ⟨rfl,hK⟩) (dt 1 3 (v:=(.pointer (some ⟨b4,0,none⟩))) (by kernel_rfl) rfl rfl (fun _ _ _ h=>h) (hS25.sublist (.cons_cons _ (.cons _ (.cons_cons _ (.cons_cons _ (.cons_cons _ (List.nil_sublist _))))))) (fun _ _ _ hK=>j5i (a':=⟨b4,0,none⟩) rfl Tryz.underlying238 rfl Tryz.sizeOf9 rfl ⟨rfl,hK⟩) (dt 2 7 (v:=(.string x1_.1)) (by kernel_rfl) rfl rfl (fun _ _ _ h=>h) (hS25.sublist (.cons_cons _ (.cons _ (.cons_cons _ (.cons_cons _ (.cons_cons _ (List.nil_sublist _))))))) (fun _ hJ _ hK=>q6r (v:=(.string x1_.1)) rfl Tryz.isAgg9 (hJ.cell (i:=0) rfl rfl) ⟨rfl,hK⟩) (dt 3 15 (v:=(.map (some b2))) (by kernel_rfl) rfl rfl (fun _ _ _ h=>h) (hS25.sublist (.cons_cons _ (.cons _ (.cons_cons _ (.cons_cons _ (.cons_cons _ (List.nil_sublist _))))))) (fun _ hJ _ hK=>q6r (v:=(.map (some b2))) rfl Tryz.isAgg313 (hJ.cell (i:=1) rfl rfl) ⟨rfl,hK⟩) (dt 4 31 (v:=(.pointer (some ⟨b4,0,none⟩))) (by kernel_rfl) rfl rfl (fun _ _ _ h=>h) (hS25.sublist (.cons_cons _ (.cons _ (.cons_cons _ (.cons_cons _ (.cons_cons _ (List.nil_sublist _))))))) (fun _ _ _ hK=>j5i (a':=⟨b4,0,none⟩) rfl Tryz.underlying238 rfl Tryz.sizeOf9 rfl ⟨rfl,hK⟩) (dt 5 63 (v:=(.string x1_.1)) (by kernel_rfl) rfl rfl (fun _ _ _ h=>h) (hS25.sublist (.cons_cons _ (.cons _ (.cons_cons _ (.cons_cons _ (.cons_cons _ (List.nil_sublist _))))))) (fun _ hJ _ hK=>q6r (v:=(.string x1_.1)) rfl Tryz.isAgg9 (hJ.cell (i:=0) rfl rfl) ⟨rfl,hK⟩) (dt 7 191 (v:=(.pointer (some ⟨b4,1,none⟩))) (by kernel_rfl) rfl rfl (fun _ _ _ h=>h) (hS25.sublist (.cons_cons _ (.cons _ (.cons_cons _ (.cons_cons _ (.cons_cons _ (List.nil_sublist _))))))) (fun _ _ _ hK=>j5i (a':=⟨b4,1,none⟩) rfl Tryz.underlying238 rfl Tryz.sizeOf9 rfl ⟨rfl,hK⟩) (dt 8 447 (v:=(.string x1_.2)) (by kernel_rfl) rfl rfl (fun _ _ _ h=>h) (hS25.sublist (.cons_cons _ (.cons _ (.cons_cons _ (.cons_cons _ (.cons_cons _ (List.nil_sublist _))))))) (fun _ hJ _ hK=>q6r (v:=(.string x1_.2)) rfl Tryz.isAgg9 (hJ.cell (i:=0) rfl rfl) ⟨rfl,hK⟩) ?_)))))))
     refine d2 6 9 511 959 (by kernel_rfl) rfl rfl rfl rfl ?_ ?_
     ·
      obtain⟨v7,hv1⟩: ∃v,(asl es2 x1_.1).getD (.slice none 0 0)=v:=⟨_,rfl⟩
      refine v30 (i:=1) (v:=v7) hS25 rfl rfl rfl Tryz.underlying313 Tryz.underlying9 Tryz.zeroValue70 hv1 (wpList_nil ?_)
      refine⟨rfl,(hS25.sublist (.cons_cons _ (.cons _ (.cons_cons _ (.cons_cons _ (.cons_cons _ (List.nil_sublist _))))))),?_⟩
      refine d1 9 1023 (by kernel_rfl) rfl (j4s (cs:=[(.string x1_.2)]) (e:=9) hS25 (fun _=>by kernel_rfl) ?_)
      intro b5 w14 hS26
      refine wpList_nil ?_
      refine⟨rfl,(hS26.sublist (.cons _ (.cons_cons _ (.cons _ (.cons_cons _ (.cons_cons _ (.cons_cons _ (List.nil_sublist _)))))))),?_⟩
      refine d1 10 2047 (by kernel_rfl) rfl ?_
      obtain⟨es3,hS27,hL1,hl3⟩:=St.borrow (ms:=[blk b5 9 [(.string x1_.2)],blk b4 238 [(.string x1_.1),(.string x1_.2)],smap b2 (asl es2),blk b3 313 [(.map (some b2))],vec v6 9 1 ((cpt r1_).length) ((cpt r1_).flatMap Qg),vec v4 9 1 ((srt nodes_p).length) ((srt nodes_p).flatMap Qg)]) hS26 hF2 x1_.1 hv1
      obtain⟨hsm3,hP⟩:=hP
      refine y2h (Ms:=fun v8=>(vec v8 9 1 ((((F_2 x1_.1).getD [])++[x1_.2]).length) ((((F_2 x1_.1).getD [])++[x1_.2]).flatMap Qg)::blk b5 9 [(.string x1_.2)]::blk b4 238 [(.string x1_.1),(.string x1_.2)]::smap b2 (asl es2)::blk b3 313 [(.map (some b2))]::vec v6 9 1 ((cpt r1_).length) ((cpt r1_).flatMap Qg)::vec v4 9 1 ((srt nodes_p).length) ((srt nodes_p).flatMap Qg)::Gx 9 1 Qg es3)) (k':=(((F_2 x1_.1).getD [])++[x1_.2]).length) (xs':=(((F_2 x1_.1).getD [])++[x1_.2]).flatMap Qg) Tryz.underlying70 Tryz.type9 rfl rfl (bytes:=16) rfl rfl (Nat.succ_pos _) hS27 rfl (q:=0) rfl rfl rfl (q9h (hS27.get (i:=1) rfl)) (ones rfl) hsm3 (by omega) (by first|rfl|exact List.length_append.symm|simp) (by simp[Qg]) (fun _=>rfl) ?_
      intro v8 w15 ho5 hS28
      have hS29:=hS28.drop 1 (ms':=(vec v8 9 1 ((((F_2 x1_.1).getD [])++[x1_.2]).length) ((((F_2 x1_.1).getD [])++[x1_.2]).flatMap Qg)::blk b4 238 [(.string x1_.1),(.string x1_.2)]::smap b2 (asl es2)::blk b3 313 [(.map (some b2))]::vec v6 9 1 ((cpt r1_).length) ((cpt r1_).flatMap Qg)::vec v4 9 1 ((srt nodes_p).length) ((srt nodes_p).flatMap Qg)::Gx 9 1 Qg es3)) rfl
      refine wpList_nil ?_
      refine⟨rfl,(hS29.sublist (.cons _ (.cons_cons _ (.cons _ (.cons_cons _ (.cons_cons _ (.cons_cons _ (List.nil_sublist _)))))))),?_⟩
      refine d1 11 4095 (by kernel_rfl) rfl (y2e (v:=v8) (i:=2) (ms':=(vec v8 9 1 ((((F_2 x1_.1).getD [])++[x1_.2]).length) ((((F_2 x1_.1).getD [])++[x1_.2]).flatMap Qg)::blk b4 238 [(.string x1_.1),(.string x1_.2)]::smap b2 (fun k'=>if k'=x1_.1 then some v8 else asl es2 k')::blk b3 313 [(.map (some b2))]::vec v6 9 1 ((cpt r1_).length) ((cpt r1_).flatMap Qg)::vec v4 9 1 ((srt nodes_p).length) ((srt nodes_p).flatMap Qg)::Gx 9 1 Qg es3)) hS29 rfl rfl rfl rfl Tryz.underlying313 Tryz.underlying9 rfl ?_)
      intro w16 hS30
      have hS32:=St.giveback (ms:=[blk b4 238 [(.string x1_.1),(.string x1_.2)],smap b2 (fun k'=>if k'=x1_.1 then some v8 else asl es2 k'),blk b3 313 [(.map (some b2))],vec v6 9 1 ((cpt r1_).length) ((cpt r1_).flatMap Qg),vec v4 9 1 ((srt nodes_p).length) ((srt nodes_p).flatMap Qg)]) (ms':=[blk b4 238 [(.string x1_.1),(.string x1_.2)],smap b2 (asl ((x1_.1,v8,((F_2 x1_.1).getD [])++[x1_.2])::es3)),blk b3 313 [(.map (some b2))],vec v6 9 1 ((cpt r1_).length) ((cpt r1_).flatMap Qg),vec v4 9 1 ((srt nodes_p).length) ((srt nodes_p).flatMap Qg)]) (i:=1) hS30 hL1 rfl rfl
      have hF3:=ELF.put (v:=v8) hF2 hL1 hsm3
      refine wpList_nil ?_
      refine⟨rfl,(hS32.sublist (.cons_cons _ (.cons _ (.cons_cons _ (.cons_cons _ (.cons_cons _ (List.nil_sublist _))))))),j4t (J':=fun z=>St ⟨w,σ,[]⟩ z σ3 (blk b4 238 [(.string x1_.1),(.string x1_.2)]::smap b2 (asl ((x1_.1,v8,((F_2 x1_.1).getD [])++[x1_.2])::es3))::blk b3 313 [(.map (some b2))]::vec v6 9 1 ((cpt r1_).length) ((cpt r1_).flatMap Qg)::vec v4 9 1 ((srt nodes_p).length) ((srt nodes_p).flatMap Qg)::Gx 9 1 Qg ((x1_.1,v8,((F_2 x1_.1).getD [])++[x1_.2])::es3))) (fun w h=>h.sublist (.cons_cons _ (.cons _ (.cons_cons _ (.cons_cons _ (.cons_cons _ (List.nil_sublist _))))))) _ _ _ _ ?_⟩
      refine dz (by kernel_rfl) (v1b (Qm (j1c (v1a (r:=((k_3+1:Nat):Int)) rfl rfl (nw (by omega) (by omega) (by have:=hlen3;omega)) (Q6 (v:=(.int .i64 ((k_3+1:Nat):Int))) rfl (wpList_nil (Qm ?_)))))))
      exact⟨k_3+1,(put F_2 x1_.1 (((F_2 x1_.1).getD [])++[x1_.2])),_,rfl,hP,((x1_.1,v8,((F_2 x1_.1).getD [])++[x1_.2])::es3),σ3,_,(Zs rfl (Zs rfl (Zs rfl (Zs rfl (Zs rfl rfl))))),(hS32.sublist (ms':=(smap b2 (asl ((x1_.1,v8,((F_2 x1_.1).getD [])++[x1_.2])::es3))::blk b3 313 [(.map (some b2))]::vec v6 9 1 ((cpt r1_).length) ((cpt r1_).flatMap Qg)::vec v4 9 1 ((srt nodes_p).length) ((srt nodes_p).flatMap Qg)::Gx 9 1 Qg ((x1_.1,v8,((F_2 x1_.1).getD [])++[x1_.2])::es3))) (.cons _ (List.Sublist.refl _))),hsub3,hF3⟩
     ·
      refine j4s (cs:=[(.string x1_.2)]) (e:=9) hS25 (fun _=>by kernel_rfl) ?_
      intro b5 w14 hS26
      refine wpList_nil ?_
      refine⟨rfl,(hS26.sublist (.cons _ (.cons_cons _ (.cons _ (.cons_cons _ (.cons_cons _ (.cons_cons _ (List.nil_sublist _)))))))),?_⟩
      refine d1 6 1023 (by kernel_rfl) rfl ?_
      obtain⟨v7,hv1⟩: ∃v,(asl es2 x1_.1).getD (.slice none 0 0)=v:=⟨_,rfl⟩
      refine v30 (i:=2) (v:=v7) hS26 rfl rfl rfl Tryz.underlying313 Tryz.underlying9 Tryz.zeroValue70 hv1 (wpList_nil ?_)
      refine⟨rfl,(hS26.sublist (.cons _ (.cons_cons _ (.cons _ (.cons_cons _ (.cons_cons _ (.cons_cons _ (List.nil_sublist _)))))))),?_⟩
      refine d1 10 2047 (by kernel_rfl) rfl ?_
      obtain⟨es3,hS27,hL1,hl3⟩:=St.borrow (ms:=[blk b5 9 [(.string x1_.2)],blk b4 238 [(.string x1_.1),(.string x1_.2)],smap b2 (asl es2),blk b3 313 [(.map (some b2))],vec v6 9 1 ((cpt r1_).length) ((cpt r1_).flatMap Qg),vec v4 9 1 ((srt nodes_p).length) ((srt nodes_p).flatMap Qg)]) hS26 hF2 x1_.1 hv1
      obtain⟨hsm3,hP⟩:=hP
      refine y2h (Ms:=fun v8=>(vec v8 9 1 ((((F_2 x1_.1).getD [])++[x1_.2]).length) ((((F_2 x1_.1).getD [])++[x1_.2]).flatMap Qg)::blk b5 9 [(.string x1_.2)]::blk b4 238 [(.string x1_.1),(.string x1_.2)]::smap b2 (asl es2)::blk b3 313 [(.map (some b2))]::vec v6 9 1 ((cpt r1_).length) ((cpt r1_).flatMap Qg)::vec v4 9 1 ((srt nodes_p).length) ((srt nodes_p).flatMap Qg)::Gx 9 1 Qg es3)) (k':=(((F_2 x1_.1).getD [])++[x1_.2]).length) (xs':=(((F_2 x1_.1).getD [])++[x1_.2]).flatMap Qg) Tryz.underlying70 Tryz.type9 rfl rfl (bytes:=16) rfl rfl (Nat.succ_pos _) hS27 rfl (q:=0) rfl rfl rfl (q9h (hS27.get (i:=1) rfl)) (ones rfl) hsm3 (by omega) (by first|rfl|exact List.length_append.symm|simp) (by simp[Qg]) (fun _=>rfl) ?_
      intro v8 w15 ho5 hS28
      have hS29:=hS28.drop 1 (ms':=(vec v8 9 1 ((((F_2 x1_.1).getD [])++[x1_.2]).length) ((((F_2 x1_.1).getD [])++[x1_.2]).flatMap Qg)::blk b4 238 [(.string x1_.1),(.string x1_.2)]::smap b2 (asl es2)::blk b3 313 [(.map (some b2))]::vec v6 9 1 ((cpt r1_).length) ((cpt r1_).flatMap Qg)::vec v4 9 1 ((srt nodes_p).length) ((srt nodes_p).flatMap Qg)::Gx 9 1 Qg es3)) rfl
      refine wpList_nil ?_
      refine⟨rfl,(hS29.sublist (.cons _ (.cons_cons _ (.cons _ (.cons_cons _ (.cons_cons _ (.cons_cons _ (List.nil_sublist _)))))))),?_⟩
      refine d1 11 4095 (by kernel_rfl) rfl (y2e (v:=v8) (i:=2) (ms':=(vec v8 9 1 ((((F_2 x1_.1).getD [])++[x1_.2]).length) ((((F_2 x1_.1).getD [])++[x1_.2]).flatMap Qg)::blk b4 238 [(.string x1_.1),(.string x1_.2)]::smap b2 (fun k'=>if k'=x1_.1 then some v8 else asl es2 k')::blk b3 313 [(.map (some b2))]::vec v6 9 1 ((cpt r1_).length) ((cpt r1_).flatMap Qg)::vec v4 9 1 ((srt nodes_p).length) ((srt nodes_p).flatMap Qg)::Gx 9 1 Qg es3)) hS29 rfl rfl rfl rfl Tryz.underlying313 Tryz.underlying9 rfl ?_)
      intro w16 hS30
      have hS32:=St.giveback (ms:=[blk b4 238 [(.string x1_.1),(.string x1_.2)],smap b2 (fun k'=>if k'=x1_.1 then some v8 else asl es2 k'),blk b3 313 [(.map (some b2))],vec v6 9 1 ((cpt r1_).length) ((cpt r1_).flatMap Qg),vec v4 9 1 ((srt nodes_p).length) ((srt nodes_p).flatMap Qg)]) (ms':=[blk b4 238 [(.string x1_.1),(.string x1_.2)],smap b2 (asl ((x1_.1,v8,((F_2 x1_.1).getD [])++[x1_.2])::es3)),blk b3 313 [(.map (some b2))],vec v6 9 1 ((cpt r1_).length) ((cpt r1_).flatMap Qg),vec v4 9 1 ((srt nodes_p).length) ((srt nodes_p).flatMap Qg)]) (i:=1) hS30 hL1 rfl rfl
      have hF3:=ELF.put (v:=v8) hF2 hL1 hsm3
      refine wpList_nil ?_
      refine⟨rfl,(hS32.sublist (.cons_cons _ (.cons _ (.cons_cons _ (.cons_cons _ (.cons_cons _ (List.nil_sublist _))))))),j4t (J':=fun z=>St ⟨w,σ,[]⟩ z σ3 (blk b4 238 [(.string x1_.1),(.string x1_.2)]::smap b2 (asl ((x1_.1,v8,((F_2 x1_.1).getD [])++[x1_.2])::es3))::blk b3 313 [(.map (some b2))]::vec v6 9 1 ((cpt r1_).length) ((cpt r1_).flatMap Qg)::vec v4 9 1 ((srt nodes_p).length) ((srt nodes_p).flatMap Qg)::Gx 9 1 Qg ((x1_.1,v8,((F_2 x1_.1).getD [])++[x1_.2])::es3))) (fun w h=>h.sublist (.cons_cons _ (.cons _ (.cons_cons _ (.cons_cons _ (.cons_cons _ (List.nil_sublist _))))))) _ _ _ _ ?_⟩
      refine dz (by kernel_rfl) (v1b (Qm (j1c (v1a (r:=((k_3+1:Nat):Int)) rfl rfl (nw (by omega) (by omega) (by have:=hlen3;omega)) (Q6 (v:=(.int .i64 ((k_3+1:Nat):Int))) rfl (wpList_nil (Qm ?_)))))))
      exact⟨k_3+1,(put F_2 x1_.1 (((F_2 x1_.1).getD [])++[x1_.2])),_,rfl,hP,((x1_.1,v8,((F_2 x1_.1).getD [])++[x1_.2])::es3),σ3,_,(Zs rfl (Zs rfl (Zs rfl (Zs rfl (Zs rfl rfl))))),(hS32.sublist (ms':=(smap b2 (asl ((x1_.1,v8,((F_2 x1_.1).getD [])++[x1_.2])::es3))::blk b3 313 [(.map (some b2))]::vec v6 9 1 ((cpt r1_).length) ((cpt r1_).flatMap Qg)::vec v4 9 1 ((srt nodes_p).length) ((srt nodes_p).flatMap Qg)::Gx 9 1 Qg ((x1_.1,v8,((F_2 x1_.1).getD [])++[x1_.2])::es3))) (.cons _ (List.Sublist.refl _))),hsub3,hF3⟩
   ·
    replace hP:=hP.2 (by first|(rw[hb1];exact Bool.false_ne_true)|simp[hb1])
    refine Q6 (v:=(.bool true)) (congrArg Value.bool (congrArg Bool.not hb1)) (v3q rfl rfl (v3q rfl rfl (v3q rfl rfl (v3q rfl rfl (v3q rfl rfl (v74 (v:=(.bool true)) rfl rfl (wpList_nil (Qm (if_t rfl (Qs (Qt (v:=(.slice none 0 0)) rfl (Qt (v:=(.int .i64 (11:Int))) rfl (wpList_nil (Qm (wp_ret (Rj (j3u (Rj (Rj (j3u (Rj (ret2 rfl (show ev _ _ _=(.slice none 0 0) from rfl) (show ev _ _ _=(.int .i64 (11:Int)) from rfl) ?_))))))))))))))))))))))
    have hS33:=hS21.addNil 9 1
    exact⟨[],(11:Int),(.slice none 0 0),rfl,(St.back (hS33.keep 1 (ms':=[vec (.slice none 0 0) 9 1 0 []]) rfl) (Sub.refl _)),(by simp[Sml]),hP⟩
  ·
   replace hP:=hP.2 ht2
   refine wp_exit (z6w (z6w (j5k (Qm (Qs (Qt (v:=(.slice none 0 0)) rfl (wpList_nil (Qm (Qs (y2f (fun y:Bool=>(Value.bool (y))) hS17 ?_))))))))))
   intro b6 w17 hS34
   refine w7a (cs:=[(.map none)]) hS34 Tryz.zeroValue60 rfl ?_
   intro b7 w18 hS35
   refine w69 (T:=60) (vs:=[(.map (some b6))]) (cs':=[(.map (some b6))]) (ms':=(blk b7 60 [(.map (some b6))]::emap b6 (fun y:Bool=>(Value.bool (y))) (fun _=>none)::smap b2 (asl es2)::blk b3 313 [(.map (some b2))]::vec v6 9 1 ((cpt r1_).length) ((cpt r1_).flatMap Qg)::vec v4 9 1 ((srt nodes_p).length) ((srt nodes_p).flatMap Qg)::Gx 9 1 Qg es2)) (i:=0) hS35 rfl rfl rfl Tryz.sizeOf60 rfl (ones rfl) rfl (Nat.le_of_ble_eq_true rfl) rfl rfl ?_
   intro w19 hS36
   refine wpList_nil (Qm (wp_seq (wp_block ?_)))
   obtain⟨σ6,hS37,hsub6,hr9⟩:=St.freezeL (ms:=[blk b7 60 [(.map (some b6))],emap b6 (fun y:Bool=>(Value.bool (y))) (fun _=>none),smap b2 (asl es2),blk b3 313 [(.map (some b2))],vec v6 9 1 ((cpt r1_).length) ((cpt r1_).flatMap Qg),vec v4 9 1 ((srt nodes_p).length) ((srt nodes_p).flatMap Qg)]) (ms':=[blk b7 60 [(.map (some b6))],emap b6 (fun y:Bool=>(Value.bool (y))) (fun _=>none),blk b3 313 [(.map (some b2))],vec v6 9 1 ((cpt r1_).length) ((cpt r1_).flatMap Qg),vec v4 9 1 ((srt nodes_p).length) ((srt nodes_p).flatMap Qg)]) (i:=2) hS36 hF2 q34 rfl rfl
   have hS38:=hS37.addNil 9 1
   have hS39:=hS38.front 4 rfl (ms':=[vec v6 9 1 ((cpt r1_).length) ((cpt r1_).flatMap Qg),vec (.slice none 0 0) 9 1 0 [],blk b7 60 [(.map (some b6))],emap b6 (fun y:Bool=>(Value.bool (y))) (fun _=>none),blk b3 313 [(.map (some b2))],vec v4 9 1 ((srt nodes_p).length) ((srt nodes_p).flatMap Qg)]) rfl
   have hS40:=hS39.front 4 rfl (ms':=[blk b3 313 [(.map (some b2))],vec v6 9 1 ((cpt r1_).length) ((cpt r1_).flatMap Qg),vec (.slice none 0 0) 9 1 0 [],blk b7 60 [(.map (some b6))],emap b6 (fun y:Bool=>(Value.bool (y))) (fun _=>none),vec v4 9 1 ((srt nodes_p).length) ((srt nodes_p).flatMap Qg)]) rfl
   have hS41:=hS40.front 3 rfl (ms':=[blk b7 60 [(.map (some b6))],blk b3 313 [(.map (some b2))],vec v6 9 1 ((cpt r1_).length) ((cpt r1_).flatMap Qg),vec (.slice none 0 0) 9 1 0 [],emap b6 (fun y:Bool=>(Value.bool (y))) (fun _=>none),vec v4 9 1 ((srt nodes_p).length) ((srt nodes_p).flatMap Qg)]) rfl
   have hS42:=hS41.front 4 rfl (ms':=[emap b6 (fun y:Bool=>(Value.bool (y))) (fun _=>none),blk b7 60 [(.map (some b6))],blk b3 313 [(.map (some b2))],vec v6 9 1 ((cpt r1_).length) ((cpt r1_).flatMap Qg),vec (.slice none 0 0) 9 1 0 [],vec v4 9 1 ((srt nodes_p).length) ((srt nodes_p).flatMap Qg)]) rfl
   have hS43:=hS42.front 4 rfl (ms':=[vec (.slice none 0 0) 9 1 0 [],emap b6 (fun y:Bool=>(Value.bool (y))) (fun _=>none),blk b7 60 [(.map (some b6))],blk b3 313 [(.map (some b2))],vec v6 9 1 ((cpt r1_).length) ((cpt r1_).flatMap Qg),vec v4 9 1 ((srt nodes_p).length) ((srt nodes_p).flatMap Qg)]) rfl
   have hS44:=hS43.front 5 rfl (ms':=[vec v4 9 1 ((srt nodes_p).length) ((srt nodes_p).flatMap Qg),vec (.slice none 0 0) 9 1 0 [],emap b6 (fun y:Bool=>(Value.bool (y))) (fun _=>none),blk b7 60 [(.map (some b6))],blk b3 313 [(.map (some b2))],vec v6 9 1 ((cpt r1_).length) ((cpt r1_).flatMap Qg)]) rfl
   refine v8g (fun left_3 out_3 F_4 f z=> ∃(v13:Value) (v14:Value) (σ7:Hv) (g:Fr),f=(upd (upd (upd (upd g 6 v13) 7 (.pointer (some ⟨b3,0,none⟩))) 10 v14) 11 (.pointer (some ⟨b7,0,none⟩)))/\St ⟨w,σ,[]⟩ z σ7 [vec v13 9 1 left_3.length ((left_3).flatMap Qg),vec v14 9 1 out_3.length ((out_3).flatMap Qg),emap b6 (fun y:Bool=>(Value.bool (y))) F_4,blk b7 60 [(.map (some b6))],blk b3 313 [(.map (some b2))],vec v6 9 1 ((cpt r1_).length) ((cpt r1_).flatMap Qg)]/\Sub σ6 σ7/\v13.oneCell'=true/\Sml left_3.length/\v14.oneCell'=true/\Sml out_3.length) hP ⟨v4,(.slice none 0 0),σ6,_,(Zs rfl (Zs rfl (Zs rfl (Zs rfl rfl)))),hS44,(Sub.refl _),(Bm ho1.1),(show Sml (srt nodes_p).length by rw[Jn];exact hsm1),rfl,(by simp[Sml])⟩ ?_
   clear hP
   rintro left_3 out_3 F_4 Y5 hP f w20 ⟨v13,v14,σ7,g,rfl,hS45,hsub7,ho10,hl8,ho11,hl9⟩
   refine wp_seq (Qs (Q6 (v:=v13) rfl (z84 hS45 rfl (i:=0) rfl Tryz.underlying70 ?_)))
   have hlen4:left_3.length<=9223372036854775807:=by have:=hl8;unfold Sml at this;omega
   replace hP:=hP hlen4
   refine y8t (r:=(decide ((0:Int)<((left_3.length:Nat):Int)))) rfl rfl rfl (wpList_nil (Qm ?_))
   refine if_d ((0:Int)<((left_3.length:Nat):Int)) rfl (fun ht4=> ?_) (fun ht4=> ?_)
   ·
    replace hP:=hP.1 ht4
    refine wp_skip (Qm (wp_block (Qs (Q6 (v:=v13) rfl (j1d (la:=[]) (lb:=[(.pointer (some ⟨b3,0,none⟩)),(.pointer (some ⟨b7,0,none⟩))]) rfl rfl ?_)))))
    obtain⟨Y6,hK4,hP⟩:=hP
    refine q8i (args:=[v13,(.func (.func 224) #[] #[(.pointer (some ⟨b3,0,none⟩)),(.pointer (some ⟨b7,0,none⟩))])]) rfl Tryz.call223 (Calls.mono (R:=fun e z=> ∃(r_1:Int) (σ8:Hv),e= .returned (.int .i64 r_1)/\Y6 r_1/\St ⟨w,σ,[]⟩ z σ8 [vec v13 9 1 left_3.length ((left_3).flatMap Qg),vec v14 9 1 out_3.length ((out_3).flatMap Qg),emap b6 (fun y:Bool=>(Value.bool (y))) F_4,blk b7 60 [(.map (some b6))],blk b3 313 [(.map (some b2))],vec v6 9 1 ((cpt r1_).length) ((cpt r1_).flatMap Qg)]/\Sub σ7 σ8) ?_ ?_)
    ·
     refine enter Tryz.func223 rfl rfl rfl ?_
     refine Qs (Qt (v:=(.int .i64 (0:Int))) rfl (wpList_nil (Qm (wp_seq (Qs (Q6 (v:=v13) rfl (z84 hS45 rfl (i:=0) rfl Tryz.underlying70 (Q6 (v:=(.int .i64 (0:Int))) rfl (wpList_nil (Qm (wp_block ?_)))))))))))
     refine w07 (fun k_5 f z=> ∃(σ9:Hv) (g:Fr),f=(upd (upd (upd (upd g 0 v13) 1 (.func (.func 224) #[] #[(.pointer (some ⟨b3,0,none⟩)),(.pointer (some ⟨b7,0,none⟩))])) 7 (.int .i64 ((left_3.length:Nat):Int))) 8 (.int .i64 ((k_5:Nat):Int)))/\St ⟨w,σ,[]⟩ z σ9 [vec v13 9 1 left_3.length ((left_3).flatMap Qg),vec v14 9 1 out_3.length ((out_3).flatMap Qg),emap b6 (fun y:Bool=>(Value.bool (y))) F_4,blk b7 60 [(.map (some b6))],blk b3 313 [(.map (some b2))],vec v6 9 1 ((cpt r1_).length) ((cpt r1_).flatMap Qg)]/\Sub σ7 σ9) hP ⟨σ7,_,(Zs rfl (Zs rfl (Zs rfl (Zs rfl rfl)))),hS45,(Sub.refl _)⟩ ?_
     clear hP
     rintro k_5 Y7 hP f w21 ⟨σ9,g,rfl,hS46,hsub9⟩
     refine Qs (v3r (r:=(decide (((k_5:Nat):Int)<((left_3.length:Nat):Int)))) rfl rfl rfl (wpList_nil (Qm (wp_seq ?_))))
     refine if_d (((k_5:Nat):Int)<((left_3.length:Nat):Int)) rfl (fun ht5=> ?_) (fun ht5=> ?_)
     ·
      replace hP:=hP.1 ht5
      refine wp_skip (Qm (wp_seq (wp_block (Qs (Q6 (v:=(.int .i64 ((k_5:Nat):Int))) rfl (Qt (v:=(.int .i64 ((k_5:Nat):Int))) rfl (wpList_nil (Qm (Qs (Q6 (v:=(.func (.func 224) #[] #[(.pointer (some ⟨b3,0,none⟩)),(.pointer (some ⟨b7,0,none⟩))])) rfl (Q6 (v:=v13) rfl (Q6 (v:=(.int .i64 ((k_5:Nat):Int))) rfl ?_))))))))))))
      obtain⟨x2_,hx2⟩:=getq (l:=left_3) (k:=k_5) (by have:=ht5;omega)
      replace hP:=hP x2_ hx2
      obtain⟨g1,cp1,hv2⟩:=w08 (hS46.get (i:=0) rfl) (Qe hx2)
      refine Ho (k:=k_5) (a':=⟨g1,k_5*1,none⟩) hv2 rfl rfl (Qe hx2) Tryz.underlying70 Tryz.sizeOf9 (by simp[W4]) (q6r (v:=(.string x2_)) rfl Tryz.isAgg9 (j5t q34 (j:=0) hv2 (hS46.get (i:=0) rfl) hx2 rfl) (v3u (args:=[(.string x2_),(.pointer (some ⟨b3,0,none⟩)),(.pointer (some ⟨b7,0,none⟩))]) rfl rfl Tryz.call224 ?_))
      refine enter Tryz.func224 rfl rfl rfl ?_
      refine Qs (Qt (v:=(.bool false)) rfl (wpList_nil (Qm (Qs (q6r (v:=(.map (some b2))) rfl Tryz.isAgg313 (hS46.cell (i:=4) rfl rfl) (Q6 (v:=(.string x2_)) rfl ?_))))))
      obtain⟨v15,hl10,hz1⟩:=RMp.at (z:= .slice none 0 0) (z0:=[]) RSl.nil hr9 x2_
      obtain⟨a3,cap3,rfl⟩:=hz1.shape
      refine y2i (v:=(.slice a3 ((F_2 x2_).getD []).length cap3)) hl10 (View.of (Sub.trans hsub7 hsub9) hS46.view) rfl rfl Tryz.underlying313 Tryz.underlying9 Tryz.zeroValue70 (j1d (la:=[]) (lb:=[(.pointer (some ⟨b7,0,none⟩))]) rfl rfl (q8i (args:=[(.slice a3 ((F_2 x2_).getD []).length cap3),(.func (.func 226) #[] #[(.pointer (some ⟨b7,0,none⟩))])]) rfl Tryz.call225 ?_))
      refine enter Tryz.func225 rfl rfl rfl ?_
      refine Qs (Qt (v:=(.bool false)) rfl (wpList_nil (Qm (Qs (Q6 (v:=(.slice a3 ((F_2 x2_).getD []).length cap3)) rfl (Q6 (v:=(.func (.func 226) #[] #[(.pointer (some ⟨b7,0,none⟩))])) rfl ?_))))))
      obtain⟨Y8,hK5,hP⟩:=hP
      refine q8i (args:=[(.slice a3 ((F_2 x2_).getD []).length cap3),(.func (.func 226) #[] #[(.pointer (some ⟨b7,0,none⟩))])]) rfl Tryz.call223 (Calls.mono (R:=fun e z=> ∃(r_2:Int) (σ10:Hv),e= .returned (.int .i64 r_2)/\Y8 r_2/\St ⟨w,σ,[]⟩ z σ10 [vec v13 9 1 left_3.length ((left_3).flatMap Qg),vec v14 9 1 out_3.length ((out_3).flatMap Qg),emap b6 (fun y:Bool=>(Value.bool (y))) F_4,blk b7 60 [(.map (some b6))],blk b3 313 [(.map (some b2))],vec v6 9 1 ((cpt r1_).length) ((cpt r1_).flatMap Qg)]/\Sub σ9 σ10) ?_ ?_)
      ·
       refine enter Tryz.func223 rfl rfl rfl ?_
       refine Qs (Qt (v:=(.int .i64 (0:Int))) rfl (wpList_nil (Qm (wp_seq (Qs (Q6 (v:=(.slice a3 ((F_2 x2_).getD []).length cap3)) rfl (z04 rfl Tryz.underlying70 ?_)))))))
       have hlen6:=RSl.len63 hz1
       replace hP:=hP hlen6
       refine Q6 (v:=(.int .i64 (0:Int))) rfl (wpList_nil (Qm (wp_block ?_)))
       refine w07 (fun k_7 f z=> ∃(σ11:Hv) (g:Fr),f=(upd (upd (upd (upd g 0 (.slice a3 ((F_2 x2_).getD []).length cap3)) 1 (.func (.func 226) #[] #[(.pointer (some ⟨b7,0,none⟩))])) 7 (.int .i64 ((((F_2 x2_).getD []).length:Nat):Int))) 8 (.int .i64 ((k_7:Nat):Int)))/\St ⟨w,σ,[]⟩ z σ11 [vec v13 9 1 left_3.length ((left_3).flatMap Qg),vec v14 9 1 out_3.length ((out_3).flatMap Qg),emap b6 (fun y:Bool=>(Value.bool (y))) F_4,blk b7 60 [(.map (some b6))],blk b3 313 [(.map (some b2))],vec v6 9 1 ((cpt r1_).length) ((cpt r1_).flatMap Qg)]/\Sub σ9 σ11) hP ⟨σ9,_,(Zs rfl (Zs rfl (Zs rfl (Zs rfl rfl)))),hS46,(Sub.refl _)⟩ ?_
       clear hP
       rintro k_7 Y9 hP f w22 ⟨σ11,g,rfl,hS47,hsub11⟩
       refine Qs (v3r (r:=(decide (((k_7:Nat):Int)<((((F_2 x2_).getD []).length:Nat):Int)))) rfl rfl rfl (wpList_nil (Qm (wp_seq ?_))))
       refine if_d (((k_7:Nat):Int)<((((F_2 x2_).getD []).length:Nat):Int)) rfl (fun ht6=> ?_) (fun ht6=> ?_)
       ·
        replace hP:=hP.1 ht6
        refine wp_skip (Qm (wp_seq (wp_block (Qs (Q6 (v:=(.int .i64 ((k_7:Nat):Int))) rfl (Qt (v:=(.int .i64 ((k_7:Nat):Int))) rfl (wpList_nil (Qm (Qs (Q6 (v:=(.func (.func 226) #[] #[(.pointer (some ⟨b7,0,none⟩))])) rfl (Q6 (v:=(.slice a3 ((F_2 x2_).getD []).length cap3)) rfl (Q6 (v:=(.int .i64 ((k_7:Nat):Int))) rfl ?_))))))))))))
        obtain⟨x3_,hx3⟩:=getq (l:=((F_2 x2_).getD [])) (k:=k_7) (by have:=ht6;omega)
        replace hP:=hP x3_ hx3
        obtain⟨ad2,cs2,ha2,hl11,hr10,hR2,hlt2⟩:=RSl.at hz1 hx3
        cases hR2
        refine Ho (k:=k_7) (a':=(ad2.add (k_7*1))) (congrArg (fun z=>Value.slice z _ _) ha2) rfl rfl hlt2 Tryz.underlying70 Tryz.sizeOf9 rfl (q6r (v:=(.string x3_)) rfl Tryz.isAgg9 (hr10.cell (View.of (Sub.trans (Sub.trans hsub7 hsub9) hsub11) hS47.view) 0 rfl rfl) (v3u (args:=[(.string x3_),(.pointer (some ⟨b7,0,none⟩))]) rfl rfl Tryz.call226 ?_))
        refine enter Tryz.func226 rfl rfl rfl ?_
        refine Qs (Qt (v:=(.bool false)) rfl (wpList_nil (Qm (Qs (q6r (v:=(.map (some b6))) rfl Tryz.isAgg60 (hS47.cell (i:=3) rfl rfl) (Q6 (v:=(.string x3_)) rfl (y2g (v:=(.bool (((F_4 x3_).getD false)))) (i:=2) hS47 rfl rfl rfl Tryz.underlying60 Tryz.underlying9 Tryz.zeroValue4 (v8h (fun y:Bool=>(Value.bool (y))) _ rfl) (v79 (r:=(!((F_4 x3_).getD false))) rfl rfl (Qt (v:=(.bool (!((F_4 x3_).getD false)))) rfl (wpList_nil (Qm (wp_ret (ret1 rfl (show ev _ _ _=(.bool (!((F_4 x3_).getD false))) from rfl) ?_)))))))))))))
        refine⟨_,rfl,?_⟩
        refine wpList_nil (Qm ?_)
        refine y57 rfl (fun ht7=> ?_) (fun ht7=> ?_)
        ·
         replace hP:=hP.2 (by first|(rw[ht7];exact Bool.false_ne_true)|simp[ht7])
         refine Qs (Q6 (v:=(.int .i64 ((k_7:Nat):Int))) rfl (Qt (v:=(.int .i64 ((k_7:Nat):Int))) rfl (wpList_nil (Qm (wp_ret (j3u (Rj (Rj (j3u (Rj (ret1 rfl (show ev _ _ _=(.int .i64 ((k_7:Nat):Int)) from rfl) ?_)))))))))))
         exact⟨((k_7:Nat):Int),σ11,rfl,hP,hS47,hsub11⟩
        ·
         replace hP:=hP.1 ht7
         refine wp_skip (v1b (Qm (j1c (v1a (r:=((k_7+1:Nat):Int)) rfl rfl (nw (by omega) (by omega) (by have:=hlen6;omega)) (Q6 (v:=(.int .i64 ((k_7+1:Nat):Int))) rfl (wpList_nil (Qm ?_)))))))
         exact⟨k_7+1,_,rfl,hP,σ11,_,(Zs rfl (Zs rfl (Zs rfl (Zs rfl rfl)))),hS47,hsub11⟩
       ·
        replace hP:=hP.2 ht6
        refine wp_exit (z6w (z6w (j5k (Qm (Qs (Qt (v:=(.int .i64 (-1:Int))) rfl (wpList_nil (Qm (wp_ret (ret1 rfl (show ev _ _ _=(.int .i64 (-1:Int)) from rfl) ?_))))))))))
        exact⟨(-1:Int),σ11,rfl,hP,hS47,hsub11⟩
      ·
       rintro _ w23 ⟨r_2,σ10,rfl,hY4,hS48,hsub10⟩
       refine⟨_,rfl,?_⟩
       replace hP:=hK5 r_2 hY4
       refine y54 (r:=(decide ((0:Int)<=r_2))) rfl rfl rfl (Qt (v:=(.bool (decide ((0:Int)<=r_2)))) rfl (wpList_nil (Qm (wp_ret (ret1 rfl (show ev _ _ _=(.bool (decide ((0:Int)<=r_2))) from rfl) ?_)))))
       refine⟨_,rfl,?_⟩
       refine v79 (r:=(!decide ((0:Int)<=r_2))) rfl rfl (Qt (v:=(.bool (!decide ((0:Int)<=r_2)))) rfl (wpList_nil (Qm (wp_ret (ret1 rfl (show ev _ _ _=(.bool (!decide ((0:Int)<=r_2))) from rfl) ?_)))))
       refine⟨_,rfl,?_⟩
       refine wpList_nil (Qm ?_)
       refine y56 ((0:Int)<=r_2) rfl (fun ht8=> ?_) (fun ht8=> ?_)
       ·
        replace hP:=hP.2 ht8
        refine Qs (Q6 (v:=(.int .i64 ((k_5:Nat):Int))) rfl (Qt (v:=(.int .i64 ((k_5:Nat):Int))) rfl (wpList_nil (Qm (wp_ret (j3u (Rj (Rj (j3u (Rj (ret1 rfl (show ev _ _ _=(.int .i64 ((k_5:Nat):Int)) from rfl) ?_)))))))))))
        exact⟨((k_5:Nat):Int),σ10,rfl,hP,hS48,(Sub.trans hsub9 hsub10)⟩
       ·
        replace hP:=hP.1 ht8
        refine wp_skip (v1b (Qm (j1c (v1a (r:=((k_5+1:Nat):Int)) rfl rfl (nw (by omega) (by omega) (by have:=hlen4;omega)) (Q6 (v:=(.int .i64 ((k_5+1:Nat):Int))) rfl (wpList_nil (Qm ?_)))))))
        exact⟨k_5+1,_,rfl,hP,σ10,_,(Zs rfl (Zs rfl (Zs rfl (Zs rfl rfl)))),hS48,(Sub.trans hsub9 hsub10)⟩
     ·
      replace hP:=hP.2 ht5
      refine wp_exit (z6w (z6w (j5k (Qm (Qs (Qt (v:=(.int .i64 (-1:Int))) rfl (wpList_nil (Qm (wp_ret (ret1 rfl (show ev _ _ _=(.int .i64 (-1:Int)) from rfl) ?_))))))))))
      exact⟨(-1:Int),σ9,rfl,hP,hS46,hsub9⟩
    ·
     rintro _ w24 ⟨r_1,σ8,rfl,hY5,hS49,hsub8⟩
     refine⟨_,rfl,?_⟩
     replace hP:=hK4 r_1 hY5
     refine Qt (v:=(.int .i64 r_1)) rfl (wpList_nil (Qm (wp_seq (Qs (Q6 (v:=(.int .i64 r_1)) rfl (v3r (r:=(decide (r_1<(0:Int)))) rfl rfl rfl (wpList_nil (Qm ?_))))))))
     refine if_d (r_1<(0:Int)) rfl (fun ht9=> ?_) (fun ht9=> ?_)
     ·
      replace hP:=hP.1 ht9
      refine Qs (Qt (v:=(.slice none 0 0)) rfl (Qt (v:=(.int .i64 (12:Int))) rfl (wpList_nil (Qm (wp_ret (Rj (j3u (Rj (j3u (Rj (ret2 rfl (show ev _ _ _=(.slice none 0 0) from rfl) (show ev _ _ _=(.int .i64 (12:Int)) from rfl) ?_)))))))))))
      have hS50:=hS49.addNil 9 1
      exact⟨[],(12:Int),(.slice none 0 0),rfl,(St.back (hS50.keep 1 (ms':=[vec (.slice none 0 0) 9 1 0 []]) rfl) (Sub.refl _)),(by simp[Sml]),hP⟩
     ·
      replace hP:=hP.2 ht9
      refine wp_skip (Qm (Qs (Q6 (v:=v14) rfl (Q6 (v:=v13) rfl (Q6 (v:=(.int .i64 r_1)) rfl ?_)))))
      obtain⟨j1_,hj1,hP⟩:=hP
      obtain⟨x4_,hx4,hP⟩:=hP
      obtain⟨g2,cp2,hv3⟩:=w08 (hS49.get (i:=0) rfl) (Qe hx4)
      refine Ho (k:=j1_) (a':=⟨g2,j1_*1,none⟩) hv3 rfl hj1 (Qe hx4) Tryz.underlying70 Tryz.sizeOf9 (by simp[W4]) (q6r (v:=(.string x4_)) rfl Tryz.isAgg9 (j5t q34 (j:=0) hv3 (hS49.get (i:=0) rfl) hx4 rfl) (j4s (cs:=[(.string x4_)]) (e:=9) hS49 (fun _=>by kernel_rfl) ?_))
      intro b8 w25 hS51
      obtain⟨hsm4,hP⟩:=hP
      refine y2h (Ms:=fun v16=>[blk b8 9 [(.string x4_)],vec v13 9 1 left_3.length ((left_3).flatMap Qg),vec v16 9 1 ((out_3++[x4_]).length) ((out_3++[x4_]).flatMap Qg),emap b6 (fun y:Bool=>(Value.bool (y))) F_4,blk b7 60 [(.map (some b6))],blk b3 313 [(.map (some b2))],vec v6 9 1 ((cpt r1_).length) ((cpt r1_).flatMap Qg)]) (k':=(out_3++[x4_]).length) (xs':=(out_3++[x4_]).flatMap Qg) Tryz.underlying70 Tryz.type9 rfl rfl (bytes:=16) rfl rfl (Nat.succ_pos _) hS51 rfl (q:=2) rfl rfl rfl (q9h (hS51.get (i:=0) rfl)) (ones rfl) hsm4 (by omega) (by first|rfl|exact List.length_append.symm|simp) (by simp[Qg]) (fun _=>rfl) ?_
      intro v16 w26 ho12 hS52
      have hS53:=hS52.drop 0 (ms':=[vec v13 9 1 left_3.length ((left_3).flatMap Qg),vec v16 9 1 ((out_3++[x4_]).length) ((out_3++[x4_]).flatMap Qg),emap b6 (fun y:Bool=>(Value.bool (y))) F_4,blk b7 60 [(.map (some b6))],blk b3 313 [(.map (some b2))],vec v6 9 1 ((cpt r1_).length) ((cpt r1_).flatMap Qg)]) rfl
      refine Qt (v:=v16) rfl (wpList_nil (Qm (wp_seq (dr (fun z=>St ⟨w,σ,[]⟩ z σ8 [vec v13 9 1 left_3.length ((left_3).flatMap Qg),vec v16 9 1 ((out_3++[x4_]).length) ((out_3++[x4_]).flatMap Qg),blk b7 60 [(.map (some b6))],blk b3 313 [(.map (some b2))],vec v6 9 1 ((cpt r1_).length) ((cpt r1_).flatMap Qg)]) (by kernel_rfl) rfl ?_))))
      have hS54:=hS53.drew
      refine dt 0 1 (v:=(.map (some b6))) (by kernel_rfl) rfl rfl (fun _ _ _ h=>h) (hS54.sublist (.cons_cons _ (.cons_cons _ (.cons _ (List.Sublist.refl _))))) (fun _ hJ _ hK=>q6r (v:=(.map (some b6))) rfl Tryz.isAgg60 (hJ.cell (i:=2) rfl rfl) ⟨rfl,hK⟩) (dt 1 3 (v:=v13) (by kernel_rfl) rfl rfl (fun _ _ _ h=>h) (hS54.sublist (.cons_cons _ (.cons_cons _ (.cons _ (List.Sublist.refl _))))) (fun _ _ _ hK=>Q6 (v:=v13) rfl ⟨rfl,hK⟩) (dt 2 7 (v:=(.int .i64 r_1)) (by kernel_rfl) rfl rfl (fun _ _ _ h=>h) (hS54.sublist (.cons_cons _ (.cons_cons _ (.cons _ (List.Sublist.refl _))))) (fun _ _ _ hK=>Q6 (v:=(.int .i64 r_1)) rfl ⟨rfl,hK⟩) ?_))
      obtain⟨j2_,hj2,hP⟩:=hP
      obtain⟨x5_,hx5,hP⟩:=hP
      obtain⟨g3,cp3,hv4⟩:=w08 (hS54.get (i:=0) rfl) (Qe hx5)
      refine dt 3 15 (v:=(.pointer (some ⟨g3,j2_*1,none⟩))) (by kernel_rfl) rfl rfl (fun _ _ _ h=>h) (hS54.sublist (.cons_cons _ (.cons_cons _ (.cons _ (List.Sublist.refl _))))) (fun _ _ _ hK=>Ho (k:=j2_) (a':=⟨g3,j2_*1,none⟩) hv4 rfl hj2 (Qe hx5) Tryz.underlying70 Tryz.sizeOf9 (by simp[W4]) ⟨rfl,hK⟩) (dt 4 31 (v:=(.string x5_)) (by kernel_rfl) rfl rfl (fun _ _ _ h=>h) (hS54.sublist (.cons_cons _ (.cons_cons _ (.cons _ (List.Sublist.refl _))))) (fun _ hJ _ hK=>q6r (v:=(.string x5_)) rfl Tryz.isAgg9 (j5t q34 (j:=0) hv4 (hJ.get (i:=0) rfl) hx5 rfl) ⟨rfl,hK⟩) (d1 5 63 (by kernel_rfl) rfl (y6c (y0:=true) (i:=2) (ms':=[vec v13 9 1 left_3.length ((left_3).flatMap Qg),vec v16 9 1 ((out_3++[x4_]).length) ((out_3++[x4_]).flatMap Qg),emap b6 (fun y:Bool=>(Value.bool (y))) (put F_4 x5_ true),blk b7 60 [(.map (some b6))],blk b3 313 [(.map (some b2))],vec v6 9 1 ((cpt r1_).length) ((cpt r1_).flatMap Qg)]) hS54 rfl rfl rfl rfl Tryz.underlying60 Tryz.underlying9 rfl ?_)))
      intro w27 hS55
      refine wpList_nil ?_
      refine⟨rfl,(hS55.sublist (.cons_cons _ (.cons_cons _ (.cons _ (List.Sublist.refl _))))),j4t (J':=fun z=>St ⟨w,σ,[]⟩ z σ8 [vec v13 9 1 left_3.length ((left_3).flatMap Qg),vec v16 9 1 ((out_3++[x4_]).length) ((out_3++[x4_]).flatMap Qg),emap b6 (fun y:Bool=>(Value.bool (y))) (put F_4 x5_ true),blk b7 60 [(.map (some b6))],blk b3 313 [(.map (some b2))],vec v6 9 1 ((cpt r1_).length) ((cpt r1_).flatMap Qg)]) (fun w h=>h.sublist (.cons_cons _ (.cons_cons _ (.cons _ (List.Sublist.refl _))))) _ _ _ _ ?_⟩
      refine dz (by kernel_rfl) (Qm (j1c (Q6 (v:=v13) rfl (Q6 (v:=(.int .i64 r_1)) rfl (Q6 (v:=(.int .i64 r_1)) rfl ?_)))))
      obtain⟨hi1,hP⟩:=hP
      refine v1a (r:=(r_1+(1:Int))) rfl rfl (nwi rfl hi1) ?_
      obtain⟨j3_,hj3,hP⟩:=hP
      obtain⟨hd1,hP⟩:=hP
      obtain⟨hd2,hP⟩:=hP
      obtain⟨hsm5,hP⟩:=hP
      have hd3:r_1=((j3_:Nat):Int)/\(r_1+(1:Int))=((j3_+1:Nat):Int):=⟨by omega,by omega⟩
      refine q8i (args:=[v13,(.int .i64 ((j3_:Nat):Int)),(.int .i64 ((j3_+1:Nat):Int))]) (by rw[←hd3.1,←hd3.2];rfl) Tryz.call227 (Calls.mono (v1d (i:=j3_) (j:=(j3_+1)) Tryz.slices_Delete_string hS55.view (hS55.get (i:=0) rfl) (fun b hb=>hS55.off _ (List.mem_of_getElem? (i:=0) rfl) b hb) (by omega) hd2 hd1) ?_)
      rintro _ w28 ⟨v17,rfl,hf2,hg7,ho13⟩
      refine⟨_,rfl,?_⟩
      have ho14:=Bm ho13
      have hS56:=hS55.growV (i:=0) (o':=vec v17 9 1 ((left_3.take j3_++left_3.drop (j3_+1)).length) ((left_3.take j3_++left_3.drop (j3_+1)).flatMap Qg)) rfl hg7 hf2 ho13 (ms':=[vec v17 9 1 ((left_3.take j3_++left_3.drop (j3_+1)).length) ((left_3.take j3_++left_3.drop (j3_+1)).flatMap Qg),vec v16 9 1 ((out_3++[x4_]).length) ((out_3++[x4_]).flatMap Qg),emap b6 (fun y:Bool=>(Value.bool (y))) (put F_4 x5_ true),blk b7 60 [(.map (some b6))],blk b3 313 [(.map (some b2))],vec v6 9 1 ((cpt r1_).length) ((cpt r1_).flatMap Qg)]) rfl
      refine Qt (v:=v17) rfl (wpList_nil (v1b (Qm ?_)))
      exact⟨left_3.take j3_++left_3.drop (j3_+1),out_3++[x4_],put F_4 x5_ true,_,rfl,hP,v17,v16,σ8,_,(Zs rfl (Zs rfl (Zs rfl (Zs rfl rfl)))),hS56,(Sub.trans hsub7 hsub8),ho14,hsm5,ho12,hsm4⟩
   ·
    replace hP:=hP.2 ht4
    refine wp_exit (z6w (z6w (j5k (Qm (Qs (Q6 (v:=v14) rfl (Qt (v:=v14) rfl (Qt (v:=(.int .i64 (0:Int))) rfl (wpList_nil (Qm (wp_ret (ret2 rfl (show ev _ _ _=v14 from rfl) (show ev _ _ _=(.int .i64 (0:Int)) from rfl) ?_))))))))))))
    have hS57:=hS45.front 1 rfl (ms':=[vec v14 9 1 out_3.length ((out_3).flatMap Qg),vec v13 9 1 left_3.length ((left_3).flatMap Qg),emap b6 (fun y:Bool=>(Value.bool (y))) F_4,blk b7 60 [(.map (some b6))],blk b3 313 [(.map (some b2))],vec v6 9 1 ((cpt r1_).length) ((cpt r1_).flatMap Qg)]) rfl
    exact⟨out_3,(0:Int),v14,rfl,(St.back (hS57.keep 1 (ms':=[vec v14 9 1 out_3.length ((out_3).flatMap Qg)]) rfl) (Sub.refl _)),hl9,hP⟩
end Go.Proofs.YtkbjibhkaddepaaGreatDoor
end
