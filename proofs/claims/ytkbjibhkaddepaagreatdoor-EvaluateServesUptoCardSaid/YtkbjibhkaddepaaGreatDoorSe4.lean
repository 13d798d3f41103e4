/- For every input within the given bound on its size EvaluateServes returns true and leaves its arguments as they were. This is part 4 of 11. Conditions: those in the statements. -/
import Derived.Test.YtkbjibhkaddepaaGreatDoorProg
import Derived.Test.YtkbjibhkaddepaaGreatDoorSe3
import Derived.Lib.ValidU
import Derived.Lib.ItoaNum
import Derived.KernelRfl
import Derived.Conc.MuLone
import Derived.Shelf.Small.Bits
import Derived.Shelf.Utf8.RuneCount
import Derived.Shelf.Strconv.Atoi
import Derived.Shelf.Strconv.Itoa0
import Derived.Shelf.Strconv.Itoa1
import Derived.Shelf.LaysM
import Derived.Shelf.Strconv.Itoa2
import Derived.Shelf.Strconv.Itoa3
import Derived.Shelf.Strconv.AtoiErrFast
import Derived.Shelf.Strconv.ParseIntEmpty
import Derived.Shelf.Strconv.AtoiFail
import Derived.Shelf.Strconv.Clone
import Derived.Shelf.Strconv.SyntaxError
import Derived.Shelf.LaysC
import Derived.Shelf.Strconv.ToError
import Derived.Shelf.Strconv.Lower
import Derived.Shelf.Strconv.ParseUint10
import Derived.Shelf.Strconv.ParseUint10Empty
import Derived.Shelf.Strconv.ParseUint10Any
import Derived.Shelf.Strconv.ParseInt10
import Derived.Shelf.Strconv.AtoiLong
import Derived.Shelf.Strconv.AtoiInnerAll
import Derived.Shelf.Strconv.RangeError
import Derived.Shelf.Strconv.ToErrorRange
import Derived.Shelf.Strconv.AtoiAll
import Derived.Shelf.Strconv.ErrVarAll
import Derived.Shelf.Strings.Search1
import Derived.Shelf.Strings.Search2
import Derived.Shelf.Strings.Search3
import Derived.Shelf.Strings.Count
import Derived.Shelf.Strings.Shaped
import Derived.Shelf.Sort.Plain
import Derived.Shelf.Strings.Split
import Derived.Shelf.Strings.SplitShaped
import Derived.Shelf.Unicode.Decode
import Derived.Shelf.Strings.RuneCount
import Derived.Shelf.Strings.Explode
import Derived.Shelf.Unicode.DecodeSlow
import Derived.Shelf.Unicode.DecodeAny
import Derived.Ground.Names2Prog
import Derived.Shelf.Slices.Clone
import Derived.Shelf.Slices.CompactS
import Derived.Shelf.Slices.SearchI
import Derived.Shelf.Slices.Delete
import Derived.Shelf.Slices.Cells
import Derived.Shelf.Slices.In.SortNone
import Derived.Shelf.Slices.Empties
import Derived.Ground.SlgnProg
import Derived.Shelf.SlicesE.Clone
import Derived.Ground.NamesProg
import Derived.Shelf.Unicode.ValidAny
import Derived.Shelf.SlIter.Sorted
import Derived.Ground.GgzProg
import Derived.Shelf.SlIter.Collect
import Derived.WalkKit
import Derived.OwnWalkIn
import Derived.TacticsInMore
import Derived.LoopNIn
import Derived.LoopIn
import Derived.RangeFuncLeaves
noncomputable section
set_option maxRecDepth 100000
open Go Go.RowKit Go.Fl Go.Fl.Lk Go.Fx
namespace Go.En
abbrev Two(p:Prop):Prop:=p/\p
abbrev Wz:Type:=(List (Decl)->Prop)->Prop
def Ux:Wz:=fun K=>K [Decl.mk (B8 [100,101,118,105,99,101]) (B8 [99,111,114,101,115]) (2:Int),Decl.mk (B8 [100,101,118,105,99,101]) (B8 [111,115]) (3:Int),Decl.mk (B8 [117,115,101,114]) (B8 [97,103,101]) (2:Int),Decl.mk (B8 [117,115,101,114]) (B8 [97,112,112]) (4:Int),Decl.mk (B8 [117,115,101,114]) (B8 [98,101,116,97]) (1:Int),Decl.mk (B8 [117,115,101,114]) (B8 [99,111,117,110,116,114,121]) (3:Int),Decl.mk (B8 [117,115,101,114]) (B8 [112,108,97,110]) (3:Int),Decl.mk (B8 [117,115,101,114]) (B8 [116,97,103,115]) (5:Int)]
abbrev j7j:Type:=List (Int)->Int->(Bool->Int->Prop)->Prop
def w4s:j7j:=fun list at_ K=>Fits list->K (decide (at_<(↑list.length:Int))) at_
abbrev Zl:Type:=List (Int)->Int->Int->(Int->Int->Prop)->Prop
def w4t(j7x:j7j):Zl:=fun list at_ n K=>j7x list at_ fun Qa Qy=>Cnd (Qa=true) (InI (Qy+1)/\InI (Qy+1 - (1:Int))/\((0:Int)<=Qy+1 - (1:Int)/\Qy+1 - (1:Int)<(↑list.length:Int))/\ ∀y1,list[(Qy+1 - (1:Int)).toNat]? =some y1->InI y1/\n≠(0:Int)/\K (y1.tmod n) (Qy+1)) (K (0:Int) Qy)
def We:Zl:=w4t w4s
abbrev q1b:Type:=List (Int)->Int->(ByteArray->Int->Prop)->Prop
def w4u(Qb:Zl):q1b:=fun list at_ K=>Qb list at_ (11:Int) fun Qa Qy=>((0:Int)<=Qa/\Qa<(↑(11:Nat):Int))/\ ∀y1,j1g[Qa.toNat]? =some y1->K y1 Qy
def z2a:q1b:=w4u We
abbrev q6d:Type:=List (Int)->Int->Int->(Int->Int->Prop)->Prop
def w4v(Qb:Zl):q6d:=fun list at_ n K=>Qb list at_ (256:Int) fun Qa Qy=>InI ((256:Int)*Qa)/\Qb list Qy (256:Int) fun Qc Z8=>InI ((256:Int)*Qa+Qc)/\n≠(0:Int)/\K (((256:Int)*Qa+Qc).tmod n) Z8
def z66:q6d:=w4v We
abbrev z67:Type:=Int->List (ByteArray)->(List (ByteArray)->Prop)->Prop
def j7k:z67:=fun n l K=>((0:Int)<=n/\n<=(↑l.length:Int))/\K (List.take n.toNat l)
abbrev z2b:Type:=List (Int)->Int->(List (ByteArray)->Int->Prop)->Prop
def w4w(Qb:Zl):z2b:=fun list at_ K=>Qb list at_ (10:Int) fun Qa Qy=>Lp3 (fun Qc Z8 z9a y08=>Qb list z9a (4:Int) fun Qf Zn=>Cnd (Z8<Qf) (InI (Qa+Z8)/\(10:Int)≠(0:Int)/\InI ((48:Int)+(Qa+Z8).tmod (10:Int))/\(↑((B8 [107]).size+(Go.Utf8.encode (Go.IntKind.i32.wrap ((48:Int)+(Qa+Z8).tmod (10:Int)))).size):Int)<=(9223372036854775807:Int)/\Sml (Qc++[B8 [107]++Go.Utf8.encode (Go.IntKind.i32.wrap ((48:Int)+(Qa+Z8).tmod (10:Int)))]).length/\InI (Z8+1)/\y08 (Qc++[B8 [107]++Go.Utf8.encode (Go.IntKind.i32.wrap ((48:Int)+(Qa+Z8).tmod (10:Int)))]) (Z8+1) Zn) (Lp2 (fun Qk Ry w2r=>Fits Ry->CAt Ry Qk (fun y5=>InI (Qk - 1)/\((0:Int)<=Qk - 1/\Qk - 1<(↑Ry.length:Int))/\ ∀y7,Ry[(Qk - 1).toNat]? =some y7->Cnd (Lk.blt y7 y5) (InI (Qk+1)/\w2r (Qk+1) Ry) (((0:Int)<=Qk/\Qk<=(↑Ry.length:Int))/\K (List.take Qk.toNat Ry) Zn)) (K Ry Zn)) (1:Int) Qc)) [] (0:Int) Qy
def j1h:z2b:=w4w We
abbrev z9j:Type:=List (Int)->Int->(ByteArray->Int->Prop)->Prop
def v0m(Qb:Zl):z9j:=fun list at_ K=>Qb list at_ (10:Int) fun Qa Qy=>InI ((48:Int)+Qa)/\(↑((B8 [107]).size+(Go.Utf8.encode (Go.IntKind.i32.wrap ((48:Int)+Qa))).size):Int)<=(9223372036854775807:Int)/\K (B8 [107]++Go.Utf8.encode (Go.IntKind.i32.wrap ((48:Int)+Qa))) Qy
def j8z:z9j:=v0m We
abbrev q1c:Type:=List (Int)->Int->Int->(Val->Int->Prop)->Prop
def j1i(Qb:Zl)(Wg:q1b):q1c:=fun list at_ kind K=>Cnd (kind=1) (Qb list at_ (2:Int) fun Qa Qy=>K (Val.mk kind Qa (B8 []) []) Qy) (Cnd (kind=2) ([(0:Int),(1:Int),(17:Int),(18:Int),(19:Int),(-5:Int),(64:Int),(1099511627776:Int),(-1099511627776:Int)].length<=(9223372036854775807:Nat)->Qb list at_ (↑[(0:Int),(1:Int),(17:Int),(18:Int),(19:Int),(-5:Int),(64:Int),(1099511627776:Int),(-1099511627776:Int)].length:Int) fun Qc Z8=>((0:Int)<=Qc/\Qc<(↑[(0:Int),(1:Int),(17:Int),(18:Int),(19:Int),(-5:Int),(64:Int),(1099511627776:Int),(-1099511627776:Int)].length:Int))/\ ∀y2,[(0:Int),(1:Int),(17:Int),(18:Int),(19:Int),(-5:Int),(64:Int),(1099511627776:Int),(-1099511627776:Int)][Qc.toNat]? =some y2->K (Val.mk kind y2 (B8 []) []) Z8) (Cnd (kind=3) (Wg list at_ fun Qa Qy=>K (Val.mk kind (0:Int) Qa []) Qy) (Cnd (kind=4) (Qb list at_ (6:Int) fun Qa Qy=>((0:Int)<=Qa/\Qa<(↑(6:Nat):Int))/\ ∀y1,z4z[Qa.toNat]? =some y1->K (Val.mk kind (0:Int) y1 []) Qy) (Qb list at_ (5:Int) fun Qa Qy=>((0:Int)<=Qa/\Qa<(↑(5:Nat):Int))/\ ∀y1,j8x[Qa.toNat]? =some y1->Sml ([]++y1).length/\K (Val.mk (5:Int) (0:Int) (B8 []) ([]++y1)) Qy))))
def Bi:q1c:=j1i We z2a
abbrev j1j:Type:=List (Int)->Int->(Ex->Int->Prop)->Prop
def w4x(Q3:Wz)(Qb:Zl)(z3y:z9j)(Ja:q1c):j1j:=fun list at_ K=>Q3 fun Qa=>Fits Qa->InI ((↑Qa.length:Int)+1)/\Qb list at_ ((↑Qa.length:Int)+1) fun Qf Zn=>Fits Qa->Cnd (Qf=(↑Qa.length:Int)) (z3y list Zn fun Qe Jv=>K (Ex.mk (7:Int) (B8 [117,115,101,114]) (B8 [107,101,121]) [Val.mk (3:Int) (0:Int) Qe []] []) Jv) (At Qa Qf fun y4=>Jn1 (fun (Zp:Int×ByteArray×ByteArray×List Val×List Ex×Int×Int×ByteArray×ByteArray×List Val×List Ex×Unit)=>Ja list Zp.2.2.2.2.2.1 y4.3 fun J6 j0x=>K (Ex.mk (7:Int) Zp.2.1 Zp.2.2.1 [J6] Zp.2.2.2.2.1) j0x) fun (j7y:Int×ByteArray×ByteArray×List Val×List Ex×Int×Int×ByteArray×ByteArray×List Val×List Ex×Unit->Prop)=>Qb list Zn (5:Int) fun J6 j0x=>Jn1 (fun (Wa:Int×Int×ByteArray×ByteArray×List Val×List Ex×Int×ByteArray×ByteArray×List Val×List Ex×Unit)=>Cnd (y4.3=2) (Qb list Wa.1 (4:Int) fun Qs z9b=>InI ((12:Int)+Qs)/\Ja list z9b y4.3 fun Vl q2z=>K (Ex.mk ((12:Int)+Qs) Wa.2.2.1 Wa.2.2.2.1 [Vl] Wa.2.2.2.2.2.1) q2z) (Cnd (y4.3=3) (Qb list Wa.1 (4:Int) fun Qs z9b=>InI ((12:Int)+Qs)/\Ja list z9b y4.3 fun Vl q2z=>K (Ex.mk ((12:Int)+Qs) Wa.2.2.1 Wa.2.2.2.1 [Vl] Wa.2.2.2.2.2.1) q2z) (Cnd (y4.3=4) (Qb list Wa.1 (4:Int) fun Qs z9b=>InI ((12:Int)+Qs)/\Ja list z9b y4.3 fun Vl q2z=>K (Ex.mk ((12:Int)+Qs) Wa.2.2.1 Wa.2.2.2.1 [Vl] Wa.2.2.2.2.2.1) q2z) (j7y (Wa.2.1,Wa.2.2.1,Wa.2.2.2.1,Wa.2.2.2.2.1,Wa.2.2.2.2.2.1,Wa.1,Wa.2.2.2.2.2.2.1,Wa.2.2.2.2.2.2.2.1,Wa.2.2.2.2.2.2.2.2.1,Wa.2.2.2.2.2.2.2.2.2.1,Wa.2.2.2.2.2.2.2.2.2.2.1,()))))) fun (y4h:Int×Int×ByteArray×ByteArray×List Val×List Ex×Int×ByteArray×ByteArray×List Val×List Ex×Unit->Prop)=>Cnd (J6=0) (K (Ex.mk (6:Int) y4.1 y4.2 [] []) j0x) (Cnd (J6=1) (Cnd (y4.3=5) (j7y ((0:Int),y4.1,y4.2,[],[],j0x,(0:Int),B8 [],B8 [],[],[],())) (Lp3 (fun Qs z9b y8i u2k=>Qb list y8i (3:Int) fun Vl q2z=>Cnd (Qs<=Vl) (Ja list q2z y4.3 fun Ud z6u=>Sml (z9b++[Ud]).length/\InI (Qs+1)/\u2k (Qs+1) (z9b++[Ud]) z6u) (K (Ex.mk (8:Int) y4.1 y4.2 z9b []) q2z)) (0:Int) [] j0x)) (Cnd (J6=2) (Cnd (y4.3=3) (Ja list j0x (3:Int) fun Qs z9b=>K (Ex.mk (11:Int) y4.1 y4.2 [Qs] []) z9b) (Cnd (y4.3=5) (Ja list j0x (3:Int) fun Qs z9b=>K (Ex.mk (11:Int) y4.1 y4.2 [Qs] []) z9b) (j7y ((0:Int),y4.1,y4.2,[],[],j0x,(0:Int),B8 [],B8 [],[],[],())))) (Cnd (J6=3) (Cnd (y4.3=3) (Qb list j0x (2:Int) fun Qs z9b=>InI ((9:Int)+Qs)/\Ja list z9b (3:Int) fun Vl q2z=>K (Ex.mk ((9:Int)+Qs) y4.1 y4.2 [Vl] []) q2z) (y4h (j0x,(0:Int),y4.1,y4.2,[],[],(0:Int),B8 [],B8 [],[],[],()))) (Cnd (J6=4) (y4h (j0x,(0:Int),y4.1,y4.2,[],[],(0:Int),B8 [],B8 [],[],[],())) (j7y ((0:Int),y4.1,y4.2,[],[],j0x,(0:Int),B8 [],B8 [],[],[],())))))))
def z68:j1j:=w4x Ux We j8z Bi
abbrev q4d:Type:=List (Int)->Int->List (ByteArray)->Int->(Ex->Int->Prop)->Prop
def j7l(Qb:Zl)(j29:j1j)(X:q4d):q4d:=fun list at_ segments levels K=>Qb list at_ (8:Int) fun Qa Qy=>Jn1 (fun Qc=>Cnd (Qc=0) (K (Ex.mk (1:Int) (B8 []) (B8 []) [] []) Qy) (Cnd (Qc=3) (Fits segments->Cnd ((0:Int)<(↑segments.length:Int)) (Fits segments->Qb list Qy (↑segments.length:Int) fun Qe Jv=>At segments Qe fun y5=>K (Ex.mk (5:Int) (B8 []) y5 [] []) Jv) (j29 list Qy fun Qk Ry=>K (Ex.mk Qk.1 Qk.2 Qk.3 Qk.4 Qk.5) Ry)) (Cnd (Qc=4) (InI (levels - 1)/\X list Qy segments (levels - 1) fun Qf Zn=>K (Ex.mk (4:Int) (B8 []) (B8 []) [] [Ex.mk Qf.1 Qf.2 Qf.3 Qf.4 Qf.5]) Zn) (Jn1 (fun Qf=>Cnd (Qf=true) (Qb list Qy (2:Int) fun Qk Ry=>InI ((2:Int)+Qk)/\Qb list Ry (2:Int) fun Qe Jv=>InI ((2:Int)+Qe)/\LpH (fun (Qm:Int×Int×Int×ByteArray×ByteArray×List Val×List Ex×Unit) (w38:Int×Int×Int×ByteArray×ByteArray×List Val×List Ex×Unit->Prop)=>Cnd (Qm.1<2+Qe) (InI (levels - 1)/\X list Qm.2.1 segments (levels - 1) fun Zp q95=>Jn1 (fun (J6:Int×ByteArray×ByteArray×List Val×List Ex×Unit)=>Sml (Qm.2.2.2.2.2.2.1++[Ex.mk J6.1 J6.2.1 J6.2.2.1 J6.2.2.2.1 J6.2.2.2.2.1]).length/\InI (Qm.1+1)/\w38 (Qm.1+1,q95,Qm.2.2.1,Qm.2.2.2.1,Qm.2.2.2.2.1,Qm.2.2.2.2.2.1,Qm.2.2.2.2.2.2.1++[Ex.mk J6.1 J6.2.1 J6.2.2.1 J6.2.2.2.1 J6.2.2.2.2.1],())) fun (y1b:Int×ByteArray×ByteArray×List Val×List Ex×Unit->Prop)=>Cnd (Zp.1=2+Qk) (y1b ((4:Int),B8 [],B8 [],[],[Ex.mk Zp.1 Zp.2 Zp.3 Zp.4 Zp.5],())) (y1b (Zp.1,Zp.2,Zp.3,Zp.4,Zp.5,()))) (K (Ex.mk Qm.2.2.1 Qm.2.2.2.1 Qm.2.2.2.2.1 Qm.2.2.2.2.2.1 Qm.2.2.2.2.2.2.1) Qm.2.1)) ((0:Int),Jv,(2:Int)+Qk,B8 [],B8 [],[],[],())) (j29 list Qy fun Qk Ry=>K (Ex.mk Qk.1 Qk.2 Qk.3 Qk.4 Qk.5) Ry)) fun w9q=>Cnd (Qc=5) (w9q (decide (Qc=5))) (w9q (decide (Qc=6))))))) fun j5k=>Cnd (levels<=1) (Cnd ((4:Int)<=Qa) (InI (Qa - 4)/\j5k (Qa - 4)) (j5k Qa)) (j5k Qa)
def j1k:q4d:=fun list at_ segments levels K=> ∀X:q4d,(∀list at_ segments levels K,j7l We z68 X list at_ segments levels K->X list at_ segments levels K)->X list at_ segments levels K
abbrev q42:Type:=List (Int)->Int->ByteArray->ByteArray->Int->List (Decl)->List (Seg)->List (Flg)->List (Lay_)->List (Exper)->(Int->ByteArray->ByteArray->Int->List (Decl)->List (Seg)->List (Flg)->List (Lay_)->List (Exper)->Prop)->Prop
def z41(Qb:Zl)(q20:z67)(q4o:z2b)(q4p:q4d):q42:=fun list at_ salt hkind hold attrs segs flags layers expers K=>Qb list at_ (4:Int) fun Qa Qy=>q20 Qa [B8 [97,108,112,104,97],B8 [98,101,116,97],B8 [103,97,109,109,97]] fun Qc=>Lp3 (fun Qf Zn w6v u0w=>Fits Qc->CAt Qc Qf (fun y4=>q4o list Zn fun Zp q95=>q4o list q95 fun J6 j0x=>Jn2 (fun Wa w9r=>Jn1 (fun (Qs:Int×ByteArray×ByteArray×List Val×List Ex×Int×Unit)=>Sml (w6v++[Seg.mk y4 Wa Zp J6 (Ex.mk Qs.1 Qs.2.1 Qs.2.2.1 Qs.2.2.2.1 Qs.2.2.2.2.1)]).length/\InI (Qf+1)/\u0w (Qf+1) Qs.2.2.2.2.2.1 (w6v++[Seg.mk y4 Wa Zp J6 (Ex.mk Qs.1 Qs.2.1 Qs.2.2.1 Qs.2.2.2.1 Qs.2.2.2.2.1)])) fun (y82:Int×ByteArray×ByteArray×List Val×List Ex×Int×Unit->Prop)=>Qb list w9r (3:Int) fun Vl q2z=>Cnd ((0:Int)<Vl) (((0:Int)<=(0:Int)/\(0:Int)<=Qf/\Qf<=(↑Qc.length:Int))/\q4p list q2z (List.drop (Int.toNat (0:Int)) (List.take Qf.toNat Qc)) (3:Int) fun Ud z6u=>y82 (Ud.1,Ud.2,Ud.3,Ud.4,Ud.5,z6u,())) (y82 ((0:Int),B8 [],B8 [],[],[],q2z,()))) fun y4h=>Qb list j0x (4:Int) fun Qs z9b=>Cnd (Qs=1) (y4h (B8 [100,101,118,105,99,101]) z9b) (y4h (B8 [117,115,101,114]) z9b)) (K Zn salt hkind hold attrs w6v flags layers expers)) (0:Int) Qy segs
def q9e:q42:=z41 We j7k j1h j1k
abbrev q1d:Type:=Envt->(List (ByteArray)->Prop)->Prop
def q1e:q1d:=fun v K=>Lp2 (fun Qa Qy q3h=>Fits v.3->CAt v.3 Qy (fun y2=>Sml (Qa++[y2.1]).length/\InI (Qy+1)/\q3h (Qa++[y2.1]) (Qy+1)) (K Qa)) [] (0:Int)
abbrev q7u:Type:=List (Int)->Int->Int->(List (Rng)->Int->Prop)->Prop
def j80(Qb:Zl)(Wt:q6d):q7u:=fun list at_ n K=>Jn4 (fun Qa Qy j0y q55=>Qb list q55 n fun Qc Z8=>InI ((1:Int)+Qc)/\Jn1 (fun Qf=>Sml (Qa++[Rng.mk Qy (10000:Int) Qf]).length/\K (Qa++[Rng.mk Qy (10000:Int) Qf]) Z8) fun w9q=>Cnd ((1:Int)+Qc=j0y) (n≠(0:Int)/\InI ((1:Int)+((1:Int)+Qc).tmod n)/\w9q ((1:Int)+((1:Int)+Qc).tmod n)) (w9q ((1:Int)+Qc))) fun q3i=>Lp5 (fun Qc Z8 z9a j0z y83 u0x=>Qb list y83 (4:Int) fun Qf Zn=>Cnd (j0z<Qf) (Cnd ((1:Int)<n) (InI (Z8+1)/\Wt list Zn (5000:Int) fun Qk Ry=>InI (Z8+1+Qk)/\Qb list Ry n fun Qe Jv=>InI ((1:Int)+Qe)/\Jn1 (fun Qm=>Cnd ((10000:Int)<=Z8+1+Qk) (q3i Qc Z8 z9a Jv) (Sml (Qc++[Rng.mk Z8 (Z8+1+Qk) Qm]).length/\InI (j0z+1)/\u0x (Qc++[Rng.mk Z8 (Z8+1+Qk) Qm]) (Z8+1+Qk) Qm (j0z+1) Jv)) fun u3f=>Cnd ((1:Int)+Qe=z9a) (n≠(0:Int)/\InI ((1:Int)+((1:Int)+Qe).tmod n)/\u3f ((1:Int)+((1:Int)+Qe).tmod n)) (u3f ((1:Int)+Qe))) (q3i Qc Z8 z9a Zn)) (q3i Qc Z8 z9a Zn)) [] (0:Int) (0:Int) (0:Int) at_
def z42:q7u:=j80 We z66
abbrev q7v:Type:=List (Int)->Int->Int->(Srv->Int->Prop)->Prop
def j81(Qb:Zl)(Wg:q1b)(q21:q7u)(Q3:Wz):q7v:=fun list at_ n K=>Qb list at_ (2:Int) fun Qa Qy=>Cnd (Qa=0) (Qb list Qy n fun Qc Z8=>InI ((1:Int)+Qc)/\K (Srv.mk ((1:Int)+Qc) (B8 []) (B8 []) (B8 []) []) Z8) (Wg list Qy fun Qc Z8=>q21 list Z8 n fun Qf Zn=>Q3 fun Qk=>Qb list Zn (12:Int) fun Qe Jv=>Fits Qk->CAt Qk Qe (fun y6=>Cnd (y6.3=5) (K (Srv.mk (0:Int) (B8 [117,115,101,114]) (B8 [107,101,121]) Qc Qf) Jv) (At Qk Qe fun y8=>At Qk Qe fun y10=>K (Srv.mk (0:Int) y8.1 y10.2 Qc Qf) Jv)) (K (Srv.mk (0:Int) (B8 [117,115,101,114]) (B8 [107,101,121]) Qc Qf) Jv))
def z43:q7v:=j81 We z2a z42 Ux
abbrev j1l:Type:=(List (Nd)->(Nd->Option (Int))->Bool->Prop)->Prop
def w70:j1l:=fun K=>K [] (fun _=>none) false
abbrev Vb:Type:=Int->(Bool->Prop)->Prop
def Jy:Vb:=fun op K=>Cnd ((6:Int)<=op) (K (decide (op<=15))) (K false)
abbrev j1m:Type:=List (ByteArray)->List (ByteArray)->(Bool->Prop)->Prop
def j1n:j1m:=fun a b K=>Fits a->Fits b->Cnd ((↑a.length:Int)=(↑b.length:Int)) (Lp1 (fun Qf j3a=>Fits a->CAt a Qf (fun y4=>At b Qf fun y6=>Cnd (y4=y6) (InI (Qf+1)/\j3a (Qf+1)) (K false)) (K true)) (0:Int)) (K false)
abbrev q7h:Type:=Val->Val->(Bool->Prop)->Prop
def j34(j3b:j1m):q7h:=fun a b K=>Cnd (a.1=b.1) (Cnd (a.2=b.2) (Cnd (a.3=b.3) (j3b a.4 b.4 fun Qa=>K Qa) (K false)) (K false)) (K false)
def q7i:q7h:=j34 j1n
abbrev Ht:Type:=List (Val)->List (Val)->(Bool->Prop)->Prop
def q7w(q05:q7h):Ht:=fun a b K=>Fits a->Fits b->Cnd ((↑a.length:Int)=(↑b.length:Int)) (Lp1 (fun Qf j3a=>Fits a->CAt a Qf (fun y4=>At b Qf fun y6=>q05 y4 y6 fun Wa=>Cnd (Wa=true) (InI (Qf+1)/\j3a (Qf+1)) (K false)) (K true)) (0:Int)) (K false)
def Uk:Ht:=q7w q7i
abbrev Vu:Type:=Ex->Ex->(Bool->Prop)->Prop
def z2c(q22:Ht)(X:Vu):Vu:=fun a b K=>Cnd (a.1=b.1) (Cnd (a.2=b.2) (Cnd (a.3=b.3) (q22 a.4 b.4 fun Qa=>Cnd (Qa=true) (Fits a.5->Fits b.5->Cnd ((↑a.5.length:Int)=(↑b.5.length:Int)) (Lp1 (fun Qk j00=>Fits a.5->CAt a.5 Qk (fun y5=>At b.5 Qk fun y7=>X (Ex.mk y5.1 y5.2 y5.3 y5.4 y5.5) (Ex.mk y7.1 y7.2 y7.3 y7.4 y7.5) fun Qs=>Cnd (Qs=true) (InI (Qk+1)/\j00 (Qk+1)) (K false)) (K true)) (0:Int)) (K false)) (K false)) (K false)) (K false)) (K false)
def q1f:Vu:=fun a b K=> ∀X:Vu,(∀a b K,z2c Uk X a b K->X a b K)->X a b K
abbrev q0i:Type:=List (Ex)->Ex->(Int->Prop)->Prop
def z9k(q60:Vu):q0i:=fun l e K=>Lp1 (fun Qa q06=>Fits l->CAt l Qa (fun y2=>q60 (Ex.mk y2.1 y2.2 y2.3 y2.4 y2.5) (Ex.mk e.1 e.2 e.3 e.4 e.5) fun Qe=>Cnd (Qe=true) (K Qa) (InI (Qa+1)/\q06 (Qa+1))) (K (-1:Int))) (0:Int)
def Ua:q0i:=z9k q1f
abbrev W0:Type:=List (Ex)->Ex->(List (Ex)->Prop)->Prop
def z0j(Uc:q0i)(Q2:Vb)(X:W0):W0:=fun l e K=>Jn1 (fun Qa=>Lp2 (fun Qc Z8 z8j=>Fits e.5->CAt e.5 Z8 (fun y3=>X Qc (Ex.mk y3.1 y3.2 y3.3 y3.4 y3.5) fun Qm=>InI (Z8+1)/\z8j Qm (Z8+1)) (K Qc)) Qa (0:Int)) fun q3i=>Cnd (e.1=5) (Uc l (Ex.mk e.1 e.2 e.3 e.4 e.5) fun Qc=>Cnd (Qc<0) ((Sml ([]++l).length/\Sml ([]++l++[Ex.mk e.1 e.2 e.3 e.4 e.5]).length/\q3i ([]++l++[Ex.mk e.1 e.2 e.3 e.4 e.5]))/\Sml ([]++l).length/\Sml ([]++l++[Ex.mk e.1 e.2 e.3 e.4 e.5]).length/\q3i ([]++l++[Ex.mk e.1 e.2 e.3 e.4 e.5])) (q3i l)) (Q2 e.1 fun Qc=>Cnd (Qc=true) (Uc l (Ex.mk e.1 e.2 e.3 e.4 e.5) fun Qf=>Cnd (Qf<0) ((Sml ([]++l).length/\Sml ([]++l++[Ex.mk e.1 e.2 e.3 e.4 e.5]).length/\q3i ([]++l++[Ex.mk e.1 e.2 e.3 e.4 e.5]))/\Sml ([]++l).length/\Sml ([]++l++[Ex.mk e.1 e.2 e.3 e.4 e.5]).length/\q3i ([]++l++[Ex.mk e.1 e.2 e.3 e.4 e.5])) (q3i l)) (q3i l))
def q4e:W0:=fun l e K=> ∀X:W0,(∀l e K,z0j Ua Jy X l e K->X l e K)->X l e K
abbrev Hu:Type:=List (Rul)->(List (Ex)->Prop)->Prop
def q7x(q4q:W0):Hu:=fun l K=>Lp2 (fun Qa Qy q3h=>Fits l->CAt l Qy (fun y2=>q4q Qa (Ex.mk y2.2.1 y2.2.2 y2.2.3 y2.2.4 y2.2.5) fun Qe=>InI (Qy+1)/\q3h Qe (Qy+1)) (K Qa)) [] (0:Int)
def q1g:Hu:=q7x q4e
abbrev J7:Type:=List (Nd)->(Nd->Option (Int))->Bool->Int->(Bool->List (Nd)->(Nd->Option (Int))->Bool->Prop)->Prop
def U2:J7:=fun ns ids full id K=>Cnd ((-1002:Int)<id) (Fits ns->K (decide (id<(↑ns.length:Int))) ns ids full) (K false ns ids full)
abbrev Bv:Type:=List (Nd)->(Nd->Option (Int))->Bool->Int->((Int->Option (Bool))->List (Nd)->(Nd->Option (Int))->Bool->Prop)->Prop
def Bw:Bv:=fun ns ids full id K=>Lp2 (fun Qa q06 q3h=>Fits Qa->Cnd ((0:Int)<(↑Qa.length:Int)) (Fits Qa->InI ((↑Qa.length:Int) - 1)/\((0:Int)<=(↑Qa.length:Int) - 1/\(↑Qa.length:Int) - 1<(↑Qa.length:Int))/\ ∀y3,Qa[((↑Qa.length:Int) - 1).toNat]? =some y3->Fits Qa->InI ((↑Qa.length:Int) - 1)/\((0:Int)<=(↑Qa.length:Int) - 1/\(↑Qa.length:Int) - 1<=(↑Qa.length:Int))/\Cnd ((q06 y3).getD false=true) (q3h (List.take ((↑Qa.length:Int) - 1).toNat Qa) q06) (Cnd ((0:Int)<=y3) (At ns y3 fun y6=>At ns y3 fun y8=>Sml (List.take ((↑Qa.length:Int) - 1).toNat Qa++[y6.2.1,y8.2.2]).length/\q3h (List.take ((↑Qa.length:Int) - 1).toNat Qa++[y6.2.1,y8.2.2]) (put q06 y3 true)) (q3h (List.take ((↑Qa.length:Int) - 1).toNat Qa) (put q06 y3 true)))) (K q06 ns ids full)) [id] fun _=>none
abbrev Ul:Type:=List (Nd)->(Nd->Option (Int))->Bool->Int->(List (Int)->List (Nd)->(Nd->Option (Int))->Bool->Prop)->Prop
def z1a(Qz:J7)(B9:Bv):Ul:=fun ns ids full id K=>Qz ns ids full id fun Qa (Qy:List (Int×Int×Int)) q3h q55=>Cnd (Qa=true) (B9 Qy q3h q55 id fun j5k (Z8:List (Int×Int×Int)) z8j j0z=>Lp2 (fun Qf Zn q7o=>Cnd (Zn<=1000) (InI ((-1:Int) - Zn)/\Cnd ((j5k ((-1:Int) - Zn)).getD false=true) (Sml (Qf++[Zn]).length/\InI (Zn+1)/\q7o (Qf++[Zn]) (Zn+1)) (InI (Zn+1)/\q7o Qf (Zn+1))) (K Qf Z8 z8j j0z)) [] (0:Int)) (K [] Qy q3h q55)
def Rk:Ul:=z1a U2 Bw
abbrev Zg:Type:=List (Nd)->(Nd->Option (Int))->Bool->Int->(Bool->List (Nd)->(Nd->Option (Int))->Bool->Prop)->Prop
def q57(Qz:J7)(Rz:Ul):Zg:=fun ns ids full id K=>Qz ns ids full id fun Qa (Qy:List (Int×Int×Int)) q3h q55=>Cnd (Qa=true) (Rz Qy q3h q55 id fun Qc (Z8:List (Int×Int×Int)) z8j j0z=>Lp1 (fun Qf j3a=>Fits Qc->CAt Qc Qf (fun y4=>Cnd ((1:Int)<y4) (K false Z8 z8j j0z) (InI (Qf+1)/\j3a (Qf+1))) (K true Z8 z8j j0z)) (0:Int)) (K false Qy q3h q55)
def Jt:Zg:=q57 U2 Rk
abbrev W2:Type:=List (Nd)->(Nd->Option (Int))->Bool->Int->(Int->List (Nd)->(Nd->Option (Int))->Bool->Prop)->Prop
def J8:W2:=fun ns ids full id K=>Cnd (id<0) (K (1001:Int) ns ids full) (At ns id fun y0=>K y0.1 ns ids full)
abbrev Gu:Type:=List (Nd)->(Nd->Option (Int))->Bool->Int->Int->(Int->Int->List (Nd)->(Nd->Option (Int))->Bool->Prop)->Prop
def z4e(Q8:W2):Gu:=fun ns ids full id test K=>Q8 ns ids full id fun Qa (Qy:List (Int×Int×Int)) q3h q55=>Cnd (Qa=test) (At Qy id fun y1=>At Qy id fun y3=>K y1.2.1 y3.2.2 Qy q3h q55) (K id id Qy q3h q55)
def Wi:Gu:=z4e J8
abbrev Vc:Type:=List (Nd)->(Nd->Option (Int))->Bool->Int->Int->Int->(Int->List (Nd)->(Nd->Option (Int))->Bool->Prop)->Prop
def z44(Qz:J7)(Q8:W2):Vc:=fun ns ids full test yes no K=>Cnd (test<0) (K (-1002:Int) ns ids full) (Cnd ((1000:Int)<test) (K (-1002:Int) ns ids full) (Qz ns ids full yes fun Qa (Qy:List (Int×Int×Int)) q3h q55=>Cnd (Qa=true) (Qz Qy q3h q55 no fun Qc (Z8:List (Int×Int×Int)) z8j j0z=>Cnd (Qc=true) (Q8 Z8 z8j j0z yes fun Qf (Zn:List (Int×Int×Int)) q7o w1f=>Cnd (Qf<=test) (K (-1002:Int) Zn q7o w1f) (Q8 Zn q7o w1f no fun Qk (Ry:List (Int×Int×Int)) w2r y1c=>Cnd (Qk<=test) (K (-1002:Int) Ry w2r y1c) (Cnd (yes=no) (K yes Ry w2r y1c) (Cnd ((w2r (test,yes,no)).isSome=true) (K ((w2r (test,yes,no)).getD (0:Int)) Ry w2r y1c) (Fits Ry->Cnd ((4000:Int)<=(↑Ry.length:Int)) (K (-1002:Int) Ry w2r true) (Fits Ry->Sml (Ry++[(test,yes,no)]).length/\((Ry++[(test,yes,no)]).length<=(9223372036854775807:Nat)->InI ((↑(Ry++[(test,yes,no)]).length:Int) - 1)/\K ((↑(Ry++[(test,yes,no)]).length:Int) - 1) (Ry++[(test,yes,no)]) (put w2r (test,yes,no) (↑Ry.length:Int)) y1c))))))) (K (-1002:Int) Z8 z8j j0z)) (K (-1002:Int) Qy q3h q55)))
def Z9:Vc:=z44 U2 J8
abbrev Jh:Type:=List (Nd)->(Nd->Option (Int))->Bool->Int->Int->Int->(A3->Option (Int))->(Int->List (Nd)->(Nd->Option (Int))->Bool->(A3->Option (Int))->Prop)->Prop
def Um(Q8:W2)(Vq:Gu)(Jq:Vc)(X:Jh):Jh:=fun ns ids full f g h known K=>Cnd (f=(-2:Int)) (K g ns ids full known) (Cnd (g=h) (K g ns ids full known) (Cnd (f=(-1:Int)) (K h ns ids full known) (Cnd ((known (f,g,h)).isSome=true) (K ((known (f,g,h)).getD (0:Int)) ns ids full known) (Q8 ns ids full f fun Qa (Qy:List (Int×Int×Int)) q3h q55=>Q8 Qy q3h q55 g fun Qc (Z8:List (Int×Int×Int)) z8j j0z=>Q8 Z8 z8j j0z h fun Qf (Zn:List (Int×Int×Int)) q7o w1f=>Vq Zn q7o w1f f (Min.min (Min.min Qa Qc) Qf) fun Qk Ry (u3n:List (Int×Int×Int)) u3o u3p=>Vq u3n u3o u3p g (Min.min (Min.min Qa Qc) Qf) fun Qe Jv (j55:List (Int×Int×Int)) y84 u2l=>Vq j55 y84 u2l h (Min.min (Min.min Qa Qc) Qf) fun Qm q87 (u2m:List (Int×Int×Int)) y8j u3q=>X u2m y8j u3q Qk Qe Qm known fun Zp (q95:List (Int×Int×Int)) y1d w6s u3r=>X q95 y1d w6s Ry Jv q87 u3r fun J6 (j0x:List (Int×Int×Int)) y85 y4i u3s=>Jn4 (fun Wa (w9r:List (Int×Int×Int)) u3t u2n=>K Wa w9r u2n u3t (put u3s (f,g,h) Wa)) fun y4h=>Cnd (Zp=(-1002:Int)) (y4h (-1002:Int) j0x y4i y85) (Cnd (J6=(-1002:Int)) (y4h (-1002:Int) j0x y4i y85) (Jq j0x y85 y4i (Min.min (Min.min Qa Qc) Qf) Zp J6 fun Qs (z9b:List (Int×Int×Int)) y8k y5k=>y4h Qs z9b y5k y8k))))))
def Rl:Jh:=fun ns ids full f g h known K=> ∀X:Jh,(∀ns ids full f g h known K,Um J8 Wi Z9 X ns ids full f g h known K->X ns ids full f g h known K)->X ns ids full f g h known K
abbrev Z0:Type:=List (Nd)->(Nd->Option (Int))->Bool->Int->Int->Int->(Int->List (Nd)->(Nd->Option (Int))->Bool->Prop)->Prop
def z1b(Qr:Zg)(Qz:J7)(R0:Jh):Z0:=fun ns ids full f g h K=>Qr ns ids full f fun Qa (Qy:List (Int×Int×Int)) q3h q55=>Cnd (Qa=true) (Qz Qy q3h q55 g fun Qc (Z8:List (Int×Int×Int)) z8j j0z=>Cnd (Qc=true) (Qz Z8 z8j j0z h fun Qf (Zn:List (Int×Int×Int)) q7o w1f=>Cnd (Qf=true) (R0 Zn q7o w1f f g h (fun _=>none) fun Qk (Ry:List (Int×Int×Int)) w2r y1c u32=>K Qk Ry w2r y1c) (K (-1002:Int) Zn q7o w1f)) (K (-1002:Int) Z8 z8j j0z)) (K (-1002:Int) Qy q3h q55)
def W7:Z0:=z1b Jt U2 Rl
abbrev Bj:Type:=List (Nd)->(Nd->Option (Int))->Bool->Int->(Int->List (Nd)->(Nd->Option (Int))->Bool->Prop)->Prop
def z8q(Q1:Z0):Bj:=fun ns ids full f K=>Q1 ns ids full f (-1:Int) (-2:Int) fun Qa (Qy:List (Int×Int×Int)) q3h q55=>K Qa Qy q3h q55
def G8:Bj:=z8q W7
abbrev Bk:Type:=List (Nd)->(Nd->Option (Int))->Bool->Int->Int->(Int->List (Nd)->(Nd->Option (Int))->Bool->Prop)->Prop
def z8r(Qr:Zg)(Q1:Z0):Bk:=fun ns ids full f g K=>Qr ns ids full g fun Qa (Qy:List (Int×Int×Int)) q3h q55=>Cnd (Qa=true) (Q1 Qy q3h q55 f g (-1:Int) fun Qc (Z8:List (Int×Int×Int)) z8j j0z=>K Qc Z8 z8j j0z) (K (-1002:Int) Qy q3h q55)
def G9:Bk:=z8r Jt W7
abbrev U3:Type:=List (Nd)->(Nd->Option (Int))->Bool->Int->Int->(Int->List (Nd)->(Nd->Option (Int))->Bool->Prop)->Prop
def j1o(Qr:Zg)(Q1:Z0):U3:=fun ns ids full f g K=>Qr ns ids full g fun Qa (Qy:List (Int×Int×Int)) q3h q55=>Cnd (Qa=true) (Q1 Qy q3h q55 f (-2:Int) g fun Qc (Z8:List (Int×Int×Int)) z8j j0z=>K Qc Z8 z8j j0z) (K (-1002:Int) Qy q3h q55)
def U4:U3:=j1o Jt W7
abbrev Wc:Type:=List (Nd)->(Nd->Option (Int))->Bool->List (Ex)->Ex->(Int->List (Nd)->(Nd->Option (Int))->Bool->Prop)->Prop
def q7y(q4r:Bj)(q4s:Bk)(Wu:U3)(Uc:q0i)(Jq:Vc)(X:Wc):Wc:=fun ns ids full atoms e K=>Cnd (e.1=1) (K (-2:Int) ns ids full) (Cnd (e.1=4) (((0:Int)<=(0:Int)/\(0:Int)<(↑e.5.length:Int))/\ ∀y0,e.5[Int.toNat (0:Int)]? =some y0->X ns ids full atoms (Ex.mk y0.1 y0.2 y0.3 y0.4 y0.5) fun Qf (Zn:List (Int×Int×Int)) q7o w1f=>q4r Zn q7o w1f Qf fun Qk (Ry:List (Int×Int×Int)) w2r y1c=>K Qk Ry w2r y1c) (Jn1 (fun Qa=>Cnd (Qa=true) (((0:Int)<=(0:Int)/\(0:Int)<(↑e.5.length:Int))/\ ∀y1,e.5[Int.toNat (0:Int)]? =some y1->X ns ids full atoms (Ex.mk y1.1 y1.2 y1.3 y1.4 y1.5) fun Qk (Ry:List (Int×Int×Int)) w2r y1c=>Lp5 (fun Qe Jv (j55:List (Int×Int×Int)) y5l u1e u1f=>Fits e.5->CAt e.5 Jv (fun y6=>X j55 u1e y5l atoms (Ex.mk y6.1 y6.2 y6.3 y6.4 y6.5) fun Wa (w9r:List (Int×Int×Int)) u1g u3g=>Cnd (e.1=2) (q4s w9r u1g u3g Qe Wa fun Qs (z9b:List (Int×Int×Int)) y8k y5k=>InI (Jv+1)/\u1f Qs (Jv+1) z9b y5k y8k) (Wu w9r u1g u3g Qe Wa fun Qs (z9b:List (Int×Int×Int)) y8k y5k=>InI (Jv+1)/\u1f Qs (Jv+1) z9b y5k y8k)) (K Qe j55 u1e y5l)) Qk (1:Int) Ry y1c w2r) (Uc atoms (Ex.mk e.1 e.2 e.3 e.4 e.5) fun Qc=>Cnd (Qc<0) (K (-1002:Int) ns ids full) (Jq ns ids full Qc (-2:Int) (-1:Int) fun Qf (Zn:List (Int×Int×Int)) q7o w1f=>K Qf Zn q7o w1f))) fun q3i=>Cnd (e.1=2) (q3i (decide (e.1=2))) (q3i (decide (e.1=3)))))
def q1h:Wc:=fun ns ids full atoms e K=> ∀X:Wc,(∀ns ids full atoms e K,q7y G8 G9 U4 Ua Z9 X ns ids full atoms e K->X ns ids full atoms e K)->X ns ids full atoms e K
abbrev Jz:Type:=List (Rul)->(List (Int)->Int->Bool->Prop)->Prop
def q3j(j3c:j1l)(q23:Hu)(q24:Wc)(Wu:U3):Jz:=fun l K=>j3c fun (Qa:List (Int×Int×Int)) q06 j0y=>q23 l fun Qc=>LpH (fun Qf j3a=>Fits l->CAt l Qf.2.2.1 (fun y4=>q24 Qf.2.2.2.1 Qf.2.2.2.2.2.1 Qf.2.2.2.2.1 Qc (Ex.mk y4.2.1 y4.2.2 y4.2.3 y4.2.4 y4.2.5) fun Zp (q95:List (Int×Int×Int)) y1d w6s=>Wu q95 y1d w6s Qf.1 Zp fun J6 (j0x:List (Int×Int×Int)) y85 y4i=>Cnd (J6=(-1002:Int)) (Fits j0x->K [] (↑j0x.length:Int) false) (Cnd (J6=Qf.1) (InI (Qf.2.2.1+1)/\Sml (Qf.2.1++[Qf.2.2.1+1]).length/\InI (Qf.2.2.1+1)/\j3a (J6,Qf.2.1++[Qf.2.2.1+1],Qf.2.2.1+1,j0x,y4i,y85,())) (InI (Qf.2.2.1+1)/\j3a (J6,Qf.2.1,Qf.2.2.1+1,j0x,y4i,y85,())))) (Fits Qf.2.2.2.1->K Qf.2.1 (↑Qf.2.2.2.1.length:Int) true)) ((-1:Int),[],(0:Int),Qa,j0y,q06,())
def Un:Jz:=q3j w70 q1g q1h U4
abbrev z45:Type:=List (Int)->Int->ByteArray->(Lay_->Int->Prop)->Prop
def j82(Wg:q1b)(Qb:Zl)(Wt:q6d):z45:=fun list at_ key K=>Wg list at_ fun Qa Qy=>Qb list Qy (3:Int) fun Qc Z8=>InI (Qc*50)/\Jn2 (fun Qf Zn=>Jn2 (fun Qk Ry=>Lp4 (fun Qe Jv j55 y5l u1e=>Qb list y5l (3:Int) fun Qm q87=>Cnd (Jv<Qm) (Wt list q87 (3000:Int) fun Zp q95=>InI (Qe+Zp)/\InI (Qe+Zp+1)/\Wt list q95 (2000:Int) fun J6 j0x=>InI (Qe+Zp+1+J6)/\Cnd ((10000:Int)<Qe+Zp+1+J6) (K (Lay_.mk key Qf Qa Qk (Qc*50) j55) j0x) (Qb list j0x (200:Int) fun Wa w9r=>Sml (j55++[Col.mk (Qe+Zp) (Qe+Zp+1+J6) Wa]).length/\InI (Jv+1)/\u1e (Qe+Zp+1+J6) (Jv+1) (j55++[Col.mk (Qe+Zp) (Qe+Zp+1+J6) Wa]) w9r)) (K (Lay_.mk key Qf Qa Qk (Qc*50) j55) q87)) (0:Int) (0:Int) [] Ry) fun y5m=>Qb list Zn (2:Int) fun Qe Jv=>Cnd (Qe=1) (Wt list Jv (3000:Int) fun Qm q87=>y5m Qm q87) (y5m (0:Int) Jv)) fun w9q=>Qb list Z8 (4:Int) fun Qk Ry=>Cnd (Qk=1) (w9q (B8 [100,101,118,105,99,101]) Ry) (w9q (B8 [117,115,101,114]) Ry)
def j1p:z45:=j82 z2a We z66
abbrev z69:Type:=Int->(Bool->Prop)->Prop
def z7a:z69:=fun now K=>Cnd ((0:Int)<=now) (K (decide (now<=1099511627776))) (K false)
abbrev Vv:Type:=Envt->ByteArray->(Int->Prop)->Prop
def q1i:Vv:=fun v key K=>Lp1 (fun Qa q06=>Fits v.5->CAt v.5 Qa (fun y2=>Cnd (y2.1=key) (K Qa) (InI (Qa+1)/\q06 (Qa+1))) (K (-1:Int))) (0:Int)
abbrev q1j:Type:=List (Col)->Int->(List (Int)->Prop)->Prop
def q1k:q1j:=fun l now K=>((0:Int)<=(10000:Int)/\(10000:Int)<=(10000:Int)/\Sml (Int.toNat (10000:Int)))/\Lp2 (fun Qa Qy q3h=>Fits Qy->CAt Qy Qa (fun _=>InI (Qa+1)/\q3h (Qa+1) (Qy.set Qa.toNat now)) (Lp2 (fun Qf Zn q7o=>Fits l->CAt l Qf (fun y4=>Lp2 (fun Zp q95 y1d=>At l Qf fun y7=>Cnd (Zp<Min.min y7.2 (10000:Int)) (At q95 Zp fun y9=>At l Qf fun y11=>At q95 Zp fun _=>InI (Zp+1)/\y1d (Zp+1) (q95.set Zp.toNat (Max.max y9 y11.3))) (InI (Qf+1)/\q7o (Qf+1) q95)) (Max.max y4.1 (0:Int)) Zn) (K Zn)) (0:Int) Qy)) (0:Int) (List.replicate (Int.toNat (10000:Int)) (0:Int))
abbrev Wj:Type:=List (Bool)->(List (Spn)->Prop)->Prop
def Hw:Wj:=fun set_ K=>Lp2 (fun Qa Qy q3h=>Fits set_->CAt set_ Qy (fun y2=>Cnd (y2=true) (Cnd ((0:Int)<Qy) (InI (Qy - 1)/\((0:Int)<=Qy - 1/\Qy - 1<(↑set_.length:Int))/\ ∀y4,set_[(Qy - 1).toNat]? =some y4->Cnd (y4=true) (Fits Qa->InI ((↑Qa.length:Int) - 1)/\InI (Qy+1)/\((0:Int)<=(↑Qa.length:Int) - 1/\(↑Qa.length:Int) - 1<(↑Qa.length:Int))/\ ∀y7,Qa[((↑Qa.length:Int) - 1).toNat]? =some y7->InI (Qy+1)/\q3h (Qa.set ((↑Qa.length:Int) - 1).toNat (Spn.mk y7.1 (Qy+1))) (Qy+1)) (InI (Qy+1)/\Sml (Qa++[Spn.mk Qy (Qy+1)]).length/\InI (Qy+1)/\q3h (Qa++[Spn.mk Qy (Qy+1)]) (Qy+1))) (InI (Qy+1)/\Sml (Qa++[Spn.mk Qy (Qy+1)]).length/\InI (Qy+1)/\q3h (Qa++[Spn.mk Qy (Qy+1)]) (Qy+1))) (InI (Qy+1)/\q3h Qa (Qy+1))) (K Qa)) [] (0:Int)
abbrev q7z:Type:=List (Int)->Int->(List (Spn)->Prop)->Prop
def z9l(Q5:Wj):q7z:=fun until_ now K=>Fits until_->((0:Int)<=(↑until_.length:Int)/\(↑until_.length:Int)<=(↑until_.length:Int)/\Sml (↑until_.length:Int).toNat)/\Lp2 (fun Qc Z8 z8j=>Fits until_->CAt until_ Qc (fun y3=>At Z8 Qc fun _=>InI (Qc+1)/\z8j (Qc+1) (Z8.set Qc.toNat (decide (now<y3)))) (Q5 Z8 fun Qk=>K Qk)) (0:Int) (List.replicate (↑until_.length:Int).toNat false)
def z2d:q7z:=z9l Hw
abbrev Bl:Type:=List (Spn)->(List (Bool)->Prop)->Prop
def q70:Bl:=fun l K=>((0:Int)<=(10000:Int)/\(10000:Int)<=(10000:Int)/\Sml (Int.toNat (10000:Int)))/\Lp2 (fun Qa Qy q3h=>Fits l->CAt l Qa (fun y2=>Lp2 (fun Qe Jv w9s=>At l Qa fun y5=>Cnd (Qe<Min.min y5.2 (10000:Int)) (At Jv Qe fun _=>InI (Qe+1)/\w9s (Qe+1) (Jv.set Qe.toNat true)) (InI (Qa+1)/\q3h (Qa+1) Jv)) (Max.max y2.1 (0:Int)) Qy) (K Qy)) (0:Int) (List.replicate (Int.toNat (10000:Int)) false)
abbrev q71:Type:=List (Spn)->List (Spn)->(List (Spn)->Prop)->Prop
def z9m(Z5:Bl)(Q5:Wj):q71:=fun a b K=>Z5 a fun Qa=>Z5 b fun Qc=>Lp2 (fun Qf Zn q7o=>Fits Zn->CAt Zn Qf (fun y4=>Cnd (y4=true) (At Zn Qf fun _=>InI (Qf+1)/\q7o (Qf+1) (Zn.set Qf.toNat true)) (At Qc Qf fun y6=>At Zn Qf fun _=>InI (Qf+1)/\q7o (Qf+1) (Zn.set Qf.toNat y6))) (Q5 Zn fun Qe=>K Qe)) (0:Int) Qa
def z2e:q71:=z9m q70 Hw
abbrev q72:Type:=Envt->ByteArray->ByteArray->Int->(List (Spn)->Prop)->Prop
def z9n(Zw:Vv)(q0v:q71)(Rd:q1j)(q39:q7z):q72:=fun v layer but now K=>Zw (Envt.mk (Sett.mk v.1.1 v.1.2 v.1.3) v.2 v.3 v.4 v.5 v.6) layer fun Qa=>Cnd (Qa<0) (K []) (Jn1 (fun Qc=>Lp2 (fun Qf Zn q7o=>Fits v.6->CAt v.6 Zn (fun y4=>Cnd (y4.2=layer) (Cnd (y4.1=but) (InI (Zn+1)/\q7o Qf (Zn+1)) (Cnd (y4.5=3) (InI (Zn+1)/\q7o Qf (Zn+1)) (q0v Qf y4.6 fun Zp=>InI (Zn+1)/\q7o Zp (Zn+1)))) (InI (Zn+1)/\q7o Qf (Zn+1))) (K Qf)) Qc (0:Int)) fun j5k=>At v.5 Qa fun y2=>At v.5 Qa fun y4=>(Rd y4.6 now fun Zp=>q39 Zp now fun J6=>q0v [Spn.mk (0:Int) y2.4] J6 fun Wa=>j5k Wa)/\Rd y4.6 now fun Zp=>(q39 Zp now fun J6=>q0v [Spn.mk (0:Int) y2.4] J6 fun Wa=>j5k Wa)/\q39 Zp now fun J6=>q0v [Spn.mk (0:Int) y2.4] J6 fun Wa=>j5k Wa)
def z2f:q72:=z9n q1i z2e q1k z2d
abbrev q0j:Type:=List (Spn)->List (Spn)->(List (Spn)->Prop)->Prop
def z9o(Z5:Bl)(Q5:Wj):q0j:=fun a b K=>Z5 a fun Qa=>Z5 b fun Qc=>Lp2 (fun Qf Zn q7o=>Fits Zn->CAt Zn Qf (fun y4=>Cnd (y4=true) (At Qc Qf fun y6=>At Zn Qf fun _=>InI (Qf+1)/\q7o (Qf+1) (Zn.set Qf.toNat (match decide ((flC C.bool y6).1=true) with|true=>false|false=>true))) (At Zn Qf fun _=>InI (Qf+1)/\q7o (Qf+1) (Zn.set Qf.toNat false))) (Q5 Zn fun Qe=>K Qe)) (0:Int) Qa
def q73:q0j:=z9o q70 Hw
abbrev z1c:Type:=Envt->ByteArray->Int->(List (Spn)->Int->Prop)->Prop
def j35(z70:z69)(Zw:Vv)(z3z:q72)(Gl:q0j):z1c:=fun v layer now K=>z70 now fun Qa=>Cnd (Qa=true) (Zw (Envt.mk (Sett.mk v.1.1 v.1.2 v.1.3) v.2 v.3 v.4 v.5 v.6) layer fun Qc=>Cnd (Qc<0) (K [] (11:Int)) (z3z (Envt.mk (Sett.mk v.1.1 v.1.2 v.1.3) v.2 v.3 v.4 v.5 v.6) layer (B8 []) now fun Qf=>Gl [Spn.mk (0:Int) (10000:Int)] Qf fun Qk=>K Qk (0:Int))) (K [] (3:Int))
def z7b:z1c:=j35 z7a q1i z2f q73
abbrev q74:Type:=List (Spn)->Int->(List (Spn)->Prop)->Prop
def z9p(Z5:Bl)(Q5:Wj):q74:=fun l n K=>Z5 l fun Qa=>Lp3 (fun Qc Z8 z9a y08=>Fits z9a->CAt z9a Z8 (fun y3=>Cnd (y3=true) (Cnd (Qc<=0) (At z9a Z8 fun _=>InI (Z8+1)/\y08 Qc (Z8+1) (z9a.set Z8.toNat false)) (At z9a Z8 fun y5=>Cnd (y5=true) (InI (Qc - 1)/\InI (Z8+1)/\y08 (Qc - 1) (Z8+1) z9a) (InI (Z8+1)/\y08 Qc (Z8+1) z9a))) (At z9a Z8 fun y5=>Cnd (y5=true) (InI (Qc - 1)/\InI (Z8+1)/\y08 (Qc - 1) (Z8+1) z9a) (InI (Z8+1)/\y08 Qc (Z8+1) z9a))) (Q5 z9a fun Qk=>K Qk)) n (0:Int) Qa
def z2g:q74:=z9p q70 Hw
abbrev Vw:Type:=ByteArray->(Bool->Prop)->Prop
def Vx(s:ByteArray)(K:Bool->Prop):Prop:=s.size<=(9223372036854775807:Nat)/\K (Go.Lib.validD s.data.toList)
abbrev Ji:Type:=ByteArray->(Bool->Prop)->Prop
def z7c(Zx:Vw):Ji:=fun s K=>Cnd ((200:Int)<(↑s.size:Int)) (K false) (Zx s fun Qa=>Cnd (Qa=true) (Lp1 (fun Qc R1=>Cnd (Qc<(↑s.size:Int)) (((0:Int)<=Qc/\Qc<(↑s.size:Int))/\ ∀b2,s[Qc.toNat]? =some b2->Cnd ((↑b2.toNat:Int)<32) (K false) (((0:Int)<=Qc/\Qc<(↑s.size:Int))/\ ∀b4,s[Qc.toNat]? =some b4->Cnd ((↑b4.toNat:Int)=127) (K false) (InI (Qc+1)/\R1 (Qc+1)))) (K true)) (0:Int)) (K false))
def Vp:Ji:=z7c Vx
abbrev j1q:Type:=ByteArray->(Bool->Prop)->Prop
def j1r:j1q:=fun s K=>Lp1 (fun Qa q06=>Cnd (Qa<(↑s.size:Int)) (((0:Int)<=Qa/\Qa<(↑s.size:Int))/\ ∀b1,s[Qa.toNat]? =some b1->Cnd ((97:Int)<=(↑b1.toNat:Int)) (Cnd ((↑b1.toNat:Int)<=122) (InI (Qa+1)/\q06 (Qa+1)) (Cnd (Qa=0) (K false) (Cnd ((48:Int)<=(↑b1.toNat:Int)) (Cnd ((↑b1.toNat:Int)<=57) (InI (Qa+1)/\q06 (Qa+1)) (Cnd ((↑b1.toNat:Int)=45) (InI (Qa+1)/\q06 (Qa+1)) (Cnd ((↑b1.toNat:Int)=95) (InI (Qa+1)/\q06 (Qa+1)) (K false)))) (Cnd ((↑b1.toNat:Int)=45) (InI (Qa+1)/\q06 (Qa+1)) (Cnd ((↑b1.toNat:Int)=95) (InI (Qa+1)/\q06 (Qa+1)) (K false)))))) (Cnd (Qa=0) (K false) (Cnd ((48:Int)<=(↑b1.toNat:Int)) (Cnd ((↑b1.toNat:Int)<=57) (InI (Qa+1)/\q06 (Qa+1)) (Cnd ((↑b1.toNat:Int)=45) (InI (Qa+1)/\q06 (Qa+1)) (Cnd ((↑b1.toNat:Int)=95) (InI (Qa+1)/\q06 (Qa+1)) (K false)))) (Cnd ((↑b1.toNat:Int)=45) (InI (Qa+1)/\q06 (Qa+1)) (Cnd ((↑b1.toNat:Int)=95) (InI (Qa+1)/\q06 (Qa+1)) (K false)))))) (K (decide ((0:Int)<(↑s.size:Int))))) (0:Int)
abbrev q6e:Type:=(List (ByteArray)->Prop)->Prop
def q6f:q6e:=fun K=>K [B8 [97,110,100],B8 [97,114,109,115],B8 [97,116,116,114,105,98,117,116,101],B8 [98,111,111,108],B8 [99,108,97,105,109,115],B8 [99,111,110,116,97,105,110,115],B8 [99,111,111,108],B8 [99,111,111,108,105,110,103],B8 [100,101,102,97,117,108,116],B8 [100,114,97,102,116],B8 [101,110,100,115],B8 [101,120,99,108,117,100,101],B8 [101,120,105,115,116,115],B8 [101,120,112,101,114,105,109,101,110,116],B8 [102,97,108,115,101],B8 [102,108,97,103],B8 [104,111,108,100,111,117,116],B8 [105,110],B8 [105,110,99,108,117,100,101],B8 [105,115],B8 [108,97,121,101,114],B8 [108,105,115,116],B8 [109,101,109,98,101,114],B8 [110,101,101,100,115],B8 [110,111,116],B8 [110,117,109,98,101,114],B8 [111,102,102],B8 [111,110],B8 [111,114],B8 [114,117,108,101],B8 [114,117,110,110,105,110,103],B8 [115,97,108,116],B8 [115,101,103,109,101,110,116],B8 [115,101,114,118,101],B8 [115,101,116,116,105,110,103,115],B8 [115,112,108,105,116],B8 [115,116,97,114,116,115],B8 [115,116,111,112,112,101,100],B8 [116,97,114,103,101,116],B8 [116,101,120,116],B8 [116,111],B8 [116,114,117,101],B8 [117,110,116,105,108],B8 [118,97,114,105,97,116,105,111,110,115],B8 [118,101,114,115,105,111,110],B8 [119,104,101,110]]
abbrev Jc:Type:=ByteArray->(Bool->Prop)->Prop
def w4y(j3d:j1q)(q61:q6e):Jc:=fun s K=>j3d s fun Qa=>Cnd (Qa=true) (Cnd ((32:Int)<(↑s.size:Int)) (K false) (q61 fun Qc=>Lp1 (fun Qf j3a=>Fits Qc->CAt Qc Qf (fun y4=>Cnd (y4=s) (K false) (InI (Qf+1)/\j3a (Qf+1))) (K true)) (0:Int))) (K false)
def Hf:Jc:=w4y j1r q6f
abbrev q1l:Type:=Sett->(Int->Prop)->Prop
def z2h(Qu:Ji)(Ql:Jc):q1l:=fun s K=>Qu s.1 fun Qa=>Cnd (Qa=true) (Cnd (s.3<0) (K (3:Int)) (Cnd ((10000:Int)<s.3) (K (3:Int)) (Ql s.2 fun Qc=>Cnd (Qc=true) (K (0:Int)) (Cnd (s.2=B8 []) (Cnd (s.3=0) (K (0:Int)) (K (6:Int))) (K (6:Int)))))) (K (2:Int))
def q6g:q1l:=z2h Vp Hf
abbrev q1m:Type:=List (Decl)->(Int->Prop)->Prop
def z2i(Ql:Jc):q1m:=fun l K=>Fits l->Cnd ((30:Int)<(↑l.length:Int)) (K (5:Int)) (Lp1 (fun Qc R1=>Fits l->CAt l Qc (fun y3=>Ql y3.1 fun Qm=>Cnd (Qm=true) (At l Qc fun y6=>Ql y6.2 fun Wa=>Cnd (Wa=true) (At l Qc fun y9=>Cnd (y9.2=B8 [107,101,121]) (K (6:Int)) (At l Qc fun y11=>Cnd (y11.3<1) (K (7:Int)) (At l Qc fun y13=>Cnd ((5:Int)<y13.3) (K (7:Int)) (Cnd ((0:Int)<Qc) (At l Qc fun y15=>InI (Qc - 1)/\((0:Int)<=Qc - 1/\Qc - 1<(↑l.length:Int))/\ ∀y17,l[(Qc - 1).toNat]? =some y17->Cnd (Lk.blt y15.1 y17.1) (K (9:Int)) (At l Qc fun y19=>InI (Qc - 1)/\((0:Int)<=Qc - 1/\Qc - 1<(↑l.length:Int))/\ ∀y21,l[(Qc - 1).toNat]? =some y21->Cnd (y19.1=y21.1) (At l Qc fun y23=>InI (Qc - 1)/\((0:Int)<=Qc - 1/\Qc - 1<(↑l.length:Int))/\ ∀y25,l[(Qc - 1).toNat]? =some y25->Cnd (Lk.blt y25.2 y23.2) (InI (Qc+1)/\R1 (Qc+1)) (K (9:Int))) (InI (Qc+1)/\R1 (Qc+1)))) (InI (Qc+1)/\R1 (Qc+1)))))) (K (6:Int))) (K (6:Int))) (K (0:Int))) (0:Int))
def q6h:q1m:=z2i Hf
abbrev Hx:Type:=List (ByteArray)->(Int->Prop)->Prop
def z47(Qu:Ji):Hx:=fun l K=>Fits l->Cnd ((40:Int)<(↑l.length:Int)) (K (5:Int)) (Lp1 (fun Qc R1=>Fits l->CAt l Qc (fun y3=>Cnd (y3=B8 []) (K (2:Int)) (At l Qc fun y5=>Qu y5 fun J6=>Cnd (J6=true) (Cnd ((0:Int)<Qc) (At l Qc fun y8=>InI (Qc - 1)/\((0:Int)<=Qc - 1/\Qc - 1<(↑l.length:Int))/\ ∀y10,l[(Qc - 1).toNat]? =some y10->Cnd (Lk.blt y10 y8) (InI (Qc+1)/\R1 (Qc+1)) (K (9:Int))) (InI (Qc+1)/\R1 (Qc+1))) (K (2:Int)))) (K (0:Int))) (0:Int))
def q43:Hx:=z47 Vp
abbrev j1s:Type:=Ex->(Bool->Prop)->Prop
def j1t:j1s:=fun e K=>Cnd (e.1=0) (Cnd (e.2=B8 []) (Cnd (e.3=B8 []) (Fits e.4->Cnd ((↑e.4.length:Int)=0) (Fits e.5->K (decide ((↑e.5.length:Int)=0))) (K false)) (K false)) (K false)) (K false)
abbrev q75:Type:=Ex->(Bool->Prop)->Prop
def z9q(Q2:Vb):q75:=fun e K=>Fits e.5->Fits e.4->Jn2 (fun Qf Zn=>Q2 e.1 fun Qk=>Cnd (Qf=true) (Cnd (Zn=true) (Cnd (Qk=true) (Cnd (Qk=true) (K true) (Cnd (e.1=5) (K true) (K (decide (e.3=B8 []))))) (Cnd (e.2=B8 []) (Cnd (Qk=true) (K true) (Cnd (e.1=5) (K true) (K (decide (e.3=B8 []))))) (K false))) (K false)) (K false)) fun w9q=>Cnd (e.1=2) (Fits e.5->w9q (decide ((2:Int)<=(↑e.5.length:Int))) (decide ((↑e.4.length:Int)=0))) (Cnd (e.1=3) (Fits e.5->w9q (decide ((2:Int)<=(↑e.5.length:Int))) (decide ((↑e.4.length:Int)=0))) (Cnd (e.1=4) (Fits e.5->w9q (decide ((↑e.5.length:Int)=1)) (decide ((↑e.4.length:Int)=0))) (Cnd (e.1=8) (Fits e.4->w9q (decide ((↑e.5.length:Int)=0)) (decide ((0:Int)<(↑e.4.length:Int)))) (Q2 e.1 fun Qk=>Cnd (Qk=true) (Cnd (e.1=6) (w9q (decide ((↑e.5.length:Int)=0)) (decide ((↑e.4.length:Int)=0))) (Fits e.4->w9q (decide ((↑e.5.length:Int)=0)) (decide ((↑e.4.length:Int)=1)))) (w9q (decide ((↑e.5.length:Int)=0)) (decide ((↑e.4.length:Int)=0)))))))
def z2j:q75:=z9q Jy
abbrev z7d:Type:=Val->(Bool->Prop)->Prop
def q7j:z7d:=fun v K=>Cnd (v.1=1) (Cnd (v.1=3) (Cnd (v.1=5) (K true) (Fits v.4->K (decide ((↑v.4.length:Int)=0)))) (Cnd (v.1=4) (Cnd (v.1=5) (K true) (Fits v.4->K (decide ((↑v.4.length:Int)=0)))) (Cnd (v.3=B8 []) (Cnd (v.1=5) (K true) (Fits v.4->K (decide ((↑v.4.length:Int)=0)))) (K false)))) (Cnd (v.1=3) (Cnd (v.1=2) (Cnd (v.1=5) (K true) (Fits v.4->K (decide ((↑v.4.length:Int)=0)))) (Cnd (v.2=0) (Cnd (v.1=5) (K true) (Fits v.4->K (decide ((↑v.4.length:Int)=0)))) (K false))) (Cnd (v.1=2) (Cnd (v.1=4) (Cnd (v.1=5) (K true) (Fits v.4->K (decide ((↑v.4.length:Int)=0)))) (Cnd (v.3=B8 []) (Cnd (v.1=5) (K true) (Fits v.4->K (decide ((↑v.4.length:Int)=0)))) (K false))) (Cnd (v.2=0) (Cnd (v.1=4) (Cnd (v.1=5) (K true) (Fits v.4->K (decide ((↑v.4.length:Int)=0)))) (Cnd (v.3=B8 []) (Cnd (v.1=5) (K true) (Fits v.4->K (decide ((↑v.4.length:Int)=0)))) (K false))) (K false))))
abbrev Bx:Type:=ByteArray->(Int->Int->Prop)->Prop
def Wk:Bx:=fun s K=>Jn1 (fun Qa=>Lp1 (fun Qc R1=>Cnd (Qc<(↑Qa.size:Int)) (((0:Int)<=Qc/\Qc<(↑Qa.size:Int))/\ ∀b2,Qa[Qc.toNat]? =some b2->Cnd ((↑b2.toNat:Int)<48) (K (0:Int) (1:Int)) (((0:Int)<=Qc/\Qc<(↑Qa.size:Int))/\ ∀b4,Qa[Qc.toNat]? =some b4->Cnd ((57:Int)<(↑b4.toNat:Int)) (K (0:Int) (1:Int)) (InI (Qc+1)/\R1 (Qc+1)))) (Cnd (Qa=B8 []) (K (0:Int) (1:Int)) (((0:Int)<=(0:Int)/\(0:Int)<(↑Qa.size:Int))/\ ∀b2,Qa[Int.toNat (0:Int)]? =some b2->Cnd ((↑b2.toNat:Int)=48) (Cnd (s=B8 [48]) (Cnd ((13:Int)<(↑Qa.size:Int)) (K (0:Int) (3:Int)) (Lp2 (fun Qe Jv w9s=>Cnd (Jv<(↑Qa.size:Int)) (InI ((10:Int)*Qe)/\((0:Int)<=Jv/\Jv<(↑Qa.size:Int))/\ ∀b5,Qa[Jv.toNat]? =some b5->InI (Go.IntKind.u8.wrap ((↑b5.toNat:Int) - 48))/\InI ((10:Int)*Qe+Go.IntKind.u8.wrap ((↑b5.toNat:Int) - 48))/\InI (Jv+1)/\w9s ((10:Int)*Qe+Go.IntKind.u8.wrap ((↑b5.toNat:Int) - 48)) (Jv+1)) (Cnd ((1099511627776:Int)<Qe) (K (0:Int) (3:Int)) (Cnd ((↑Qa.size:Int)<(↑s.size:Int)) (InI ((0:Int) - Qe)/\K ((0:Int) - Qe) (0:Int)) (K Qe (0:Int))))) (0:Int) (0:Int))) (K (0:Int) (1:Int))) (Cnd ((13:Int)<(↑Qa.size:Int)) (K (0:Int) (3:Int)) (Lp2 (fun Qe Jv w9s=>Cnd (Jv<(↑Qa.size:Int)) (InI ((10:Int)*Qe)/\((0:Int)<=Jv/\Jv<(↑Qa.size:Int))/\ ∀b5,Qa[Jv.toNat]? =some b5->InI (Go.IntKind.u8.wrap ((↑b5.toNat:Int) - 48))/\InI ((10:Int)*Qe+Go.IntKind.u8.wrap ((↑b5.toNat:Int) - 48))/\InI (Jv+1)/\w9s ((10:Int)*Qe+Go.IntKind.u8.wrap ((↑b5.toNat:Int) - 48)) (Jv+1)) (Cnd ((1099511627776:Int)<Qe) (K (0:Int) (3:Int)) (Cnd ((↑Qa.size:Int)<(↑s.size:Int)) (InI ((0:Int) - Qe)/\K ((0:Int) - Qe) (0:Int)) (K Qe (0:Int))))) (0:Int) (0:Int)))))) (0:Int)) fun q3i=>Cnd ((0:Int)<(↑s.size:Int)) (((0:Int)<=(0:Int)/\(0:Int)<(↑s.size:Int))/\ ∀b1,s[Int.toNat (0:Int)]? =some b1->Cnd ((↑b1.toNat:Int)=45) (((0:Int)<=(1:Int)/\(1:Int)<=(↑s.size:Int)/\(↑s.size:Int)<=(↑s.size:Int))/\q3i (s.extract (Int.toNat (1:Int)) (↑s.size:Int).toNat)) (q3i s)) (q3i s)
abbrev q7k:Type:=ByteArray->(A3->Bool->Prop)->Prop
def z7e(G6:Bx):q7k:=fun s K=>LpH (fun (Qa:Int×Int×Int×Int×Int×Int×Int×Int×Unit) q06=>Cnd (Qa.2.1<3) (Lp1 (fun Qc R1=>Cnd (Qc<(↑s.size:Int)) (((0:Int)<=Qc/\Qc<(↑s.size:Int))/\ ∀b2,s[Qc.toNat]? =some b2->Cnd ((↑b2.toNat:Int)=46) (((0:Int)<=Qa.1/\Qa.1<=Qc/\Qc<=(↑s.size:Int))/\G6 (s.extract Qa.1.toNat Qc.toNat) fun Qe Jv=>Cnd (Jv=0) (Cnd (Qe<0) (K ((0:Int),(0:Int),(0:Int)) false) (Cnd ((999999:Int)<Qe) (K ((0:Int),(0:Int),(0:Int)) false) (Cnd (decide (Qa.2.1<2)=decide (Qc<(↑s.size:Int))) (((0:Int)<=Qa.2.1/\Qa.2.1<(↑(3:Nat):Int))/\((True/\(Qa.2.1=(↑(nat_lit 0):Int)->InI (Qc+1)/\InI (Qa.2.1+1)/\q06 (Qc+1,Qa.2.1+1,Qe,Qa.2.2.2.1,Qa.2.2.2.2.1,Qa.2.2.2.2.2.1,Qa.2.2.2.2.2.2.1,Qa.2.2.2.2.2.2.2.1,())))/\(Qa.2.1=(↑(nat_lit 1):Int)->InI (Qc+1)/\InI (Qa.2.1+1)/\q06 (Qc+1,Qa.2.1+1,Qa.2.2.1,Qe,Qa.2.2.2.2.1,Qa.2.2.2.2.2.1,Qa.2.2.2.2.2.2.1,Qa.2.2.2.2.2.2.2.1,())))/\(Qa.2.1=(↑(nat_lit 2):Int)->InI (Qc+1)/\InI (Qa.2.1+1)/\q06 (Qc+1,Qa.2.1+1,Qa.2.2.1,Qa.2.2.2.1,Qe,Qa.2.2.2.2.2.1,Qa.2.2.2.2.2.2.1,Qa.2.2.2.2.2.2.2.1,()))) (K ((0:Int),(0:Int),(0:Int)) false)))) (K ((0:Int),(0:Int),(0:Int)) false)) (InI (Qc+1)/\R1 (Qc+1))) (((0:Int)<=Qa.1/\Qa.1<=Qc/\Qc<=(↑s.size:Int))/\G6 (s.extract Qa.1.toNat Qc.toNat) fun Qf Zn=>Cnd (Zn=0) (Cnd (Qf<0) (K ((0:Int),(0:Int),(0:Int)) false) (Cnd ((999999:Int)<Qf) (K ((0:Int),(0:Int),(0:Int)) false) (Cnd (decide (Qa.2.1<2)=decide (Qc<(↑s.size:Int))) (((0:Int)<=Qa.2.1/\Qa.2.1<(↑(3:Nat):Int))/\((True/\(Qa.2.1=(↑(nat_lit 0):Int)->InI (Qc+1)/\InI (Qa.2.1+1)/\q06 (Qc+1,Qa.2.1+1,Qf,Qa.2.2.2.1,Qa.2.2.2.2.1,Qa.2.2.2.2.2.1,Qa.2.2.2.2.2.2.1,Qa.2.2.2.2.2.2.2.1,())))/\(Qa.2.1=(↑(nat_lit 1):Int)->InI (Qc+1)/\InI (Qa.2.1+1)/\q06 (Qc+1,Qa.2.1+1,Qa.2.2.1,Qf,Qa.2.2.2.2.1,Qa.2.2.2.2.2.1,Qa.2.2.2.2.2.2.1,Qa.2.2.2.2.2.2.2.1,())))/\(Qa.2.1=(↑(nat_lit 2):Int)->InI (Qc+1)/\InI (Qa.2.1+1)/\q06 (Qc+1,Qa.2.1+1,Qa.2.2.1,Qa.2.2.2.1,Qf,Qa.2.2.2.2.2.1,Qa.2.2.2.2.2.2.1,Qa.2.2.2.2.2.2.2.1,()))) (K ((0:Int),(0:Int),(0:Int)) false)))) (K ((0:Int),(0:Int),(0:Int)) false))) Qa.1) (K (Qa.2.2.1,Qa.2.2.2.1,Qa.2.2.2.2.1) true)) ((0:Int),(0:Int),(0:Int),(0:Int),(0:Int),(0:Int),(0:Int),(0:Int),())
def q3k:q7k:=z7e Wk
abbrev z48:Type:=List (ByteArray)->(Int->Prop)->Prop
def j1u(Qu:Ji):z48:=fun l K=>Fits l->Cnd ((20:Int)<(↑l.length:Int)) (K (5:Int)) (Lp1 (fun Qc R1=>Fits l->CAt l Qc (fun y3=>Qu y3 fun Qm=>Cnd (Qm=true) (InI (Qc+1)/\R1 (Qc+1)) (K (2:Int))) (Lp1 (fun Qk j00=>Fits l->CAt l Qk (fun y5=>InI (Qk - 1)/\((0:Int)<=Qk - 1/\Qk - 1<(↑l.length:Int))/\ ∀y7,l[(Qk - 1).toNat]? =some y7->Cnd (Lk.blt y7 y5) (InI (Qk+1)/\j00 (Qk+1)) (K (9:Int))) (K (0:Int))) (1:Int))) (0:Int))
def z1d:z48:=j1u Vp
abbrev q0z:Type:=Val->(Int->Prop)->Prop
def z7f(z71:z7d)(Qu:Ji)(q4a:q7k)(j3e:z48):q0z:=fun v K=>Cnd (v.1<1) (K (7:Int)) (Cnd ((5:Int)<v.1) (K (7:Int)) (z71 v fun Qa=>Cnd (Qa=true) (Cnd (v.1=1) (Cnd (v.2=0) (K (0:Int)) (Cnd (v.2=1) (K (0:Int)) (K (3:Int)))) (Cnd (v.1=2) (Cnd (v.2<(-1099511627776:Int)) (K (3:Int)) (Cnd ((1099511627776:Int)<v.2) (K (3:Int)) (K (0:Int)))) (Cnd (v.1=3) (Qu v.3 fun Qc=>Cnd (Qc=true) (K (0:Int)) (K (2:Int))) (Cnd (v.1=4) (q4a v.3 fun (Qc:Int×Int×Int) Z8=>Cnd (Z8=true) (K (0:Int)) (K (1:Int))) (Cnd (v.1=5) (j3e v.4 fun Qc=>K Qc) (K (0:Int))))))) (K (15:Int))))
def q00:q0z:=z7f q7j Vp q3k z1d
abbrev z49:Type:=Ex->(Int->Prop)->Prop
def j83(z30:q75)(Q2:Vb)(Ql:Jc)(Jj:q0z):z49:=fun e K=>Cnd (e.1<1) (K (7:Int)) (Cnd ((15:Int)<e.1) (K (7:Int)) (z30 (Ex.mk e.1 e.2 e.3 e.4 e.5) fun Qa=>Cnd (Qa=true) (Fits e.5->Cnd ((12:Int)<(↑e.5.length:Int)) (K (5:Int)) (Fits e.4->Cnd ((20:Int)<(↑e.4.length:Int)) (K (5:Int)) (Lp1 (fun Qk j00=>Fits e.5->CAt e.5 Qk (fun y5=>Cnd (y5.1=e.1) (Cnd (e.1=4) (InI (Qk+1)/\j00 (Qk+1)) (K (15:Int))) (InI (Qk+1)/\j00 (Qk+1))) (Q2 e.1 fun Qm=>Cnd (Qm=true) (Ql e.2 fun Zp=>Cnd (Zp=true) (Q2 e.1 fun J6=>Cnd (J6=true) (Ql e.3 fun Wa=>Cnd (Wa=true) (Lp1 (fun Qs y8l=>Fits e.4->CAt e.4 Qs (fun y11=>Jj y11 fun Za=>Cnd (Za=0) (InI (Qs+1)/\y8l (Qs+1)) (K Za)) (Cnd (e.1=9) (((0:Int)<=(0:Int)/\(0:Int)<(↑e.4.length:Int))/\ ∀y11,e.4[Int.toNat (0:Int)]? =some y11->Cnd (y11.1=3) (K (0:Int)) (K (8:Int))) (Cnd (e.1=10) (((0:Int)<=(0:Int)/\(0:Int)<(↑e.4.length:Int))/\ ∀y11,e.4[Int.toNat (0:Int)]? =some y11->Cnd (y11.1=3) (K (0:Int)) (K (8:Int))) (Cnd (e.1=11) (((0:Int)<=(0:Int)/\(0:Int)<(↑e.4.length:Int))/\ ∀y11,e.4[Int.toNat (0:Int)]? =some y11->Cnd (y11.1=3) (K (0:Int)) (K (8:Int))) (K (0:Int)))))) (0:Int)) (K (6:Int))) (Cnd (e.1=5) (Ql e.3 fun Wa=>Cnd (Wa=true) (Lp1 (fun Qs y8l=>Fits e.4->CAt e.4 Qs (fun y11=>Jj y11 fun Za=>Cnd (Za=0) (InI (Qs+1)/\y8l (Qs+1)) (K Za)) (Cnd (e.1=9) (((0:Int)<=(0:Int)/\(0:Int)<(↑e.4.length:Int))/\ ∀y11,e.4[Int.toNat (0:Int)]? =some y11->Cnd (y11.1=3) (K (0:Int)) (K (8:Int))) (Cnd (e.1=10) (((0:Int)<=(0:Int)/\(0:Int)<(↑e.4.length:Int))/\ ∀y11,e.4[Int.toNat (0:Int)]? =some y11->Cnd (y11.1=3) (K (0:Int)) (K (8:Int))) (Cnd (e.1=11) (((0:Int)<=(0:Int)/\(0:Int)<(↑e.4.length:Int))/\ ∀y11,e.4[Int.toNat (0:Int)]? =some y11->Cnd (y11.1=3) (K (0:Int)) (K (8:Int))) (K (0:Int)))))) (0:Int)) (K (6:Int))) (Lp1 (fun Wa u0y=>Fits e.4->CAt e.4 Wa (fun y10=>Jj y10 fun Gm=>Cnd (Gm=0) (InI (Wa+1)/\u0y (Wa+1)) (K Gm)) (Cnd (e.1=9) (((0:Int)<=(0:Int)/\(0:Int)<(↑e.4.length:Int))/\ ∀y10,e.4[Int.toNat (0:Int)]? =some y10->Cnd (y10.1=3) (K (0:Int)) (K (8:Int))) (Cnd (e.1=10) (((0:Int)<=(0:Int)/\(0:Int)<(↑e.4.length:Int))/\ ∀y10,e.4[Int.toNat (0:Int)]? =some y10->Cnd (y10.1=3) (K (0:Int)) (K (8:Int))) (Cnd (e.1=11) (((0:Int)<=(0:Int)/\(0:Int)<(↑e.4.length:Int))/\ ∀y10,e.4[Int.toNat (0:Int)]? =some y10->Cnd (y10.1=3) (K (0:Int)) (K (8:Int))) (K (0:Int)))))) (0:Int)))) (K (6:Int))) (Q2 e.1 fun Zp=>Cnd (Zp=true) (Ql e.3 fun J6=>Cnd (J6=true) (Lp1 (fun Wa u0y=>Fits e.4->CAt e.4 Wa (fun y10=>Jj y10 fun Gm=>Cnd (Gm=0) (InI (Wa+1)/\u0y (Wa+1)) (K Gm)) (Cnd (e.1=9) (((0:Int)<=(0:Int)/\(0:Int)<(↑e.4.length:Int))/\ ∀y10,e.4[Int.toNat (0:Int)]? =some y10->Cnd (y10.1=3) (K (0:Int)) (K (8:Int))) (Cnd (e.1=10) (((0:Int)<=(0:Int)/\(0:Int)<(↑e.4.length:Int))/\ ∀y10,e.4[Int.toNat (0:Int)]? =some y10->Cnd (y10.1=3) (K (0:Int)) (K (8:Int))) (Cnd (e.1=11) (((0:Int)<=(0:Int)/\(0:Int)<(↑e.4.length:Int))/\ ∀y10,e.4[Int.toNat (0:Int)]? =some y10->Cnd (y10.1=3) (K (0:Int)) (K (8:Int))) (K (0:Int)))))) (0:Int)) (K (6:Int))) (Cnd (e.1=5) (Ql e.3 fun J6=>Cnd (J6=true) (Lp1 (fun Wa u0y=>Fits e.4->CAt e.4 Wa (fun y10=>Jj y10 fun Gm=>Cnd (Gm=0) (InI (Wa+1)/\u0y (Wa+1)) (K Gm)) (Cnd (e.1=9) (((0:Int)<=(0:Int)/\(0:Int)<(↑e.4.length:Int))/\ ∀y10,e.4[Int.toNat (0:Int)]? =some y10->Cnd (y10.1=3) (K (0:Int)) (K (8:Int))) (Cnd (e.1=10) (((0:Int)<=(0:Int)/\(0:Int)<(↑e.4.length:Int))/\ ∀y10,e.4[Int.toNat (0:Int)]? =some y10->Cnd (y10.1=3) (K (0:Int)) (K (8:Int))) (Cnd (e.1=11) (((0:Int)<=(0:Int)/\(0:Int)<(↑e.4.length:Int))/\ ∀y10,e.4[Int.toNat (0:Int)]? =some y10->Cnd (y10.1=3) (K (0:Int)) (K (8:Int))) (K (0:Int)))))) (0:Int)) (K (6:Int))) (Lp1 (fun J6 y8m=>Fits e.4->CAt e.4 J6 (fun y9=>Jj y9 fun Ud=>Cnd (Ud=0) (InI (J6+1)/\y8m (J6+1)) (K Ud)) (Cnd (e.1=9) (((0:Int)<=(0:Int)/\(0:Int)<(↑e.4.length:Int))/\ ∀y9,e.4[Int.toNat (0:Int)]? =some y9->Cnd (y9.1=3) (K (0:Int)) (K (8:Int))) (Cnd (e.1=10) (((0:Int)<=(0:Int)/\(0:Int)<(↑e.4.length:Int))/\ ∀y9,e.4[Int.toNat (0:Int)]? =some y9->Cnd (y9.1=3) (K (0:Int)) (K (8:Int))) (Cnd (e.1=11) (((0:Int)<=(0:Int)/\(0:Int)<(↑e.4.length:Int))/\ ∀y9,e.4[Int.toNat (0:Int)]? =some y9->Cnd (y9.1=3) (K (0:Int)) (K (8:Int))) (K (0:Int)))))) (0:Int)))))) (0:Int)))) (K (15:Int))))
def z1e:z49:=j83 z2j Jy Hf q00
abbrev q44:Type:=Ex->Int->Int->(Int->Int->Prop)->Prop
def j84(j3f:z49)(X:q44):q44:=fun e depth n K=>Cnd ((60:Int)<=n) (K (5:Int) n) (InI (n+1)/\Cnd ((10:Int)<depth) (K (18:Int) (n+1)) (j3f (Ex.mk e.1 e.2 e.3 e.4 e.5) fun Qa=>Cnd (Qa=0) (Lp2 (fun Qc Z8 z8j=>Fits e.5->CAt e.5 Qc (fun y3=>InI (depth+1)/\X (Ex.mk y3.1 y3.2 y3.3 y3.4 y3.5) (depth+1) Z8 fun Qm q87=>Cnd (Qm=0) (InI (Qc+1)/\z8j (Qc+1) q87) (K Qm q87)) (K (0:Int) Z8)) (0:Int) (n+1)) (K Qa (n+1))))
def j1v:q44:=fun e depth n K=> ∀X:q44,(∀e depth n K,j84 z1e X e depth n K->X e depth n K)->X e depth n K
abbrev q1n:Type:=Ex->(Int->Prop)->Prop
def j85(j3g:q44):q1n:=fun e K=>j3g (Ex.mk e.1 e.2 e.3 e.4 e.5) (1:Int) (0:Int) fun Qa _=>K Qa
def z1f:q1n:=j85 j1v
abbrev q45:Type:=Seg->(Int->Prop)->Prop
def z5a(Ql:Jc)(W6:Hx)(j3h:j1s)(V5:q1n):q45:=fun g K=>Ql g.1 fun Qa=>Cnd (Qa=true) (Ql g.2 fun Qc=>Cnd (Qc=true) (W6 g.3 fun Qf=>Cnd (Qf=0) (W6 g.4 fun Qk=>Cnd (Qk=0) (j3h (Ex.mk g.5.1 g.5.2 g.5.3 g.5.4 g.5.5) fun Qe=>Cnd (Qe=true) (K (0:Int)) (V5 (Ex.mk g.5.1 g.5.2 g.5.3 g.5.4 g.5.5) fun Qm=>K Qm)) (K Qk)) (K Qf)) (K (6:Int))) (K (6:Int))
def q9f:q45:=z5a Hf q43 j1t z1f
abbrev q1o:Type:=List (Seg)->(Int->Prop)->Prop
def z2k(q96:q45):q1o:=fun l K=>Fits l->Cnd ((20:Int)<(↑l.length:Int)) (K (5:Int)) (Lp1 (fun Qc R1=>Fits l->CAt l Qc (fun y3=>q96 (Seg.mk y3.1 y3.2 y3.3 y3.4 (Ex.mk y3.5.1 y3.5.2 y3.5.3 y3.5.4 y3.5.5)) fun Qm=>Cnd (Qm=0) (Cnd ((0:Int)<Qc) (At l Qc fun y6=>InI (Qc - 1)/\((0:Int)<=Qc - 1/\Qc - 1<(↑l.length:Int))/\ ∀y8,l[(Qc - 1).toNat]? =some y8->Cnd (Lk.blt y8.1 y6.1) (InI (Qc+1)/\R1 (Qc+1)) (K (9:Int))) (InI (Qc+1)/\R1 (Qc+1))) (K Qm)) (K (0:Int))) (0:Int))
def q6i:q1o:=z2k q9f
abbrev Hy:Type:=Flg->(Int->Prop)->Prop
def q76(Jj:q0z):Hy:=fun f K=>Fits f.3->Cnd ((8:Int)<(↑f.3.length:Int)) (K (5:Int)) (Cnd ((↑f.3.length:Int)=0) (K (3:Int)) (Lp1 (fun Qc R1=>CAt f.3 Qc (fun y2=>Jj y2 fun Qe=>Cnd (Qe=0) (At f.3 Qc fun y5=>Cnd (y5.1=f.2) (InI (Qc+1)/\R1 (Qc+1)) (K (8:Int))) (K Qe)) (Cnd (f.5<1) (K (3:Int)) (Cnd ((↑f.3.length:Int)<f.5) (K (3:Int)) (K (0:Int))))) (0:Int)))
def q1p:Hy:=q76 q00
abbrev Vy:Type:=List (Prq)->(Int->Prop)->Prop
def q1q(Ql:Jc):Vy:=fun l K=>Fits l->Cnd ((4:Int)<(↑l.length:Int)) (K (5:Int)) (Lp1 (fun Qc R1=>Fits l->CAt l Qc (fun y3=>Ql y3.1 fun Qm=>Cnd (Qm=true) (Cnd ((0:Int)<Qc) (At l Qc fun y6=>InI (Qc - 1)/\((0:Int)<=Qc - 1/\Qc - 1<(↑l.length:Int))/\ ∀y8,l[(Qc - 1).toNat]? =some y8->Cnd (Lk.blt y8.1 y6.1) (At l Qc fun y10=>Cnd (y10.2<1) (K (3:Int)) (At l Qc fun y12=>Cnd ((8:Int)<y12.2) (K (3:Int)) (InI (Qc+1)/\R1 (Qc+1)))) (K (9:Int))) (At l Qc fun y6=>Cnd (y6.2<1) (K (3:Int)) (At l Qc fun y8=>Cnd ((8:Int)<y8.2) (K (3:Int)) (InI (Qc+1)/\R1 (Qc+1))))) (K (6:Int))) (K (0:Int))) (0:Int))
def Hg:Vy:=q1q Hf
abbrev q46:Type:=List (Tgt)->Int->(Int->Prop)->Prop
def z5b(Ql:Jc)(W6:Hx):q46:=fun l n K=>Fits l->Cnd ((8:Int)<(↑l.length:Int)) (K (5:Int)) (Lp1 (fun Qc R1=>Fits l->CAt l Qc (fun y3=>Ql y3.1 fun Qm=>Cnd (Qm=true) (At l Qc fun y6=>Cnd (y6.2<1) (K (3:Int)) (At l Qc fun y8=>Cnd (n<y8.2) (K (3:Int)) (At l Qc fun y10=>Fits y10.3->Cnd ((↑y10.3.length:Int)=0) (K (3:Int)) (At l Qc fun y13=>W6 y13.3 fun w1d=>Cnd (w1d=0) (InI (Qc+1)/\R1 (Qc+1)) (K w1d))))) (K (6:Int))) (K (0:Int))) (0:Int))
def q9g:q46:=z5b Hf q43
abbrev q7l:Type:=List (Rng)->Int->(Int->Prop)->Prop
def z1g:q7l:=fun l variations K=>Fits l->Cnd ((16:Int)<(↑l.length:Int)) (K (5:Int)) (Lp2 (fun Qc Z8 z8j=>Fits l->CAt l Z8 (fun y3=>Cnd (y3.3<1) (K (3:Int)) (At l Z8 fun y5=>Cnd (variations<y5.3) (K (3:Int)) (At l Z8 fun y7=>Cnd (y7.1=Qc) (At l Z8 fun y9=>Cnd (y9.2<=Qc) (K (9:Int)) (Cnd ((0:Int)<Z8) (At l Z8 fun y11=>InI (Z8 - 1)/\((0:Int)<=Z8 - 1/\Z8 - 1<(↑l.length:Int))/\ ∀y13,l[(Z8 - 1).toNat]? =some y13->Cnd (y11.3=y13.3) (K (9:Int)) (At l Z8 fun y15=>InI (Z8+1)/\z8j y15.2 (Z8+1))) (At l Z8 fun y11=>InI (Z8+1)/\z8j y11.2 (Z8+1)))) (K (9:Int))))) (Cnd (Qc=10000) (K (0:Int)) (K (3:Int)))) (0:Int) (0:Int))
abbrev q3l:Type:=Srv->Int->(Int->Prop)->Prop
def j36(Ql:Jc)(Qu:Ji)(R2:q7l):q3l:=fun v variations K=>Cnd (v.1=0) (Ql v.2 fun Qa=>Cnd (Qa=true) (Ql v.3 fun Qc=>Cnd (Qc=true) (Qu v.4 fun Qf=>Cnd (Qf=true) (R2 v.5 variations fun Qk=>K Qk) (K (2:Int))) (K (6:Int))) (K (6:Int))) (Cnd (v.1<1) (K (3:Int)) (Cnd (variations<v.1) (K (3:Int)) (Cnd (v.2=B8 []) (Cnd (v.3=B8 []) (Cnd (v.4=B8 []) (Fits v.5->Cnd ((0:Int)<(↑v.5.length:Int)) (K (15:Int)) (K (0:Int))) (K (15:Int))) (K (15:Int))) (K (15:Int)))))
def z1h:q3l:=j36 Hf Vp z1g
abbrev z1i:Type:=List (Rul)->Int->(Int->Prop)->Prop
def j37(Ql:Jc)(V5:q1n)(R3:q3l):z1i:=fun l n K=>Fits l->Cnd ((12:Int)<(↑l.length:Int)) (K (5:Int)) (Lp1 (fun Qc R1=>Fits l->CAt l Qc (fun y3=>Ql y3.1 fun Qm=>Cnd (Qm=true) (Lp1 (fun Zp v6s=>Cnd (Zp<Qc) (At l Zp fun y7=>At l Qc fun y9=>Cnd (y7.1=y9.1) (K (10:Int)) (InI (Zp+1)/\v6s (Zp+1))) (At l Qc fun y7=>V5 (Ex.mk y7.2.1 y7.2.2 y7.2.3 y7.2.4 y7.2.5) fun Qs=>Cnd (Qs=0) (At l Qc fun y10=>R3 (Srv.mk y10.3.1 y10.3.2 y10.3.3 y10.3.4 y10.3.5) n fun Gm=>Cnd (Gm=0) (InI (Qc+1)/\R1 (Qc+1)) (K Gm)) (K Qs))) (0:Int)) (K (6:Int))) (K (0:Int))) (0:Int))
def z7g:z1i:=j37 Hf z1f z1h
abbrev z5c:Type:=Flg->(Int->Prop)->Prop
def j86(Ql:Jc)(q25:Hy)(Hn:Vy)(q97:q46)(z72:z1i)(R3:q3l):z5c:=fun f K=>Fits f.3->Ql f.1 fun Qc=>Cnd (Qc=true) (Cnd (f.2<1) (K (7:Int)) (Cnd ((5:Int)<f.2) (K (7:Int)) (q25 (Flg.mk f.1 f.2 f.3 f.4 f.5 f.6 f.7 f.8 (Srv.mk f.9.1 f.9.2 f.9.3 f.9.4 f.9.5)) fun Qf=>Cnd (Qf=0) (Hn f.6 fun Qk=>Cnd (Qk=0) (q97 f.7 (↑f.3.length:Int) fun Qe=>Cnd (Qe=0) (z72 f.8 (↑f.3.length:Int) fun Qm=>Cnd (Qm=0) (R3 (Srv.mk f.9.1 f.9.2 f.9.3 f.9.4 f.9.5) (↑f.3.length:Int) fun Zp=>K Zp) (K Qm)) (K Qe)) (K Qk)) (K Qf)))) (K (6:Int))
def j1w:z5c:=j86 Hf q1p Hg q9g z7g z1h
abbrev z1j:Type:=List (Flg)->(Int->Prop)->Prop
def j38(j3i:z5c):z1j:=fun l K=>Fits l->Cnd ((30:Int)<(↑l.length:Int)) (K (5:Int)) (Lp1 (fun Qc R1=>Fits l->CAt l Qc (fun y3=>j3i (Flg.mk y3.1 y3.2 y3.3 y3.4 y3.5 y3.6 y3.7 y3.8 (Srv.mk y3.9.1 y3.9.2 y3.9.3 y3.9.4 y3.9.5)) fun Qm=>Cnd (Qm=0) (Cnd ((0:Int)<Qc) (At l Qc fun y6=>InI (Qc - 1)/\((0:Int)<=Qc - 1/\Qc - 1<(↑l.length:Int))/\ ∀y8,l[(Qc - 1).toNat]? =some y8->Cnd (Lk.blt y8.1 y6.1) (InI (Qc+1)/\R1 (Qc+1)) (K (9:Int))) (InI (Qc+1)/\R1 (Qc+1))) (K Qm)) (K (0:Int))) (0:Int))
def z7h:z1j:=j38 j1w
abbrev z1k:Type:=Lay_->(Int->Prop)->Prop
def j39(Ql:Jc)(Qu:Ji):z1k:=fun l K=>Ql l.1 fun Qa=>Cnd (Qa=true) (Ql l.2 fun Qc=>Cnd (Qc=true) (Qu l.3 fun Qf=>Cnd (Qf=true) (Cnd (l.4<0) (K (3:Int)) (Cnd ((10000:Int)<l.4) (K (3:Int)) (Cnd (l.5<0) (K (3:Int)) (Cnd ((1099511627776:Int)<l.5) (K (3:Int)) (Fits l.6->Cnd ((32:Int)<(↑l.6.length:Int)) (K (5:Int)) (Lp1 (fun Qe w9t=>Fits l.6->CAt l.6 Qe (fun y6=>Cnd (y6.1<0) (K (3:Int)) (Cnd (y6.2<=y6.1) (K (3:Int)) (Cnd ((10000:Int)<y6.2) (K (3:Int)) (Cnd (y6.3<0) (K (3:Int)) (Cnd ((1099511627776:Int)<y6.3) (K (3:Int)) (Cnd ((0:Int)<Qe) (InI (Qe - 1)/\((0:Int)<=Qe - 1/\Qe - 1<(↑l.6.length:Int))/\ ∀y8,l.6[(Qe - 1).toNat]? =some y8->Cnd (y6.1<y8.2) (K (9:Int)) (InI (Qe+1)/\w9t (Qe+1))) (InI (Qe+1)/\w9t (Qe+1)))))))) (K (0:Int))) (0:Int))))))) (K (2:Int))) (K (6:Int))) (K (6:Int))
def z7i:z1k:=j39 Hf Vp
abbrev q77:Type:=List (Lay_)->(Int->Prop)->Prop
def z9r(z73:z1k):q77:=fun l K=>Fits l->Cnd ((6:Int)<(↑l.length:Int)) (K (5:Int)) (Lp1 (fun Qc R1=>Fits l->CAt l Qc (fun y3=>z73 y3 fun Qm=>Cnd (Qm=0) (Cnd ((0:Int)<Qc) (At l Qc fun y6=>InI (Qc - 1)/\((0:Int)<=Qc - 1/\Qc - 1<(↑l.length:Int))/\ ∀y8,l[(Qc - 1).toNat]? =some y8->Cnd (Lk.blt y8.1 y6.1) (InI (Qc+1)/\R1 (Qc+1)) (K (9:Int))) (InI (Qc+1)/\R1 (Qc+1))) (K Qm)) (K (0:Int))) (0:Int))
def z2l:q77:=z9r z7i
abbrev z7j:Type:=List (Spn)->(Int->Prop)->Prop
def z7k:z7j:=fun l K=>Fits l->Cnd ((16:Int)<(↑l.length:Int)) (K (5:Int)) (Lp1 (fun Qc R1=>Fits l->CAt l Qc (fun y3=>Cnd (y3.1<0) (K (3:Int)) (At l Qc fun y5=>At l Qc fun y7=>Cnd (y7.2<=y5.1) (K (3:Int)) (At l Qc fun y9=>Cnd ((10000:Int)<y9.2) (K (3:Int)) (Cnd ((0:Int)<Qc) (At l Qc fun y11=>InI (Qc - 1)/\((0:Int)<=Qc - 1/\Qc - 1<(↑l.length:Int))/\ ∀y13,l[(Qc - 1).toNat]? =some y13->Cnd (y11.1<=y13.2) (K (9:Int)) (InI (Qc+1)/\R1 (Qc+1))) (InI (Qc+1)/\R1 (Qc+1)))))) (K (0:Int))) (0:Int))
abbrev Hz:Type:=Exper->(Int->Prop)->Prop
def q78(Ql:Jc)(Qu:Ji)(z74:z7j)(R2:q7l)(V5:q1n):Hz:=fun x K=>Ql x.1 fun Qa=>Cnd (Qa=true) (Ql x.2 fun Qc=>Cnd (Qc=true) (Ql x.3 fun Qf=>Cnd (Qf=true) (Qu x.4 fun Qk=>Cnd (Qk=true) (Cnd (x.5<1) (K (7:Int)) (Cnd ((3:Int)<x.5) (K (7:Int)) (z74 x.6 fun Qe=>Cnd (Qe=0) (R2 x.7 (8:Int) fun Qm=>Cnd (Qm=0) (V5 (Ex.mk x.8.1 x.8.2 x.8.3 x.8.4 x.8.5) fun Zp=>K Zp) (K Qm)) (K Qe)))) (K (2:Int))) (K (6:Int))) (K (6:Int))) (K (6:Int))
def q1r:Hz:=q78 Hf Vp z7k z1g z1f
abbrev Gv:Type:=List (Exper)->(Int->Prop)->Prop
def q5r(q26:Hz):Gv:=fun l K=>Fits l->Cnd ((16:Int)<(↑l.length:Int)) (K (5:Int)) (Lp1 (fun Qc R1=>Fits l->CAt l Qc (fun y3=>q26 (Exper.mk y3.1 y3.2 y3.3 y3.4 y3.5 y3.6 y3.7 (Ex.mk y3.8.1 y3.8.2 y3.8.3 y3.8.4 y3.8.5)) fun Qm=>Cnd (Qm=0) (Cnd ((0:Int)<Qc) (At l Qc fun y6=>InI (Qc - 1)/\((0:Int)<=Qc - 1/\Qc - 1<(↑l.length:Int))/\ ∀y8,l[(Qc - 1).toNat]? =some y8->Cnd (Lk.blt y8.1 y6.1) (InI (Qc+1)/\R1 (Qc+1)) (K (9:Int))) (InI (Qc+1)/\R1 (Qc+1))) (K Qm)) (K (0:Int))) (0:Int))
def By:Gv:=q5r q1r
abbrev Gw:Type:=Envt->(Int->Prop)->Prop
def q5s(q62:q1l)(q63:q1m)(q64:q1o)(z77:z1j)(z32:q77)(q0a:Gv):Gw:=fun v K=>q62 (Sett.mk v.1.1 v.1.2 v.1.3) fun Qa=>Cnd (Qa=0) (q63 v.2 fun Qc=>Cnd (Qc=0) (q64 v.3 fun Qf=>Cnd (Qf=0) (z77 v.4 fun Qk=>Cnd (Qk=0) (z32 v.5 fun Qe=>Cnd (Qe=0) (q0a v.6 fun Qm=>K Qm) (K Qe)) (K Qk)) (K Qf)) (K Qc)) (K Qa)
def Bz:Gw:=q5s q6g q6h q6i z7h z2l By
abbrev q01:Type:=List (Seg)->(List (ByteArray)->Prop)->Prop
def z1l:q01:=fun l K=>Lp2 (fun Qa Qy q3h=>Fits l->CAt l Qy (fun y2=>Sml (Qa++[y2.1]).length/\InI (Qy+1)/\q3h (Qa++[y2.1]) (Qy+1)) (K Qa)) [] (0:Int)
abbrev B0:Type:=List (ByteArray)->ByteArray->(Bool->Prop)->Prop
def q1s:B0:=fun l s K=>Lp1 (fun Qa q06=>Fits l->CAt l Qa (fun y2=>Cnd (y2=s) (K true) (InI (Qa+1)/\q06 (Qa+1))) (K false)) (0:Int)
abbrev z1m:Type:=List (Decl)->ByteArray->ByteArray->(Int->Prop)->Prop
def q47:z1m:=fun l kind name K=>Lp1 (fun Qa q06=>Fits l->CAt l Qa (fun y2=>Cnd (y2.1=kind) (At l Qa fun y4=>Cnd (y4.2=name) (At l Qa fun y6=>K y6.3) (InI (Qa+1)/\q06 (Qa+1))) (InI (Qa+1)/\q06 (Qa+1))) (Cnd (name=B8 [107,101,121]) (K (3:Int)) (K (0:Int)))) (0:Int)
abbrev j1x:Type:=Int->Ex->(Bool->Prop)->Prop
def q79:j1x:=fun t e K=>Cnd (e.1=6) (K true) (Cnd (e.1=8) (Lp1 (fun Qa q06=>Fits e.4->CAt e.4 Qa (fun y2=>Cnd (y2.1=t) (InI (Qa+1)/\q06 (Qa+1)) (K false)) (K (match decide ((t,e,()).1=5) with|true=>false|false=>true))) (0:Int)) (Fits e.4->Cnd ((↑e.4.length:Int)=0) (K false) (((0:Int)<=(0:Int)/\(0:Int)<(↑e.4.length:Int))/\ ∀y1,e.4[Int.toNat (0:Int)]? =some y1->Cnd (e.1=7) (K (decide (y1.1=t))) (Jn1 (fun Qk=>Cnd (Qk=true) (Cnd (t=3) (K (decide (y1.1=3))) (K false)) (Cnd (e.1=11) (Cnd (t=3) (K (decide (y1.1=3))) (Cnd (t=5) (K (decide (y1.1=3))) (K false))) (Cnd (t=2) (K (decide (y1.1=t))) (Cnd (t=3) (K (decide (y1.1=t))) (Cnd (t=4) (K (decide (y1.1=t))) (K false)))))) fun y5m=>Cnd (e.1=9) (y5m (decide (e.1=9))) (y5m (decide (e.1=10)))))))
abbrev Gx:Type:=List (Decl)->List (ByteArray)->Ex->(Int->Prop)->Prop
def j87(Jr:B0)(Q2:Vb)(Bq:z1m)(z6v:j1x)(X:Gx):Gx:=fun l segments e K=>Cnd (e.1=5) (Jr segments e.3 fun Qa=>Cnd (Qa=true) (Jn0 (Lp1 (fun Qc R1=>Fits e.5->CAt e.5 Qc (fun y3=>X l segments (Ex.mk y3.1 y3.2 y3.3 y3.4 y3.5) fun Qm=>Cnd (Qm=0) (InI (Qc+1)/\R1 (Qc+1)) (K Qm)) (K (0:Int))) (0:Int)) fun Qc=>Q2 e.1 fun Qf=>Cnd (Qf=true) (Bq l e.2 e.3 fun Qk=>Cnd (Qk=0) (K (11:Int)) (z6v Qk (Ex.mk e.1 e.2 e.3 e.4 e.5) fun Qe=>Cnd (Qe=true) Qc (K (8:Int)))) Qc) (K (11:Int))) (Jn0 (Lp1 (fun Qa q06=>Fits e.5->CAt e.5 Qa (fun y2=>X l segments (Ex.mk y2.1 y2.2 y2.3 y2.4 y2.5) fun Qe=>Cnd (Qe=0) (InI (Qa+1)/\q06 (Qa+1)) (K Qe)) (K (0:Int))) (0:Int)) fun Qa=>Q2 e.1 fun Qc=>Cnd (Qc=true) (Bq l e.2 e.3 fun Qf=>Cnd (Qf=0) (K (11:Int)) (z6v Qf (Ex.mk e.1 e.2 e.3 e.4 e.5) fun Qk=>Cnd (Qk=true) Qa (K (8:Int)))) Qa)
def z1n:Gx:=fun l segments e K=> ∀X:Gx,(∀l segments e K,j87 q1s Jy q47 q79 X l segments e K->X l segments e K)->X l segments e K
abbrev q9h:Type:=List (ByteArray)->ByteArray->(List (ByteArray)->Prop)->Prop
def q9i:q9h:=fun l s K=>Lp1 (fun Qa q06=>Fits l->CAt l Qa (fun y2=>Cnd (Lk.blt y2 s) (InI (Qa+1)/\q06 (Qa+1)) (Fits l->CAt l Qa (fun y5=>Cnd (y5=s) (K l) (((0:Int)<=(0:Int)/\(0:Int)<=Qa/\Qa<=(↑l.length:Int))/\Sml ([]++List.drop (Int.toNat (0:Int)) (List.take Qa.toNat l)).length/\((0:Int)<=Qa/\Qa<=(↑l.length:Int)/\(↑l.length:Int)<=(↑l.length:Int))/\Sml ([]++List.drop (Int.toNat (0:Int)) (List.take Qa.toNat l)++[s]).length/\Sml ([]++List.drop (Int.toNat (0:Int)) (List.take Qa.toNat l)++[s]++List.drop Qa.toNat (List.take (↑l.length:Int).toNat l)).length/\K ([]++List.drop (Int.toNat (0:Int)) (List.take Qa.toNat l)++[s]++List.drop Qa.toNat (List.take (↑l.length:Int).toNat l)))) (((0:Int)<=(0:Int)/\(0:Int)<=Qa/\Qa<=(↑l.length:Int))/\Sml ([]++List.drop (Int.toNat (0:Int)) (List.take Qa.toNat l)).length/\((0:Int)<=Qa/\Qa<=(↑l.length:Int)/\(↑l.length:Int)<=(↑l.length:Int))/\Sml ([]++List.drop (Int.toNat (0:Int)) (List.take Qa.toNat l)++[s]).length/\Sml ([]++List.drop (Int.toNat (0:Int)) (List.take Qa.toNat l)++[s]++List.drop Qa.toNat (List.take (↑l.length:Int).toNat l)).length/\K ([]++List.drop (Int.toNat (0:Int)) (List.take Qa.toNat l)++[s]++List.drop Qa.toNat (List.take (↑l.length:Int).toNat l))))) (Fits l->CAt l Qa (fun y3=>Cnd (y3=s) (K l) (((0:Int)<=(0:Int)/\(0:Int)<=Qa/\Qa<=(↑l.length:Int))/\Sml ([]++List.drop (Int.toNat (0:Int)) (List.take Qa.toNat l)).length/\((0:Int)<=Qa/\Qa<=(↑l.length:Int)/\(↑l.length:Int)<=(↑l.length:Int))/\Sml ([]++List.drop (Int.toNat (0:Int)) (List.take Qa.toNat l)++[s]).length/\Sml ([]++List.drop (Int.toNat (0:Int)) (List.take Qa.toNat l)++[s]++List.drop Qa.toNat (List.take (↑l.length:Int).toNat l)).length/\K ([]++List.drop (Int.toNat (0:Int)) (List.take Qa.toNat l)++[s]++List.drop Qa.toNat (List.take (↑l.length:Int).toNat l)))) (((0:Int)<=(0:Int)/\(0:Int)<=Qa/\Qa<=(↑l.length:Int))/\Sml ([]++List.drop (Int.toNat (0:Int)) (List.take Qa.toNat l)).length/\((0:Int)<=Qa/\Qa<=(↑l.length:Int)/\(↑l.length:Int)<=(↑l.length:Int))/\Sml ([]++List.drop (Int.toNat (0:Int)) (List.take Qa.toNat l)++[s]).length/\Sml ([]++List.drop (Int.toNat (0:Int)) (List.take Qa.toNat l)++[s]++List.drop Qa.toNat (List.take (↑l.length:Int).toNat l)).length/\K ([]++List.drop (Int.toNat (0:Int)) (List.take Qa.toNat l)++[s]++List.drop Qa.toNat (List.take (↑l.length:Int).toNat l))))) (0:Int)
abbrev Uy:Type:=List (ByteArray)->Ex->(List (ByteArray)->Prop)->Prop
def z5d(Ho:q9h)(X:Uy):Uy:=fun l e K=>Jn1 (fun Qa=>Lp2 (fun Qc Z8 z8j=>Fits e.5->CAt e.5 Z8 (fun y3=>X Qc (Ex.mk y3.1 y3.2 y3.3 y3.4 y3.5) fun Qm=>InI (Z8+1)/\z8j Qm (Z8+1)) (K Qc)) Qa (0:Int)) fun q3i=>Cnd (e.1=5) (Ho l e.3 fun Qc=>q3i Qc) (q3i l)
def q9j:Uy:=fun l e K=> ∀X:Uy,(∀l e K,z5d q9i X l e K->X l e K)->X l e K
abbrev q48:Type:=Ex->(List (ByteArray)->Prop)->Prop
def z5e(q98:Uy):q48:=fun e K=>q98 [] (Ex.mk e.1 e.2 e.3 e.4 e.5) fun Qa=>K Qa
def q9k:q48:=z5e q9j
abbrev q8a:Type:=List (Seg)->(List (Edg)->Prop)->Prop
def z9s(q99:q48):q8a:=fun l K=>Lp2 (fun Qa Qy q3h=>Fits l->CAt l Qy (fun y2=>q99 (Ex.mk y2.5.1 y2.5.2 y2.5.3 y2.5.4 y2.5.5) fun Qe=>Lp2 (fun Qm q87 y1e=>Fits Qe->Cnd (q87<(↑Qe.length:Int)) (At l Qy fun y7=>At Qe q87 fun y9=>Sml (Qm++[Edg.mk y7.1 y9]).length/\InI (q87+1)/\y1e (Qm++[Edg.mk y7.1 y9]) (q87+1)) (InI (Qy+1)/\q3h Qm (Qy+1))) Qa (0:Int)) (K Qa)) [] (0:Int)
def z2m:q8a:=z9s q9k
abbrev z1o:Type:=List (Edg)->ByteArray->(List (ByteArray)->Prop)->Prop
def j4a(Jr:B0)(Ho:q9h):z1o:=fun edges node K=>Lp2 (fun Qa Qy q3h=>Fits Qy->Cnd ((0:Int)<(↑Qy.length:Int)) (((0:Int)<=(0:Int)/\(0:Int)<(↑Qy.length:Int))/\ ∀y2,Qy[Int.toNat (0:Int)]? =some y2->((0:Int)<=(1:Int)/\(1:Int)<=(↑Qy.length:Int)/\(↑Qy.length:Int)<=(↑Qy.length:Int))/\Lp3 (fun Qe Jv j55 y84=>Fits edges->CAt edges j55 (fun y6=>Cnd (y6.1=y2) (At edges j55 fun y8=>Jr Qe y8.2 fun Vl=>Cnd (Vl=true) (InI (j55+1)/\y84 Qe Jv (j55+1)) (At edges j55 fun y11=>Ho Qe y11.2 fun Za=>At edges j55 fun y14=>(Sml ([]++Jv).length/\Sml ([]++Jv++[y14.2]).length/\InI (j55+1)/\y84 Za ([]++Jv++[y14.2]) (j55+1))/\Sml ([]++Jv).length/\Sml ([]++Jv++[y14.2]).length/\InI (j55+1)/\y84 Za ([]++Jv++[y14.2]) (j55+1))) (InI (j55+1)/\y84 Qe Jv (j55+1))) (q3h Qe Jv)) Qa (List.drop (Int.toNat (1:Int)) (List.take (↑Qy.length:Int).toNat Qy)) (0:Int)) (K Qa)) [] [node]
def z7l:z1o:=j4a q1s q9i
abbrev q8b:Type:=List (ByteArray)->List (Edg)->(List (ByteArray)->Prop)->Prop
def z9t(z78:z1o)(Jr:B0)(Ho:q9h):q8b:=fun nodes edges K=>Lp2 (fun Qa Qy q3h=>Fits nodes->CAt nodes Qy (fun y2=>At nodes Qy fun y4=>z78 edges y2 fun Zp=>Jr Zp y4 fun J6=>Cnd (J6=true) (At nodes Qy fun y8=>Ho Qa y8 fun Vl=>InI (Qy+1)/\q3h Vl (Qy+1)) (InI (Qy+1)/\q3h Qa (Qy+1))) (K Qa)) [] (0:Int)
def z2n:q8b:=z9t z7l q1s q9i
abbrev q8c:Type:=List (ByteArray)->List (Edg)->(ByteArray->Bool->Prop)->Prop
def z9u(z33:q8b):q8c:=fun nodes edges K=>z33 nodes edges fun Qa=>Fits Qa->Cnd ((↑Qa.length:Int)=0) (K (B8 []) false) (((0:Int)<=(0:Int)/\(0:Int)<(↑Qa.length:Int))/\ ∀y2,Qa[Int.toNat (0:Int)]? =some y2->K y2 true)
def z2o:q8c:=z9u z2n
abbrev q02:Type:=Envt->ByteArray->(Int->Prop)->Prop
def q9l:q02:=fun v key K=>Lp1 (fun Qa q06=>Fits v.4->CAt v.4 Qa (fun y2=>Cnd (y2.1=key) (K Qa) (InI (Qa+1)/\q06 (Qa+1))) (K (-1:Int))) (0:Int)
abbrev z1p:Type:=List (Decl)->Srv->(Int->Prop)->Prop
def j4b(Bq:z1m):z1p:=fun l v K=>Cnd (v.1=0) (Bq l v.2 v.3 fun Qa=>Cnd (Qa=0) (K (11:Int)) (Cnd (Qa=5) (K (8:Int)) (K (0:Int)))) (K (0:Int))
def z7m:z1p:=j4b q47
abbrev H0:Type:=Envt->Flg->(Int->Prop)->Prop
def q8d(Wh:q01)(V6:q02)(V7:Gx)(z1z:z1p)(Z2:Jz):H0:=fun v f K=>Wh v.3 fun Qa=>Lp2 (fun Qc Z8 z8j=>Fits f.6->CAt f.6 Qc (fun y3=>V6 (Envt.mk (Sett.mk v.1.1 v.1.2 v.1.3) v.2 v.3 v.4 v.5 v.6) y3.1 fun Qm=>Cnd (Qm<0) (K (11:Int)) (At f.6 Qc fun y6=>At v.4 Qm fun y8=>Fits y8.3->Cnd ((↑y8.3.length:Int)<y6.2) (K (3:Int)) (InI (Qc+1)/\z8j (Qc+1) Z8))) (Lp2 (fun Qk Ry w2r=>Fits f.8->CAt f.8 Qk (fun y5=>V7 v.2 Ry (Ex.mk y5.2.1 y5.2.2 y5.2.3 y5.2.4 y5.2.5) fun J6=>Cnd (J6=0) (At f.8 Qk fun y8=>z1z v.2 (Srv.mk y8.3.1 y8.3.2 y8.3.3 y8.3.4 y8.3.5) fun Vl=>Cnd (Vl=0) (InI (Qk+1)/\w2r (Qk+1) Ry) (K Vl)) (K J6)) (z1z v.2 (Srv.mk f.9.1 f.9.2 f.9.3 f.9.4 f.9.5) fun Qm=>Cnd (Qm=0) (Z2 f.8 fun Zp _ w39=>Cnd (w39=true) (Fits Zp->Cnd ((0:Int)<(↑Zp.length:Int)) (K (13:Int)) (K (0:Int))) (K (19:Int))) (K Qm))) (0:Int) Z8)) (0:Int) Qa
def q1t:H0:=q8d z1l q9l z1n z7m Un
abbrev q4f:Type:=Envt->(List (ByteArray)->Prop)->Prop
def z0k:q4f:=fun v K=>Lp2 (fun Qa Qy q3h=>Fits v.4->CAt v.4 Qy (fun y2=>Sml (Qa++[y2.1]).length/\InI (Qy+1)/\q3h (Qa++[y2.1]) (Qy+1)) (K Qa)) [] (0:Int)
abbrev q1u:Type:=Envt->(List (Edg)->Prop)->Prop
def q1v:q1u:=fun v K=>Lp2 (fun Qa Qy q3h=>Fits v.4->Cnd (Qy<(↑v.4.length:Int)) (Lp2 (fun Qf Zn q7o=>At v.4 Qy fun y3=>Fits y3.6->Cnd (Zn<(↑y3.6.length:Int)) (At v.4 Qy fun y6=>At v.4 Qy fun y8=>At y8.6 Zn fun y10=>Sml (Qf++[Edg.mk y6.1 y10.1]).length/\InI (Zn+1)/\q7o (Qf++[Edg.mk y6.1 y10.1]) (Zn+1)) (InI (Qy+1)/\q3h Qf (Qy+1))) Qa (0:Int)) (K Qa)) [] (0:Int)
abbrev q49:Type:=List (Spn)->List (Spn)->(List (Spn)->Prop)->Prop
def z5f(Z5:Bl)(Q5:Wj):q49:=fun a b K=>Z5 a fun Qa=>Z5 b fun Qc=>Lp2 (fun Qf Zn q7o=>Fits Zn->CAt Zn Qf (fun y4=>Cnd (y4=true) (At Qc Qf fun y6=>At Zn Qf fun _=>InI (Qf+1)/\q7o (Qf+1) (Zn.set Qf.toNat y6)) (At Zn Qf fun _=>InI (Qf+1)/\q7o (Qf+1) (Zn.set Qf.toNat false))) (Q5 Zn fun Qe=>K Qe)) (0:Int) Qa
def q9m:q49:=z5f q70 Hw
abbrev Wd:Type:=Envt->Int->(Int->Prop)->Prop
def H1(Zw:Vv)(V6:q02)(Wh:q01)(V7:Gx)(z0a:q49):Wd:=fun v i K=>At v.6 i fun y0=>Zw (Envt.mk (Sett.mk v.1.1 v.1.2 v.1.3) v.2 v.3 v.4 v.5 v.6) y0.2 fun Qf=>V6 (Envt.mk (Sett.mk v.1.1 v.1.2 v.1.3) v.2 v.3 v.4 v.5 v.6) y0.3 fun Qk=>Cnd (Qf<0) (K (11:Int)) (Cnd (Qk<0) (K (11:Int)) (Lp1 (fun Qe w9t=>Fits y0.7->CAt y0.7 Qe (fun y6=>At v.4 Qk fun y8=>Fits y8.3->Cnd ((↑y8.3.length:Int)<y6.3) (K (3:Int)) (InI (Qe+1)/\w9t (Qe+1))) (Wh v.3 fun Zp=>V7 v.2 Zp (Ex.mk y0.8.1 y0.8.2 y0.8.3 y0.8.4 y0.8.5) fun J6=>Cnd (J6=0) (Cnd (y0.5=3) (K (0:Int)) (At v.5 Qf fun y8=>Lp3 (fun Vl q2z v2m y8n=>Cnd (q2z<i) (At v.6 q2z fun y11=>Cnd (y11.2=y0.2) (Cnd (y11.5=3) (InI (q2z+1)/\y8n Vl (q2z+1) v2m) (Sml (Vl++y11.6).length/\InI (q2z+1)/\y8n (Vl++y11.6) (q2z+1) v2m)) (InI (q2z+1)/\y8n Vl (q2z+1) v2m)) (z0a y0.6 Vl fun Ud=>Fits Ud->Cnd ((0:Int)<(↑Ud.length:Int)) (K (14:Int)) (Lp4 (fun Za w6t y8o y8p y8q=>Cnd (Za<i) (Cnd (y0.5=2) (At v.6 Za fun y14=>Cnd (y14.5=2) (Cnd (y14.3=y0.3) (Cnd (y14.2=y0.2) (InI (Za+1)/\y8q (Za+1) w6t y8o y8p) (K (14:Int))) (InI (Za+1)/\y8q (Za+1) w6t y8o y8p)) (InI (Za+1)/\y8q (Za+1) w6t y8o y8p)) (K (0:Int))) (K (0:Int))) (0:Int) Ud Vl v2m))) [Spn.mk (0:Int) y8.4] (0:Int) Zp)) (K J6))) (0:Int)))
def Vz:Wd:=H1 q1i q9l z1l z1n q9m
abbrev Uo:Type:=Envt->(ByteArray->Int->Prop)->Prop
def q3m(q0b:Gw)(Wh:q01)(V7:Gx)(z34:q8a)(q88:q8c)(q27:H0)(q4t:q4f)(q28:q1u)(V8:Wd):Uo:=fun v K=>q0b (Envt.mk (Sett.mk v.1.1 v.1.2 v.1.3) v.2 v.3 v.4 v.5 v.6) fun Qa=>Cnd (Qa=0) (Wh v.3 fun Qc=>Lp2 (fun Qf Zn q7o=>Fits v.3->CAt v.3 Qf (fun y4=>Cnd (y4.5.1=0) (InI (Qf+1)/\q7o (Qf+1) Zn) (At v.3 Qf fun y6=>V7 v.2 Zn (Ex.mk y6.5.1 y6.5.2 y6.5.3 y6.5.4 y6.5.5) fun Wa=>Cnd (Wa=0) (InI (Qf+1)/\q7o (Qf+1) Zn) (At v.3 Qf fun y9=>(↑((B8 [115,101,103,109,101,110,116,32]).size+y9.1.size):Int)<=(9223372036854775807:Int)/\K (B8 [115,101,103,109,101,110,116,32]++y9.1) Wa))) (z34 v.3 fun Qe=>q88 Zn Qe fun Qm q87=>Cnd (q87=true) ((↑((B8 [115,101,103,109,101,110,116,32]).size+Qm.size):Int)<=(9223372036854775807:Int)/\K (B8 [115,101,103,109,101,110,116,32]++Qm) (12:Int)) (Lp3 (fun Zp q95 w39 u3u=>Fits v.4->CAt v.4 Zp (fun y8=>q27 (Envt.mk (Sett.mk v.1.1 v.1.2 v.1.3) v.2 v.3 v.4 v.5 v.6) (Flg.mk y8.1 y8.2 y8.3 y8.4 y8.5 y8.6 y8.7 y8.8 (Srv.mk y8.9.1 y8.9.2 y8.9.3 y8.9.4 y8.9.5)) fun Vl=>Cnd (Vl=0) (InI (Zp+1)/\u3u (Zp+1) q95 w39) (At v.4 Zp fun y11=>(↑((B8 [102,108,97,103,32]).size+y11.1.size):Int)<=(9223372036854775807:Int)/\K (B8 [102,108,97,103,32]++y11.1) Vl)) (q4t (Envt.mk (Sett.mk v.1.1 v.1.2 v.1.3) v.2 v.3 v.4 v.5 v.6) fun Wa=>q28 (Envt.mk (Sett.mk v.1.1 v.1.2 v.1.3) v.2 v.3 v.4 v.5 v.6) fun Qs=>q88 Wa Qs fun Vl q2z=>Cnd (q2z=true) ((↑((B8 [102,108,97,103,32]).size+Vl.size):Int)<=(9223372036854775807:Int)/\K (B8 [102,108,97,103,32]++Vl) (12:Int)) (Lp5 (fun Ud z6u u2o u2p u2q u2r=>Fits v.6->Cnd (Ud<(↑v.6.length:Int)) (V8 (Envt.mk (Sett.mk v.1.1 v.1.2 v.1.3) v.2 v.3 v.4 v.5 v.6) Ud fun Za=>Cnd (Za=0) (InI (Ud+1)/\u2r (Ud+1) z6u u2o u2p u2q) (At v.6 Ud fun y14=>(↑((B8 [101,120,112,101,114,105,109,101,110,116,32]).size+y14.1.size):Int)<=(9223372036854775807:Int)/\K (B8 [101,120,112,101,114,105,109,101,110,116,32]++y14.1) Za)) (K (B8 []) (0:Int))) (0:Int) Wa Qs w39 q95))) (0:Int) Zn Qe))) (0:Int) Qc) (K (B8 []) Qa)
def Rm:Uo:=q3m Bz z1l z1n z2m z2o q1t z0k q1v Vz
abbrev q8e:Type:=Envt->(Bool->Prop)->Prop
def z9v(R4:Uo):q8e:=fun v K=>R4 (Envt.mk (Sett.mk v.1.1 v.1.2 v.1.3) v.2 v.3 v.4 v.5 v.6) fun _ Qy=>K (decide (Qy=0))
def q3n:q8e:=z9v Rm
abbrev H2:Type:=List (Int)->Int->Int->(Envt->Int->Prop)->Prop
def q8f(Q3:Wz)(z0b:q42)(Qb:Zl)(q20:z67)(Ja:q1c)(q4o:z2b)(Br:q7v)(Re:q1d)(q4p:q4d)(Z2:Jz)(j3j:z45)(Wg:q1b)(q21:q7u)(z79:z1c)(Wt:q6d)(Gl:q0j)(z35:q74)(q0w:q8e):H2:=fun list at_ now K=>Q3 fun Qa=>Jn1 (fun (Qc:ByteArray×ByteArray×Int×Int×List Decl×Unit)=>z0b list Qc.2.2.2.1 Qc.1 Qc.2.1 Qc.2.2.1 Qc.2.2.2.2.1 [] [] [] [] fun Qf Zn w6v w1f y1f u3v u3w u3x u3y=>Qb list Qf (5:Int) fun Qk Ry=>q20 Qk [B8 [102,97],B8 [102,98],B8 [102,99],B8 [102,100]] fun Qe=>LpH (fun (Qm:Int×Int×List Flg×List Seg×List Lay_×List Exper×Unit) w38=>Fits Qe->CAt Qe Qm.1 (fun y7=>Qb list Qm.2.1 (5:Int) fun Qs z9b=>InI ((1:Int)+Qs)/\Qb list z9b (6:Int) fun Vl q2z=>Qb list q2z (4:Int) fun Ud z6u=>InI ((1:Int)+Ud)/\LpH (fun (Gm:Int×Int×List Val×List Exper×List Lay_×List Flg×List Seg×Unit) (u2s:Int×Int×List Val×List Exper×List Lay_×List Flg×List Seg×Unit->Prop)=>Cnd (Gm.1<1+Ud) (Ja list Gm.2.1 ((1:Int)+Qs) fun Za w6t=>Sml (Gm.2.2.1++[Za]).length/\InI (Gm.1+1)/\u2s (Gm.1+1,w6t,Gm.2.2.1++[Za],Gm.2.2.2.1,Gm.2.2.2.2.1,Gm.2.2.2.2.2.1,Gm.2.2.2.2.2.2.1,())) (Qb list Gm.2.1 ((1:Int)+Ud) fun Za w6t=>InI ((1:Int)+Za)/\LpH (fun (Wq:Int×List Prq×Int×List Seg×List Flg×List Lay_×List Exper×List Val×Unit) (v2n:Int×List Prq×Int×List Seg×List Flg×List Lay_×List Exper×List Val×Unit->Prop)=>Fits Wq.2.2.2.2.1->Cnd (Wq.1<(↑Wq.2.2.2.2.1.length:Int)) (Qb list Wq.2.2.1 (4:Int) fun Be u0z=>Cnd (Be=1) (At Wq.2.2.2.2.1 Wq.1 fun y17=>At Wq.2.2.2.2.1 Wq.1 fun y19=>Fits y19.3->Qb list u0z (↑y19.3.length:Int) fun y09 u2t=>InI ((1:Int)+y09)/\Sml (Wq.2.1++[Prq.mk y17.1 ((1:Int)+y09)]).length/\InI (Wq.1+1)/\v2n (Wq.1+1,Wq.2.1++[Prq.mk y17.1 ((1:Int)+y09)],u2t,Wq.2.2.2.1,Wq.2.2.2.2.1,Wq.2.2.2.2.2.1,Wq.2.2.2.2.2.2.1,Wq.2.2.2.2.2.2.2.1,())) (InI (Wq.1+1)/\v2n (Wq.1+1,Wq.2.1,u0z,Wq.2.2.2.1,Wq.2.2.2.2.1,Wq.2.2.2.2.2.1,Wq.2.2.2.2.2.2.1,Wq.2.2.2.2.2.2.2.1,()))) (LpH (fun (Be:Int×List Tgt×Int×List Val×List Exper×List Lay_×List Flg×List Seg×List Prq×Unit) (u00:Int×List Tgt×Int×List Val×List Exper×List Lay_×List Flg×List Seg×List Prq×Unit->Prop)=>Qb list Be.2.2.1 (3:Int) fun w6u y4j=>Cnd (Be.1<w6u) (Qb list y4j ((1:Int)+Ud) fun q65 y8r=>InI ((1:Int)+q65)/\q4o list y8r fun Z7 y8s=>Jn1 (fun (q4b:ByteArray×Int×List ByteArray×List Prq×List Seg×List Flg×List Lay_×List Exper×List Val×List Tgt×Unit)=>Fits q4b.2.2.1->Cnd ((0:Int)<(↑q4b.2.2.1.length:Int)) (Sml (q4b.2.2.2.2.2.2.2.2.2.1++[Tgt.mk q4b.1 ((1:Int)+q65) q4b.2.2.1]).length/\InI (Be.1+1)/\u00 (Be.1+1,q4b.2.2.2.2.2.2.2.2.2.1++[Tgt.mk q4b.1 ((1:Int)+q65) q4b.2.2.1],q4b.2.1,q4b.2.2.2.2.2.2.2.2.1,q4b.2.2.2.2.2.2.2.1,q4b.2.2.2.2.2.2.1,q4b.2.2.2.2.2.1,q4b.2.2.2.2.1,q4b.2.2.2.1,())) (InI (Be.1+1)/\u00 (Be.1+1,q4b.2.2.2.2.2.2.2.2.2.1,q4b.2.1,q4b.2.2.2.2.2.2.2.2.1,q4b.2.2.2.2.2.2.2.1,q4b.2.2.2.2.2.2.1,q4b.2.2.2.2.2.1,q4b.2.2.2.2.1,q4b.2.2.2.1,()))) fun (u01:ByteArray×Int×List ByteArray×List Prq×List Seg×List Flg×List Lay_×List Exper×List Val×List Tgt×Unit->Prop)=>Qb list y8s (4:Int) fun y8t u02=>Cnd (y8t=1) (u01 (B8 [100,101,118,105,99,101],u02,Z7,Be.2.2.2.2.2.2.2.2.1,Be.2.2.2.2.2.2.2.1,Be.2.2.2.2.2.2.1,Be.2.2.2.2.2.1,Be.2.2.2.2.1,Be.2.2.2.1,Be.2.1,())) (u01 (B8 [117,115,101,114],u02,Z7,Be.2.2.2.2.2.2.2.2.1,Be.2.2.2.2.2.2.2.1,Be.2.2.2.2.2.2.1,Be.2.2.2.2.2.1,Be.2.2.2.2.1,Be.2.2.2.1,Be.2.1,()))) (Jn1 (fun (q65:Int×List Rul×List ByteArray×List Prq×List Seg×List Flg×List Lay_×List Exper×List Val×List Tgt×Unit)=>Br list q65.1 ((1:Int)+Ud) fun Z7 y8s=>Sml (q65.2.2.2.2.2.1++[Flg.mk y7 ((1:Int)+Qs) q65.2.2.2.2.2.2.2.2.1 (decide (Vl<5)) ((1:Int)+Za) q65.2.2.2.1 q65.2.2.2.2.2.2.2.2.2.1 q65.2.1 Z7]).length/\InI (Qm.1+1)/\w38 (Qm.1+1,y8s,q65.2.2.2.2.2.1++[Flg.mk y7 ((1:Int)+Qs) q65.2.2.2.2.2.2.2.2.1 (decide (Vl<5)) ((1:Int)+Za) q65.2.2.2.1 q65.2.2.2.2.2.2.2.2.2.1 q65.2.1 Z7],q65.2.2.2.2.1,q65.2.2.2.2.2.2.1,q65.2.2.2.2.2.2.2.1,())) fun (y8u:Int×List Rul×List ByteArray×List Prq×List Seg×List Flg×List Lay_×List Exper×List Val×List Tgt×Unit->Prop)=>LpH (fun (Z7:Int×Int×List Rul×List ByteArray×List Prq×List Seg×List Flg×List Lay_×List Exper×List Val×List Tgt×Unit) (u2u:Int×Int×List Rul×List ByteArray×List Prq×List Seg×List Flg×List Lay_×List Exper×List Val×List Tgt×Unit->Prop)=>Qb list Z7.2.1 (5:Int) fun q4b y4k=>Cnd (Z7.1<q4b) (At Z7.2.2.2.1 Z7.1 fun y21=>Re (Envt.mk (Sett.mk Zn w6v w1f) y1f Z7.2.2.2.2.2.1 Z7.2.2.2.2.2.2.1 Z7.2.2.2.2.2.2.2.1 Z7.2.2.2.2.2.2.2.2.1) fun u2v=>q4p list y4k u2v (3:Int) fun Zf u2w=>Br list u2w ((1:Int)+Ud) fun z36 y1a=>Sml (Z7.2.2.1++[Rul.mk y21 (Ex.mk Zf.1 Zf.2 Zf.3 Zf.4 Zf.5) z36]).length/\Z2 (Z7.2.2.1++[Rul.mk y21 (Ex.mk Zf.1 Zf.2 Zf.3 Zf.4 Zf.5) z36]) fun u03 _ u2x=>Cnd (u2x=true) (Fits u03->Cnd ((0:Int)<(↑u03.length:Int)) ((Z7.2.2.1++[Rul.mk y21 (Ex.mk Zf.1 Zf.2 Zf.3 Zf.4 Zf.5) z36]).length<=(9223372036854775807:Nat)->InI ((↑(Z7.2.2.1++[Rul.mk y21 (Ex.mk Zf.1 Zf.2 Zf.3 Zf.4 Zf.5) z36]).length:Int) - 1)/\((0:Int)<=(↑(Z7.2.2.1++[Rul.mk y21 (Ex.mk Zf.1 Zf.2 Zf.3 Zf.4 Zf.5) z36]).length:Int) - 1/\(↑(Z7.2.2.1++[Rul.mk y21 (Ex.mk Zf.1 Zf.2 Zf.3 Zf.4 Zf.5) z36]).length:Int) - 1<=(↑(Z7.2.2.1++[Rul.mk y21 (Ex.mk Zf.1 Zf.2 Zf.3 Zf.4 Zf.5) z36]).length:Int))/\y8u (y1a,List.take ((↑(Z7.2.2.1++[Rul.mk y21 (Ex.mk Zf.1 Zf.2 Zf.3 Zf.4 Zf.5) z36]).length:Int) - 1).toNat (Z7.2.2.1++[Rul.mk y21 (Ex.mk Zf.1 Zf.2 Zf.3 Zf.4 Zf.5) z36]),Z7.2.2.2.1,Z7.2.2.2.2.1,Z7.2.2.2.2.2.1,Z7.2.2.2.2.2.2.1,Z7.2.2.2.2.2.2.2.1,Z7.2.2.2.2.2.2.2.2.1,Z7.2.2.2.2.2.2.2.2.2.1,Z7.2.2.2.2.2.2.2.2.2.2.1,())) (InI (Z7.1+1)/\u2u (Z7.1+1,y1a,Z7.2.2.1++[Rul.mk y21 (Ex.mk Zf.1 Zf.2 Zf.3 Zf.4 Zf.5) z36],Z7.2.2.2.1,Z7.2.2.2.2.1,Z7.2.2.2.2.2.1,Z7.2.2.2.2.2.2.1,Z7.2.2.2.2.2.2.2.1,Z7.2.2.2.2.2.2.2.2.1,Z7.2.2.2.2.2.2.2.2.2.1,Z7.2.2.2.2.2.2.2.2.2.2.1,()))) ((Z7.2.2.1++[Rul.mk y21 (Ex.mk Zf.1 Zf.2 Zf.3 Zf.4 Zf.5) z36]).length<=(9223372036854775807:Nat)->InI ((↑(Z7.2.2.1++[Rul.mk y21 (Ex.mk Zf.1 Zf.2 Zf.3 Zf.4 Zf.5) z36]).length:Int) - 1)/\((0:Int)<=(↑(Z7.2.2.1++[Rul.mk y21 (Ex.mk Zf.1 Zf.2 Zf.3 Zf.4 Zf.5) z36]).length:Int) - 1/\(↑(Z7.2.2.1++[Rul.mk y21 (Ex.mk Zf.1 Zf.2 Zf.3 Zf.4 Zf.5) z36]).length:Int) - 1<=(↑(Z7.2.2.1++[Rul.mk y21 (Ex.mk Zf.1 Zf.2 Zf.3 Zf.4 Zf.5) z36]).length:Int))/\y8u (y1a,List.take ((↑(Z7.2.2.1++[Rul.mk y21 (Ex.mk Zf.1 Zf.2 Zf.3 Zf.4 Zf.5) z36]).length:Int) - 1).toNat (Z7.2.2.1++[Rul.mk y21 (Ex.mk Zf.1 Zf.2 Zf.3 Zf.4 Zf.5) z36]),Z7.2.2.2.1,Z7.2.2.2.2.1,Z7.2.2.2.2.2.1,Z7.2.2.2.2.2.2.1,Z7.2.2.2.2.2.2.2.1,Z7.2.2.2.2.2.2.2.2.1,Z7.2.2.2.2.2.2.2.2.2.1,Z7.2.2.2.2.2.2.2.2.2.2.1,()))) (y8u (y4k,Z7.2.2.1,Z7.2.2.2.1,Z7.2.2.2.2.1,Z7.2.2.2.2.2.1,Z7.2.2.2.2.2.2.1,Z7.2.2.2.2.2.2.2.1,Z7.2.2.2.2.2.2.2.2.1,Z7.2.2.2.2.2.2.2.2.2.1,Z7.2.2.2.2.2.2.2.2.2.2.1,()))) ((0:Int),y4j,[],[B8 [102,105,114,115,116],B8 [115,101,99,111,110,100],B8 [116,104,105,114,100],B8 [102,111,117,114,116,104]],Be.2.2.2.2.2.2.2.2.1,Be.2.2.2.2.2.2.2.1,Be.2.2.2.2.2.2.1,Be.2.2.2.2.2.1,Be.2.2.2.2.1,Be.2.2.2.1,Be.2.1,()))) ((0:Int),[],Wq.2.2.1,Wq.2.2.2.2.2.2.2.1,Wq.2.2.2.2.2.2.1,Wq.2.2.2.2.2.1,Wq.2.2.2.2.1,Wq.2.2.2.1,Wq.2.1,()))) ((0:Int),[],w6t,Gm.2.2.2.2.2.2.1,Gm.2.2.2.2.2.1,Gm.2.2.2.2.1,Gm.2.2.2.1,Gm.2.2.1,()))) ((0:Int),z6u,[],Qm.2.2.2.2.2.1,Qm.2.2.2.2.1,Qm.2.2.1,Qm.2.2.2.1,())) (Qb list Qm.2.1 (3:Int) fun J6 j0x=>q20 J6 [B8 [108,97],B8 [108,98]] fun Wa=>LpH (fun (Qs:Int×Int×List Lay_×List Exper×List Seg×List Flg×Unit) (y8l:Int×Int×List Lay_×List Exper×List Seg×List Flg×Unit->Prop)=>Fits Wa->CAt Wa Qs.1 (fun y11=>j3j list Qs.2.1 y11 fun Za w6t=>Sml (Qs.2.2.1++[Za]).length/\InI (Qs.1+1)/\y8l (Qs.1+1,w6t,Qs.2.2.1++[Za],Qs.2.2.2.1,Qs.2.2.2.2.1,Qs.2.2.2.2.2.1,())) (Qb list Qs.2.1 (4:Int) fun Ud z6u=>q20 Ud [B8 [120,97],B8 [120,98],B8 [120,99]] fun Gm=>LpH (fun (Za:Int×Int×List Exper×List Flg×List Seg×List Lay_×Unit) (u04:Int×Int×List Exper×List Flg×List Seg×List Lay_×Unit->Prop)=>Fits Gm->Cnd (Za.1<(↑Gm.length:Int)) (Fits Za.2.2.2.1->Cnd ((0:Int)<(↑Za.2.2.2.1.length:Int)) (Fits Za.2.2.2.2.2.1->Cnd ((0:Int)<(↑Za.2.2.2.2.2.1.length:Int)) (At Gm Za.1 fun y17=>Fits Za.2.2.2.1->Qb list Za.2.1 (↑Za.2.2.2.1.length:Int) fun q4b y4k=>At Za.2.2.2.1 q4b fun y21=>Fits Za.2.2.2.2.2.1->Fits y21.3->Qb list y4k (↑Za.2.2.2.2.2.1.length:Int) fun z36 y1a=>At Za.2.2.2.2.2.1 z36 fun y26=>Wg list y1a fun w2s u2y=>Qb list u2y (3:Int) fun y4l u2z=>InI ((1:Int)+y4l)/\q21 list u2z (↑y21.3.length:Int) fun y8v u05=>Jn1 (fun (q56:Int×Int×List Rng×List Exper×List Lay_×List Flg×List Seg×Unit)=>Jn1 (fun (Ze:Int×ByteArray×ByteArray×List Val×List Ex×Int×List Seg×List Flg×List Lay_×List Exper×List Rng×Unit)=>z79 (Envt.mk (Sett.mk Zn w6v w1f) y1f Ze.2.2.2.2.2.2.1 Ze.2.2.2.2.2.2.2.1 Ze.2.2.2.2.2.2.2.2.1 Ze.2.2.2.2.2.2.2.2.2.1) y26.1 now fun (y8w:List Spn) (y8x:Int)=>Wt list Ze.2.2.2.2.2.1 (8000:Int) fun (y8y u20:Int)=>Wt list u20 (8000:Int) fun (v2o y8z:Int)=>Gl y8w [Spn.mk y8y v2o] fun (u21:List Spn)=>Wt list y8z (7000:Int) fun (u22 u06:Int)=>z35 u21 u22 fun (w2t:List Spn)=>Sml (Ze.2.2.2.2.2.2.2.2.2.1++[Exper.mk y17 y26.1 y21.1 w2s q56.1 w2t Ze.2.2.2.2.2.2.2.2.2.2.1 (Ex.mk Ze.1 Ze.2.1 Ze.2.2.1 Ze.2.2.2.1 Ze.2.2.2.2.1)]).length/\q0w (Envt.mk (Sett.mk Zn w6v w1f) y1f Ze.2.2.2.2.2.2.1 Ze.2.2.2.2.2.2.2.1 Ze.2.2.2.2.2.2.2.2.1 (Ze.2.2.2.2.2.2.2.2.2.1++[Exper.mk y17 y26.1 y21.1 w2s q56.1 w2t Ze.2.2.2.2.2.2.2.2.2.2.1 (Ex.mk Ze.1 Ze.2.1 Ze.2.2.1 Ze.2.2.2.1 Ze.2.2.2.2.1)])) fun (u23:Bool)=>Cnd (u23=true) (InI (Za.1+1)/\u04 (Za.1+1,u06,Ze.2.2.2.2.2.2.2.2.2.1++[Exper.mk y17 y26.1 y21.1 w2s q56.1 w2t Ze.2.2.2.2.2.2.2.2.2.2.1 (Ex.mk Ze.1 Ze.2.1 Ze.2.2.1 Ze.2.2.2.1 Ze.2.2.2.2.1)],Ze.2.2.2.2.2.2.2.1,Ze.2.2.2.2.2.2.1,Ze.2.2.2.2.2.2.2.2.1,())) ((Ze.2.2.2.2.2.2.2.2.2.1++[Exper.mk y17 y26.1 y21.1 w2s q56.1 w2t Ze.2.2.2.2.2.2.2.2.2.2.1 (Ex.mk Ze.1 Ze.2.1 Ze.2.2.1 Ze.2.2.2.1 Ze.2.2.2.2.1)]).length<=(9223372036854775807:Nat)->InI ((↑(Ze.2.2.2.2.2.2.2.2.2.1++[Exper.mk y17 y26.1 y21.1 w2s q56.1 w2t Ze.2.2.2.2.2.2.2.2.2.2.1 (Ex.mk Ze.1 Ze.2.1 Ze.2.2.1 Ze.2.2.2.1 Ze.2.2.2.2.1)]).length:Int) - 1)/\((0:Int)<=(↑(Ze.2.2.2.2.2.2.2.2.2.1++[Exper.mk y17 y26.1 y21.1 w2s q56.1 w2t Ze.2.2.2.2.2.2.2.2.2.2.1 (Ex.mk Ze.1 Ze.2.1 Ze.2.2.1 Ze.2.2.2.1 Ze.2.2.2.2.1)]).length:Int) - 1/\(↑(Ze.2.2.2.2.2.2.2.2.2.1++[Exper.mk y17 y26.1 y21.1 w2s q56.1 w2t Ze.2.2.2.2.2.2.2.2.2.2.1 (Ex.mk Ze.1 Ze.2.1 Ze.2.2.1 Ze.2.2.2.1 Ze.2.2.2.2.1)]).length:Int) - 1<=(↑(Ze.2.2.2.2.2.2.2.2.2.1++[Exper.mk y17 y26.1 y21.1 w2s q56.1 w2t Ze.2.2.2.2.2.2.2.2.2.2.1 (Ex.mk Ze.1 Ze.2.1 Ze.2.2.1 Ze.2.2.2.1 Ze.2.2.2.2.1)]).length:Int))/\InI (Za.1+1)/\u04 (Za.1+1,u06,List.take ((↑(Ze.2.2.2.2.2.2.2.2.2.1++[Exper.mk y17 y26.1 y21.1 w2s q56.1 w2t Ze.2.2.2.2.2.2.2.2.2.2.1 (Ex.mk Ze.1 Ze.2.1 Ze.2.2.1 Ze.2.2.2.1 Ze.2.2.2.2.1)]).length:Int) - 1).toNat (Ze.2.2.2.2.2.2.2.2.2.1++[Exper.mk y17 y26.1 y21.1 w2s q56.1 w2t Ze.2.2.2.2.2.2.2.2.2.2.1 (Ex.mk Ze.1 Ze.2.1 Ze.2.2.1 Ze.2.2.2.1 Ze.2.2.2.2.1)]),Ze.2.2.2.2.2.2.2.1,Ze.2.2.2.2.2.2.1,Ze.2.2.2.2.2.2.2.2.1,()))) fun (u07:Int×ByteArray×ByteArray×List Val×List Ex×Int×List Seg×List Flg×List Lay_×List Exper×List Rng×Unit->Prop)=>Qb list q56.2.1 (2:Int) fun (y8w y8x:Int)=>Cnd (y8w=1) (Re (Envt.mk (Sett.mk Zn w6v w1f) y1f q56.2.2.2.2.2.2.1 q56.2.2.2.2.2.1 q56.2.2.2.2.1 q56.2.2.2.1) fun (y8y:List ByteArray)=>q4p list y8x y8y (2:Int) fun (v2o:Ex) (y8z:Int)=>u07 (v2o.1,v2o.2,v2o.3,v2o.4,v2o.5,y8z,q56.2.2.2.2.2.2.1,q56.2.2.2.2.2.1,q56.2.2.2.2.1,q56.2.2.2.1,q56.2.2.1,())) (u07 ((1:Int),B8 [],B8 [],[],[],y8x,q56.2.2.2.2.2.2.1,q56.2.2.2.2.2.1,q56.2.2.2.2.1,q56.2.2.2.1,q56.2.2.1,()))) fun (y80:Int×Int×List Rng×List Exper×List Lay_×List Flg×List Seg×Unit->Prop)=>Cnd ((1:Int)+y4l=1) (Qb list u05 (2:Int) fun Ze u08=>Cnd (Ze=0) (y80 ((2:Int),u08,y8v,Za.2.2.1,Za.2.2.2.2.2.1,Za.2.2.2.1,Za.2.2.2.2.1,())) (y80 ((1:Int)+y4l,u08,y8v,Za.2.2.1,Za.2.2.2.2.2.1,Za.2.2.2.1,Za.2.2.2.2.1,()))) (y80 ((1:Int)+y4l,u05,y8v,Za.2.2.1,Za.2.2.2.2.2.1,Za.2.2.2.1,Za.2.2.2.2.1,()))) (q0w (Envt.mk (Sett.mk Zn w6v w1f) y1f Za.2.2.2.2.1 Za.2.2.2.1 Za.2.2.2.2.2.1 Za.2.2.1) fun w6u=>Cnd (w6u=true) (K (Envt.mk (Sett.mk Zn w6v w1f) y1f Za.2.2.2.2.1 Za.2.2.2.1 Za.2.2.2.2.2.1 Za.2.2.1) Za.2.1) (Q3 fun q65=>K (Envt.mk (Sett.mk (B8 []) (B8 []) (0:Int)) q65 [] [] [] []) Za.2.1))) (q0w (Envt.mk (Sett.mk Zn w6v w1f) y1f Za.2.2.2.2.1 Za.2.2.2.1 Za.2.2.2.2.2.1 Za.2.2.1) fun Be=>Cnd (Be=true) (K (Envt.mk (Sett.mk Zn w6v w1f) y1f Za.2.2.2.2.1 Za.2.2.2.1 Za.2.2.2.2.2.1 Za.2.2.1) Za.2.1) (Q3 fun w6u=>K (Envt.mk (Sett.mk (B8 []) (B8 []) (0:Int)) w6u [] [] [] []) Za.2.1))) (q0w (Envt.mk (Sett.mk Zn w6v w1f) y1f Za.2.2.2.2.1 Za.2.2.2.1 Za.2.2.2.2.2.1 Za.2.2.1) fun w1d=>Cnd (w1d=true) (K (Envt.mk (Sett.mk Zn w6v w1f) y1f Za.2.2.2.2.1 Za.2.2.2.1 Za.2.2.2.2.2.1 Za.2.2.1) Za.2.1) (Q3 fun Be=>K (Envt.mk (Sett.mk (B8 []) (B8 []) (0:Int)) Be [] [] [] []) Za.2.1))) ((0:Int),z6u,Qs.2.2.2.1,Qs.2.2.2.2.2.1,Qs.2.2.2.2.1,Qs.2.2.1,()))) ((0:Int),j0x,Qm.2.2.2.2.1,Qm.2.2.2.2.2.1,Qm.2.2.2.1,Qm.2.2.1,()))) ((0:Int),Ry,u3w,u3v,u3x,u3y,())) fun j5k=>Qb list at_ (2:Int) fun Qf Zn=>Cnd (Qf=1) (Wg list Zn fun Qk Ry=>Wt list Ry (2500:Int) fun Qe Jv=>j5k (Qk,B8 [117,115,101,114],Qe,Jv,Qa,())) (j5k (B8 [],B8 [],(0:Int),Zn,Qa,()))
def q1w:H2:=q8f Ux q9e We j7k Bi j1h z43 q1e j1k Un j1p z2a z42 z7b z66 q73 z2g q3n
abbrev Rn:Type:=Int->(Bool->Prop)->Prop
def U5:Rn:=fun op K=>Cnd ((6:Int)<=op) (K (decide (op<=15))) (K false)
abbrev Zb:Type:=List (ByteArray)->List (ByteArray)->(Bool->Prop)->Prop
def Zo:Zb:=fun s1 s2 K=>Fits s1->Fits s2->Cnd ((↑s1.length:Int)=(↑s2.length:Int)) (Fits s1->Lp1 (fun Qk j00=>CAt s1 Qk (fun y4=>At s2 Qk fun y6=>Cnd (y4=y6) (InI (Qk+1)/\j00 (Qk+1)) (K false)) (K true)) (0:Int)) (K false)
abbrev q5a:Type:=Val->Val->(Bool->Prop)->Prop
def z5g(Qq:Zb):q5a:=fun a b K=>Cnd (a.1=b.1) (Cnd (a.2=b.2) (Cnd (a.3=b.3) (Qq a.4 b.4 fun Qa=>K Qa) (K false)) (K false)) (K false)
def q03:q5a:=z5g Zo
abbrev H3:Type:=Ex->Ex->(Bool->Prop)->Prop
def z9w(z0c:q5a)(X:H3):H3:=fun a b K=>Cnd (a.1=b.1) (Cnd (a.2=b.2) (Cnd (a.3=b.3) (Fits a.4->Fits b.4->Cnd ((↑a.4.length:Int)=(↑b.4.length:Int)) (Fits a.4->Lp1 (fun Qk j00=>CAt a.4 Qk (fun y4=>At b.4 Qk fun y6=>z0c y4 y6 fun Wa=>Cnd (Wa=true) (InI (Qk+1)/\j00 (Qk+1)) (K false)) (Fits a.5->Fits b.5->Cnd ((↑a.5.length:Int)=(↑b.5.length:Int)) (Fits a.5->Lp1 (fun J6 y8m=>CAt a.5 J6 (fun y8=>At b.5 J6 fun y10=>X (Ex.mk y8.1 y8.2 y8.3 y8.4 y8.5) (Ex.mk y10.1 y10.2 y10.3 y10.4 y10.5) fun Gm=>Cnd (Gm=true) (InI (J6+1)/\y8m (J6+1)) (K false)) (K true)) (0:Int)) (K false))) (0:Int)) (K false)) (K false)) (K false)) (K false)
def q0k:H3:=fun a b K=> ∀X:H3,(∀a b K,z9w q03 X a b K->X a b K)->X a b K
abbrev W4:Type:=List (Ex)->Ex->(List (Ex)->Prop)->Prop
def z0l(Wv:Rn)(q89:H3)(X:W4):W4:=fun l e K=>Jn1 (fun Qa=>Fits e.5->Lp2 (fun Qf Zn q7o=>CAt e.5 Zn (fun y3=>X Qf (Ex.mk y3.1 y3.2 y3.3 y3.4 y3.5) fun Qm=>InI (Zn+1)/\q7o Qm (Zn+1)) (K Qf)) Qa (0:Int)) fun q3i=>Wv e.1 fun Qc=>Cnd (Qc=true) (Fits l->Lp1 (fun Qk j00=>CAt l Qk (fun y4=>q89 (Ex.mk y4.1 y4.2 y4.3 y4.4 y4.5) (Ex.mk e.1 e.2 e.3 e.4 e.5) fun Zp=>Cnd (Zp=true) (Cnd ((0:Int)<=Qk) (q3i l) (Sml (l++[Ex.mk e.1 e.2 e.3 e.4 e.5]).length/\q3i (l++[Ex.mk e.1 e.2 e.3 e.4 e.5]))) (InI (Qk+1)/\j00 (Qk+1))) (Cnd ((0:Int)<=(-1:Int)) (q3i l) (Sml (l++[Ex.mk e.1 e.2 e.3 e.4 e.5]).length/\q3i (l++[Ex.mk e.1 e.2 e.3 e.4 e.5])))) (0:Int)) (Cnd (e.1=5) (Fits l->Lp1 (fun Qk j00=>CAt l Qk (fun y4=>q89 (Ex.mk y4.1 y4.2 y4.3 y4.4 y4.5) (Ex.mk e.1 e.2 e.3 e.4 e.5) fun Zp=>Cnd (Zp=true) (Cnd ((0:Int)<=Qk) (q3i l) (Sml (l++[Ex.mk e.1 e.2 e.3 e.4 e.5]).length/\q3i (l++[Ex.mk e.1 e.2 e.3 e.4 e.5]))) (InI (Qk+1)/\j00 (Qk+1))) (Cnd ((0:Int)<=(-1:Int)) (q3i l) (Sml (l++[Ex.mk e.1 e.2 e.3 e.4 e.5]).length/\q3i (l++[Ex.mk e.1 e.2 e.3 e.4 e.5])))) (0:Int)) (q3i l))
def q4g:W4:=fun l e K=> ∀X:W4,(∀l e K,z0l U5 q0k X l e K->X l e K)->X l e K
abbrev J9:Type:=Val->(Val->Prop)->Prop
def Jm:J9:=fun v K=> ∀n0,(n0=true->v.4=[])->Cnd (n0=true) (K (Val.mk v.1 v.2 v.3 [])) (Sml ([]++v.4).length/\K (Val.mk v.1 v.2 v.3 ([]++v.4)))
abbrev Uz:Type:=Ex->(Ex->Prop)->Prop
def z5h(Q6:J9)(X:Uz):Uz:=fun e K=>Fits e.4->((0:Int)<=(0:Int)/\(0:Int)<=(↑e.4.length:Int)/\Sml (↑e.4.length:Int).toNat)/\(Fits e.4->Lp2 (fun Qf Zn q7o=>CAt e.4 Zn (fun y3=>Q6 y3 fun Qm=>Sml (Qf++[Qm]).length/\InI (Zn+1)/\q7o (Qf++[Qm]) (Zn+1)) (Fits e.5->((0:Int)<=(0:Int)/\(0:Int)<=(↑e.5.length:Int)/\Sml (↑e.5.length:Int).toNat)/\(Fits e.5->Lp2 (fun Qm q87 y1e=>CAt e.5 q87 (fun y6=>X (Ex.mk y6.1 y6.2 y6.3 y6.4 y6.5) fun Wa=>Sml (Qm++[Ex.mk Wa.1 Wa.2 Wa.3 Wa.4 Wa.5]).length/\InI (q87+1)/\y1e (Qm++[Ex.mk Wa.1 Wa.2 Wa.3 Wa.4 Wa.5]) (q87+1)) (K (Ex.mk e.1 e.2 e.3 Qf Qm))) (List.replicate (Int.toNat (0:Int)) (Ex.mk (0:Int) (B8 []) (B8 []) [] [])) (0:Int)))) (List.replicate (Int.toNat (0:Int)) (Val.mk (0:Int) (0:Int) (B8 []) [])) (0:Int))
def q9n:Uz:=fun e K=> ∀X:Uz,(∀e K,z5h Jm X e K->X e K)->X e K
abbrev Bm:Type:=Ex->(List (Ex)->Prop)->Prop
def z0m(q4u:W4)(z0d:Uz):Bm:=fun e K=>q4u [] (Ex.mk e.1 e.2 e.3 e.4 e.5) fun Qa=>Fits Qa->((0:Int)<=(0:Int)/\(0:Int)<=(↑Qa.length:Int)/\Sml (↑Qa.length:Int).toNat)/\(Fits Qa->Lp2 (fun Qk Ry w2r=>CAt Qa Ry (fun y4=>z0d (Ex.mk y4.1 y4.2 y4.3 y4.4 y4.5) fun Zp=>Sml (Qk++[Ex.mk Zp.1 Zp.2 Zp.3 Zp.4 Zp.5]).length/\InI (Ry+1)/\w2r (Qk++[Ex.mk Zp.1 Zp.2 Zp.3 Zp.4 Zp.5]) (Ry+1)) (K Qk)) (List.replicate (Int.toNat (0:Int)) (Ex.mk (0:Int) (B8 []) (B8 []) [] [])) (0:Int))
def z0n:Bm:=z0m q4g q9n
abbrev Zv:Type:=List (ByteArray)->(List (ByteArray)->Prop)->Prop
def Jk(x:List (ByteArray))(K:List (ByteArray)->Prop):Prop:=K (srt x)
abbrev J0:Type:=List (ByteArray)->(List (ByteArray)->Prop)->Prop
def J1(s:List (ByteArray))(K:List (ByteArray)->Prop):Prop:=K (cpt s)
abbrev Gy:Type:=Ex->(List (ByteArray)->Prop)->Prop
def q5t(q4v:Bm)(Qt:Zv)(Z3:J0):Gy:=fun e K=>q4v (Ex.mk e.1 e.2 e.3 e.4 e.5) fun Qa=>Fits Qa->Lp2 (fun Qf Zn q7o=>CAt Qa Zn (fun y3=>Cnd (y3.1=5) (Sml (Qf++[y3.3]).length/\InI (Zn+1)/\q7o (Qf++[y3.3]) (Zn+1)) (InI (Zn+1)/\q7o Qf (Zn+1))) (Qt Qf fun Qk=>Z3 Qk fun Qe=>K Qe)) [] (0:Int)
def B1:Gy:=q5t z0n Jk J1
abbrev z2p:Type:=List (ByteArray)->List (Edg)->(List (ByteArray)->Int->Prop)->Prop
def P_graph_Order(nodes:List (ByteArray))(edges:List (Edg))(K:List (ByteArray)->Int->Prop):Prop:=Go.Fl.P_graph_Order nodes (edges.map fun e=>(e.1,e.2)) K
abbrev H4:Type:=List (Seg)->(List (ByteArray)->Int->Prop)->Prop
def q8g(q0c:Gy)(q66:z2p):H4:=fun l K=>Fits l->Lp3 (fun Qc Z8 z9a y08=>CAt l z9a (fun y2=>Sml (Qc++[y2.1]).length/\q0c (Ex.mk y2.5.1 y2.5.2 y2.5.3 y2.5.4 y2.5.5) fun Qe=>Fits Qe->Lp2 (fun Zp q95 y1d=>CAt Qe q95 (fun y7=>Sml (Zp++[Edg.mk y2.1 y7]).length/\InI (q95+1)/\y1d (Zp++[Edg.mk y2.1 y7]) (q95+1)) (InI (z9a+1)/\y08 (Qc++[y2.1]) Zp (z9a+1))) Z8 (0:Int)) (q66 Qc Z8 fun Qf Zn=>K Qf Zn)) [] [] (0:Int)
def q1x:H4:=q8g B1 P_graph_Order
abbrev Up:Type:=Subj->ByteArray->(Int->Prop)->Prop
def H5:Up:=fun s kind K=>Fits s.1->Lp1 (fun Qc R1=>CAt s.1 Qc (fun y2=>Cnd (y2.1=kind) (K Qc) (InI (Qc+1)/\R1 (Qc+1))) (K (-1:Int))) (0:Int)
abbrev Uq:Type:=Attr->(Attr->Prop)->Prop
def q3o(Q6:J9):Uq:=fun a K=>Q6 (Val.mk a.2.1 a.2.2 a.2.3 a.2.4) fun Qa=>K (Attr.mk a.1 Qa)
def Rp:Uq:=q3o Jm
abbrev H6:Type:=Ctxt->(Ctxt->Prop)->Prop
def q8h(R5:Uq):H6:=fun c K=>Fits c.3->((0:Int)<=(0:Int)/\(0:Int)<=(↑c.3.length:Int)/\Sml (↑c.3.length:Int).toNat)/\(Fits c.3->Lp2 (fun Qf Zn q7o=>CAt c.3 Zn (fun y3=>R5 (Attr.mk y3.1 (Val.mk y3.2.1 y3.2.2 y3.2.3 y3.2.4)) fun Qm=>Sml (Qf++[Attr.mk Qm.1 (Val.mk Qm.2.1 Qm.2.2 Qm.2.3 Qm.2.4)]).length/\InI (Zn+1)/\q7o (Qf++[Attr.mk Qm.1 (Val.mk Qm.2.1 Qm.2.2 Qm.2.3 Qm.2.4)]) (Zn+1)) (K (Ctxt.mk c.1 c.2 Qf))) (List.replicate (Int.toNat (0:Int)) (Attr.mk (B8 []) (Val.mk (0:Int) (0:Int) (B8 []) []))) (0:Int))
def q1y:H6:=q8h Rp
abbrev Zq:Type:=Subj->ByteArray->(Ctxt->Bool->Prop)->Prop
def z0o(Js:Up)(q29:H6):Zq:=fun s kind K=>Js (Subj.mk s.1) kind fun Qa=>Cnd (Qa<0) (K (Ctxt.mk (B8 []) (B8 []) []) false) (At s.1 Qa fun y1=>q29 y1 fun Qk=>K Qk true)
def W5:Zq:=z0o H5 q1y
abbrev Wl:Type:=Subj->ByteArray->ByteArray->(Val->Bool->Prop)->Prop
def q5u(Js:Up)(Q6:J9):Wl:=fun s kind name K=>Js (Subj.mk s.1) kind fun Qa=>Cnd (Qa<0) (K (Val.mk (0:Int) (0:Int) (B8 []) []) false) (At s.1 Qa fun y1=>Cnd (name=B8 [107,101,121]) (K (Val.mk (3:Int) (0:Int) y1.2 []) true) (Fits y1.3->Lp5 (fun Qe Jv j55 y5l (u2l:List ByteArray) u1f=>CAt y1.3 Qe (fun y5=>Cnd (y5.1=name) (Q6 (Val.mk y5.2.1 y5.2.2 y5.2.3 y5.2.4) fun J6=>K J6 true) (InI (Qe+1)/\u1f (Qe+1) Jv j55 y5l u2l)) (K (Val.mk (0:Int) (0:Int) (B8 []) []) false)) (0:Int) (0:Int) (0:Int) (B8 []) []))
def Gz:Wl:=q5u H5 Jm
abbrev q1z:Type:=Val->Val->(Bool->Prop)->Prop
def z2q(Qq:Zb):q1z:=fun a b K=>Cnd (a.1=b.1) (Cnd (a.2=b.2) (Cnd (a.3=b.3) (Qq a.4 b.4 fun Qa=>K Qa) (K false)) (K false)) (K false)
def q13:q1z:=z2q Zo
abbrev Z1:Type:=ByteArray->ByteArray->(Bool->Prop)->Prop
def Jn:Z1:=fun s prefix_ K=>Cnd ((↑prefix_.size:Int)<=(↑s.size:Int)) (((0:Int)<=(0:Int)/\(0:Int)<=(↑prefix_.size:Int)/\(↑prefix_.size:Int)<=(↑s.size:Int))/\K (decide (s.extract (Int.toNat (0:Int)) (↑prefix_.size:Int).toNat=prefix_))) (K false)
abbrev Vd:Type:=ByteArray->ByteArray->(Bool->Prop)->Prop
def q0l(Q7:Z1):Vd:=fun s prefix_ K=>Q7 s prefix_ fun Qa=>K Qa
def U6:Vd:=q0l Jn
abbrev Wr:Type:=ByteArray->ByteArray->(Bool->Prop)->Prop
def U7:Wr:=fun s suffix K=>Cnd ((↑suffix.size:Int)<=(↑s.size:Int)) (InI ((↑s.size:Int) - (↑suffix.size:Int))/\((0:Int)<=(↑s.size:Int) - (↑suffix.size:Int)/\(↑s.size:Int) - (↑suffix.size:Int)<=(↑s.size:Int)/\(↑s.size:Int)<=(↑s.size:Int))/\K (decide (s.extract ((↑s.size:Int) - (↑suffix.size:Int)).toNat (↑s.size:Int).toNat=suffix))) (K false)
abbrev Ve:Type:=ByteArray->ByteArray->(Bool->Prop)->Prop
def q0m(Ww:Wr):Ve:=fun s suffix K=>Ww s suffix fun Qa=>K Qa
def U8:Ve:=q0m U7
abbrev q14:Type:=ByteArray->ByteArray->(Bool->Prop)->Prop
def q15(s:ByteArray)(substr:ByteArray)(K:Bool->Prop):Prop:=s.size<4294967281/\K (Go.Lib.contains s.data.toList substr.data.toList)
abbrev q6j:Type:=Val->(Bool->Prop)->Prop
def q6k:q6j:=fun v K=>Jn1 (fun Qa=>Cnd (Qa=true) (Cnd (v.3=B8 []) (Fits v.4->K (decide ((↑v.4.length:Int)=0))) (K false)) (Jn1 (fun Qc=>Cnd (Qc=true) (Cnd (v.2=0) (Fits v.4->K (decide ((↑v.4.length:Int)=0))) (K false)) (Cnd (v.2=0) (K (decide (v.3=B8 []))) (K false))) fun j5k=>Cnd (v.1=3) (j5k (decide (v.1=3))) (j5k (decide (v.1=4))))) fun q3i=>Cnd (v.1=1) (q3i (decide (v.1=1))) (q3i (decide (v.1=2)))
abbrev q5b:Type:=ByteArray->(Bool->Prop)->Prop
def z5i(Zx:Vw):q5b:=fun s K=>Cnd ((200:Int)<(↑s.size:Int)) (K false) (Zx s fun Qa=>Cnd (Qa=true) (Lp1 (fun (Qc:ByteArray×Nat) R1=>Cnd (Qc.2<Qc.1.size) (Cnd ((↑(Go.Utf8.decode Qc.1 Qc.2).1:Int)<(32:Int)) (K false) (Cnd ((↑(Go.Utf8.decode Qc.1 Qc.2).1:Int)=(127:Int)) (K false) (R1 (Qc.1,Qc.2+(Go.Utf8.decode Qc.1 Qc.2).2)))) (K true)) (s,(0:Nat))) (K false))
def q9o:q5b:=z5i Vx
abbrev q8i:Type:=ByteArray->ByteArray->(List (ByteArray)->Prop)->Prop
def q8j(s:ByteArray)(sep:ByteArray)(K:List (ByteArray)->Prop):Prop:=sep.size=1/\s.size<4294967281/\K (q0y s sep)
abbrev Jo:Type:=ByteArray->ByteArray->(ByteArray->Bool->Prop)->Prop
def U9(Q7:Z1):Jo:=fun s prefix_ K=>Q7 s prefix_ fun Qa=>Cnd (Qa=true) (((0:Int)<=(↑prefix_.size:Int)/\(↑prefix_.size:Int)<=(↑s.size:Int)/\(↑s.size:Int)<=(↑s.size:Int))/\K (s.extract (↑prefix_.size:Int).toNat (↑s.size:Int).toNat) true) (K s false)
def Ga:Jo:=U9 Jn
abbrev Vf:Type:=ByteArray->ByteArray->(ByteArray->Bool->Prop)->Prop
def q0n(Wx:Jo):Vf:=fun s prefix_ K=>Wx s prefix_ fun Qa Qy=>K Qa Qy
def Gb:Vf:=q0n Ga
abbrev z0p:Type:=ByteArray->(Int->Bool->Prop)->Prop
def q4h(s:ByteArray)(K:Int->Bool->Prop):Prop:=s.size<=281474976710656/\y28 s K
abbrev V0:Type:=ByteArray->(Int->Int->Prop)->Prop
def q16(Gn:Vf)(Bt:z0p):V0:=fun s K=>Gn s (B8 [45]) fun Qa Qy=>Cnd (Qa=B8 []) (K (0:Int) (1:Int)) (((0:Int)<=(0:Int)/\(0:Int)<(↑Qa.size:Int))/\ ∀b1,Qa[Int.toNat (0:Int)]? =some b1->Cnd ((↑b1.toNat:Int)=48) (Cnd ((1:Int)<(↑Qa.size:Int)) (K (0:Int) (1:Int)) (Cnd (Qy=true) (K (0:Int) (1:Int)) (Lp1 (fun (Qk:ByteArray×Nat) j00=>Cnd (Qk.2<Qk.1.size) (Cnd ((↑(Go.Utf8.decode Qk.1 Qk.2).1:Int)<(48:Int)) (K (0:Int) (1:Int)) (Cnd ((57:Int)<(↑(Go.Utf8.decode Qk.1 Qk.2).1:Int)) (K (0:Int) (1:Int)) (j00 (Qk.1,Qk.2+(Go.Utf8.decode Qk.1 Qk.2).2)))) (Bt s fun Qe Jv=>Cnd ((match (Qe,Jv,()).2.1 with|true=>false|false=>true)=true) (K (0:Int) (3:Int)) (Cnd (Qe<(-1099511627776:Int)) (K (0:Int) (3:Int)) (Cnd ((1099511627776:Int)<Qe) (K (0:Int) (3:Int)) (K Qe (0:Int)))))) (Qa,(0:Nat))))) (Lp1 (fun (Qk:ByteArray×Nat) j00=>Cnd (Qk.2<Qk.1.size) (Cnd ((↑(Go.Utf8.decode Qk.1 Qk.2).1:Int)<(48:Int)) (K (0:Int) (1:Int)) (Cnd ((57:Int)<(↑(Go.Utf8.decode Qk.1 Qk.2).1:Int)) (K (0:Int) (1:Int)) (j00 (Qk.1,Qk.2+(Go.Utf8.decode Qk.1 Qk.2).2)))) (Bt s fun Qe Jv=>Cnd ((match (Qe,Jv,()).2.1 with|true=>false|false=>true)=true) (K (0:Int) (3:Int)) (Cnd (Qe<(-1099511627776:Int)) (K (0:Int) (3:Int)) (Cnd ((1099511627776:Int)<Qe) (K (0:Int) (3:Int)) (K Qe (0:Int)))))) (Qa,(0:Nat))))
def Hh:V0:=q16 Gb q4h
abbrev Gc:Type:=ByteArray->(A3->Bool->Prop)->Prop
def z2r(q3a:q8i)(Hp:V0):Gc:=fun s K=>q3a s (B8 [46]) fun Qa=>Fits Qa->Cnd ((↑Qa.length:Int)=3) (Fits Qa->LpH (fun (Qk:Int×Int×Int×Int×Int×Int×Int×Unit) j00=>CAt Qa Qk.1 (fun y4=>Hp y4 fun Zp q95=>Cnd (q95=0) (Cnd (Zp<0) (K ((0:Int),(0:Int),(0:Int)) false) (Cnd ((999999:Int)<Zp) (K ((0:Int),(0:Int),(0:Int)) false) (((0:Int)<=Qk.1/\Qk.1<(↑(3:Nat):Int))/\((True/\(Qk.1=(↑(nat_lit 0):Int)->InI (Qk.1+1)/\j00 (Qk.1+1,Zp,Qk.2.2.1,Qk.2.2.2.1,Qk.2.2.2.2.1,Qk.2.2.2.2.2.1,Qk.2.2.2.2.2.2.1,())))/\(Qk.1=(↑(nat_lit 1):Int)->InI (Qk.1+1)/\j00 (Qk.1+1,Qk.2.1,Zp,Qk.2.2.2.1,Qk.2.2.2.2.1,Qk.2.2.2.2.2.1,Qk.2.2.2.2.2.2.1,())))/\(Qk.1=(↑(nat_lit 2):Int)->InI (Qk.1+1)/\j00 (Qk.1+1,Qk.2.1,Qk.2.2.1,Zp,Qk.2.2.2.2.1,Qk.2.2.2.2.2.1,Qk.2.2.2.2.2.2.1,()))))) (K ((0:Int),(0:Int),(0:Int)) false)) (K (Qk.2.1,Qk.2.2.1,Qk.2.2.2.1) true)) ((0:Int),(0:Int),(0:Int),(0:Int),(0:Int),(0:Int),(0:Int),())) (K ((0:Int),(0:Int),(0:Int)) false)
def q17:Gc:=z2r q8j Hh
abbrev q18:Type:=Val->(Int->Prop)->Prop
def z2s(q67:q6j)(q5l:q5b)(Wb:Gc):q18:=fun v K=>Cnd (v.1<1) (K (7:Int)) (Cnd ((5:Int)<v.1) (K (7:Int)) (q67 v fun Qa=>Cnd (Qa=true) (Cnd (v.1=1) (Cnd (v.2=0) (K (0:Int)) (Cnd (v.2=1) (K (0:Int)) (K (3:Int)))) (Cnd (v.1=2) (Cnd (v.2<(-1099511627776:Int)) (K (3:Int)) (Cnd ((1099511627776:Int)<v.2) (K (3:Int)) (K (0:Int)))) (Cnd (v.1=3) (q5l v.3 fun Qc=>Cnd (Qc=true) (K (0:Int)) (K (2:Int))) (Cnd (v.1=4) (Wb v.3 fun (Qc:Int×Int×Int) Z8=>Cnd (Z8=true) (K (0:Int)) (K (1:Int))) (Cnd (v.1=5) (Fits v.4->Cnd ((20:Int)<(↑v.4.length:Int)) (K (5:Int)) (Fits v.4->Lp1 (fun Qk j00=>CAt v.4 Qk (fun y4=>q5l y4 fun Zp=>Cnd (Zp=true) (InI (Qk+1)/\j00 (Qk+1)) (K (2:Int))) (Fits v.4->Lp1 (fun Qm w38=>Cnd (Qm<(↑v.4.length:Int)) (Cnd ((0:Int)<Qm) (InI (Qm - 1)/\((0:Int)<=Qm - 1/\Qm - 1<(↑v.4.length:Int))/\ ∀y6,v.4[(Qm - 1).toNat]? =some y6->At v.4 Qm fun y8=>Cnd (Lk.blt y6 y8) (InI (Qm+1)/\w38 (Qm+1)) (K (9:Int))) (InI (Qm+1)/\w38 (Qm+1))) (K (0:Int))) (0:Int))) (0:Int))) (K (0:Int))))))) (K (15:Int))))
def q6l:q18:=z2s q6k q9o q17
abbrev H7:Type:=Val->Val->(Int->Int->Prop)->Prop
def q8k(q3b:q18)(Wb:Gc):H7:=fun a b K=>q3b a fun Qa=>Cnd (Qa=0) (q3b b fun Qc=>Cnd (Qc=0) (Cnd (a.1=b.1) (Cnd (a.1=1) (K (0:Int) (8:Int)) (Cnd (a.1=5) (K (0:Int) (8:Int)) (Cnd (a.1=2) (Cnd (a.2=a.2) (Cnd (b.2=b.2) (Cnd (a.2<b.2) (K (-1:Int) (0:Int)) (Cnd (b.2<a.2) (K (1:Int) (0:Int)) (K (0:Int) (0:Int)))) (K (1:Int) (0:Int))) (Cnd (b.2=b.2) (K (-1:Int) (0:Int)) (K (0:Int) (0:Int)))) (Cnd (a.1=3) (Cnd (a.3=a.3) (Cnd (b.3=b.3) (Cnd (Lk.blt a.3 b.3) (K (-1:Int) (0:Int)) (Cnd (Lk.blt b.3 a.3) (K (1:Int) (0:Int)) (K (0:Int) (0:Int)))) (K (1:Int) (0:Int))) (Cnd (b.3=b.3) (K (-1:Int) (0:Int)) (K (0:Int) (0:Int)))) (Wb a.3 fun (Qf:Int×Int×Int) Zn=>Wb b.3 fun (Qk:Int×Int×Int) Ry=>Two (([Qf.1,Qf.2.1,Qf.2.2].length<=(9223372036854775807:Nat)->Lp1 (fun Qm w38=>Cnd (Qm<(↑[Qf.1,Qf.2.1,Qf.2.2].length:Int)) (((0:Int)<=Qm/\Qm<(↑[Qf.1,Qf.2.1,Qf.2.2].length:Int))/\ ∀y6,[Qf.1,Qf.2.1,Qf.2.2][Qm.toNat]? =some y6->[Qk.1,Qk.2.1,Qk.2.2].length<=(9223372036854775807:Nat)->Cnd ((↑[Qk.1,Qk.2.1,Qk.2.2].length:Int)<=Qm) (K (1:Int) (0:Int)) (((0:Int)<=Qm/\Qm<(↑[Qk.1,Qk.2.1,Qk.2.2].length:Int))/\ ∀y9,[Qk.1,Qk.2.1,Qk.2.2][Qm.toNat]? =some y9->Cnd (y6=y6) (Cnd (y9=y9) (Cnd (y6<y9) (Cnd ((-1:Int)=(0:Int)) (InI (Qm+1)/\w38 (Qm+1)) (K (-1:Int) (0:Int))) (Cnd (y9<y6) (Cnd ((1:Int)=(0:Int)) (InI (Qm+1)/\w38 (Qm+1)) (K (1:Int) (0:Int))) (Cnd ((0:Int)=(0:Int)) (InI (Qm+1)/\w38 (Qm+1)) (K (0:Int) (0:Int))))) (Cnd ((1:Int)=(0:Int)) (InI (Qm+1)/\w38 (Qm+1)) (K (1:Int) (0:Int)))) (Cnd (y9=y9) (Cnd ((-1:Int)=(0:Int)) (InI (Qm+1)/\w38 (Qm+1)) (K (-1:Int) (0:Int))) (Cnd ((0:Int)=(0:Int)) (InI (Qm+1)/\w38 (Qm+1)) (K (0:Int) (0:Int)))))) ([Qf.1,Qf.2.1,Qf.2.2].length<=(9223372036854775807:Nat)->[Qk.1,Qk.2.1,Qk.2.2].length<=(9223372036854775807:Nat)->Cnd ((↑[Qf.1,Qf.2.1,Qf.2.2].length:Int)<(↑[Qk.1,Qk.2.1,Qk.2.2].length:Int)) (K (-1:Int) (0:Int)) (K (0:Int) (0:Int)))) (0:Int)))))))) (K (0:Int) (8:Int))) (K (0:Int) Qc)) (K (0:Int) Qa)
def H8:H7:=q8k q6l q17
abbrev q19:Type:=Subj->Ex->(Bool->Prop)->Prop
def z2t(Jf:Wl)(Wv:Rn)(R6:q1z)(Gq:Vd)(Gs:Ve)(Hq:q14)(Rf:H7):q19:=fun s e K=>Jf (Subj.mk s.1) e.2 e.3 fun Qa Qy=>Cnd (Qy=true) (Wv e.1 fun Qc=>Cnd (Qc=true) (Cnd (e.1=6) (K true) (Cnd (e.1=8) (Fits e.4->Lp1 (fun Qk j00=>CAt e.4 Qk (fun y4=>R6 Qa y4 fun Zp=>Cnd (Zp=true) (K (decide ((0:Int)<=Qk))) (InI (Qk+1)/\j00 (Qk+1))) (K (decide ((0:Int)<=(-1:Int))))) (0:Int)) (Fits e.4->Cnd ((↑e.4.length:Int)=0) (K false) (((0:Int)<=(0:Int)/\(0:Int)<(↑e.4.length:Int))/\ ∀y3,e.4[Int.toNat (0:Int)]? =some y3->Cnd (Qa.1=3) (Cnd (e.1=7) (R6 Qa y3 fun Qm=>K Qm) (Cnd (e.1=9) (Cnd (y3.1=3) (Gq Qa.3 y3.3 fun Qm=>K Qm) (K false)) (Cnd (e.1=10) (Cnd (y3.1=3) (Gs Qa.3 y3.3 fun Qm=>K Qm) (K false)) (Cnd (e.1=11) (Cnd (y3.1=3) (Hq Qa.3 y3.3 fun Qm=>Cnd (Qm=true) (K true) (Cnd (y3.1=3) (Cnd (Qa.1=5) (Fits Qa.4->Lp1 (fun J6 y8m=>CAt Qa.4 J6 (fun y8=>Cnd (y3.3=y8) (K (decide ((0:Int)<=J6))) (InI (J6+1)/\y8m (J6+1))) (K (decide ((0:Int)<=(-1:Int))))) (0:Int)) (K false)) (K false))) (Cnd (y3.1=3) (Cnd (Qa.1=5) (Fits Qa.4->Lp1 (fun Zp v6s=>CAt Qa.4 Zp (fun y7=>Cnd (y3.3=y7) (K (decide ((0:Int)<=Zp))) (InI (Zp+1)/\v6s (Zp+1))) (K (decide ((0:Int)<=(-1:Int))))) (0:Int)) (K false)) (K false))) (Rf Qa y3 fun Qm q87=>Cnd (q87=0) (Cnd (e.1=12) (K (decide (Qm<0))) (Cnd (e.1=13) (K (decide (Qm<=0))) (Cnd (e.1=14) (K (decide ((0:Int)<Qm))) (K (decide ((0:Int)<=Qm)))))) (K false)))))) (Cnd (e.1=7) (R6 Qa y3 fun Qm=>K Qm) (Cnd (e.1=9) (K false) (Cnd (e.1=10) (K false) (Cnd (e.1=11) (Cnd (y3.1=3) (Cnd (Qa.1=5) (Fits Qa.4->Lp1 (fun Zp v6s=>CAt Qa.4 Zp (fun y7=>Cnd (y3.3=y7) (K (decide ((0:Int)<=Zp))) (InI (Zp+1)/\v6s (Zp+1))) (K (decide ((0:Int)<=(-1:Int))))) (0:Int)) (K false)) (K false)) (Rf Qa y3 fun Qm q87=>Cnd (q87=0) (Cnd (e.1=12) (K (decide (Qm<0))) (Cnd (e.1=13) (K (decide (Qm<=0))) (Cnd (e.1=14) (K (decide ((0:Int)<Qm))) (K (decide ((0:Int)<=Qm)))))) (K false)))))))))) (K false)) (K false)
def Rq:q19:=z2t Gz U5 q13 U6 U8 q15 H8
abbrev Jd:Type:=Subj->List (ByteArray)->Ex->(Bool->Prop)->Prop
def z2u(q68:q19)(X:Jd):Jd:=fun s in_ e K=>Cnd (e.1=1) (K true) (Cnd (e.1=2) (Fits e.5->Lp1 (fun Qc R1=>CAt e.5 Qc (fun y2=>X (Subj.mk s.1) in_ (Ex.mk y2.1 y2.2 y2.3 y2.4 y2.5) fun Qe=>Cnd (Qe=true) (InI (Qc+1)/\R1 (Qc+1)) (K (match decide ((0:Int)<=Qc) with|true=>false|false=>true))) (K true)) (0:Int)) (Cnd (e.1=3) (Fits e.5->Lp1 (fun Qc R1=>CAt e.5 Qc (fun y2=>X (Subj.mk s.1) in_ (Ex.mk y2.1 y2.2 y2.3 y2.4 y2.5) fun Qe=>Cnd (Qe=true) (K (decide ((0:Int)<=Qc))) (InI (Qc+1)/\R1 (Qc+1))) (K (decide ((0:Int)<=(-1:Int))))) (0:Int)) (Cnd (e.1=4) (Fits e.5->Cnd ((0:Int)<(↑e.5.length:Int)) (((0:Int)<=(0:Int)/\(0:Int)<(↑e.5.length:Int))/\ ∀y1,e.5[Int.toNat (0:Int)]? =some y1->X (Subj.mk s.1) in_ (Ex.mk y1.1 y1.2 y1.3 y1.4 y1.5) fun Qk=>K (match decide ((Qk,()).1=true) with|true=>false|false=>true)) (K false)) (Cnd (e.1=5) (Fits in_->Lp1 (fun Qc R1=>CAt in_ Qc (fun y2=>Cnd (e.3=y2) (K (decide ((0:Int)<=Qc))) (InI (Qc+1)/\R1 (Qc+1))) (K (decide ((0:Int)<=(-1:Int))))) (0:Int)) (q68 (Subj.mk s.1) (Ex.mk e.1 e.2 e.3 e.4 e.5) fun Qa=>K Qa)))))
def V1:Jd:=fun s in_ e K=> ∀X:Jd,(∀s in_ e K,z2u Rq X s in_ e K->X s in_ e K)->X s in_ e K
abbrev V2:Type:=Seg->Subj->List (ByteArray)->(Bool->Prop)->Prop
def q2a(Qn:Zq)(Zd:Jd):V2:=fun g s in_ K=>Qn (Subj.mk s.1) g.2 fun Qa Qy=>Cnd (Qy=true) (Fits g.4->Lp1 (fun Qf j3a=>CAt g.4 Qf (fun y3=>Cnd (Qa.2=y3) (Cnd ((0:Int)<=Qf) (K false) (Fits g.3->Lp1 (fun Zp v6s=>CAt g.3 Zp (fun y7=>Cnd (Qa.2=y7) (Cnd ((0:Int)<=Zp) (K true) (Cnd (g.5.1=0) (K false) (Zd (Subj.mk s.1) in_ (Ex.mk g.5.1 g.5.2 g.5.3 g.5.4 g.5.5) fun Qs=>K Qs))) (InI (Zp+1)/\v6s (Zp+1))) (Cnd ((0:Int)<=(-1:Int)) (K true) (Cnd (g.5.1=0) (K false) (Zd (Subj.mk s.1) in_ (Ex.mk g.5.1 g.5.2 g.5.3 g.5.4 g.5.5) fun J6=>K J6)))) (0:Int))) (InI (Qf+1)/\j3a (Qf+1))) (Cnd ((0:Int)<=(-1:Int)) (K false) (Fits g.3->Lp1 (fun Qe w9t=>CAt g.3 Qe (fun y5=>Cnd (Qa.2=y5) (Cnd ((0:Int)<=Qe) (K true) (Cnd (g.5.1=0) (K false) (Zd (Subj.mk s.1) in_ (Ex.mk g.5.1 g.5.2 g.5.3 g.5.4 g.5.5) fun J6=>K J6))) (InI (Qe+1)/\w9t (Qe+1))) (Cnd ((0:Int)<=(-1:Int)) (K true) (Cnd (g.5.1=0) (K false) (Zd (Subj.mk s.1) in_ (Ex.mk g.5.1 g.5.2 g.5.3 g.5.4 g.5.5) fun Qm=>K Qm)))) (0:Int)))) (0:Int)) (K false)
def Hi:V2:=q2a W5 V1
abbrev J2:Type:=List (Seg)->Subj->(List (ByteArray)->Prop)->Prop
def q3p(q3c:H4)(Hr:V2)(Qt:Zv):J2:=fun l s K=>q3c l fun Qa Qy=>Cnd (Qy=0) (Fits l->Lp2 (fun Qf j3a q7o=>CAt l Qf (fun y3=>InI (Qf+1)/\q7o (Qf+1) (put j3a y3.1 (Seg.mk y3.1 y3.2 y3.3 y3.4 (Ex.mk y3.5.1 y3.5.2 y3.5.3 y3.5.4 y3.5.5)))) (Fits Qa->Lp2 (fun Qe Jv w9s=>CAt Qa Jv (fun y5=>Hr (Seg.mk ((j3a y5).getD (Seg.mk (B8 []) (B8 []) [] [] (Ex.mk (0:Int) (B8 []) (B8 []) [] []))).1 ((j3a y5).getD (Seg.mk (B8 []) (B8 []) [] [] (Ex.mk (0:Int) (B8 []) (B8 []) [] []))).2 ((j3a y5).getD (Seg.mk (B8 []) (B8 []) [] [] (Ex.mk (0:Int) (B8 []) (B8 []) [] []))).3 ((j3a y5).getD (Seg.mk (B8 []) (B8 []) [] [] (Ex.mk (0:Int) (B8 []) (B8 []) [] []))).4 (Ex.mk ((j3a y5).getD (Seg.mk (B8 []) (B8 []) [] [] (Ex.mk (0:Int) (B8 []) (B8 []) [] []))).5.1 ((j3a y5).getD (Seg.mk (B8 []) (B8 []) [] [] (Ex.mk (0:Int) (B8 []) (B8 []) [] []))).5.2 ((j3a y5).getD (Seg.mk (B8 []) (B8 []) [] [] (Ex.mk (0:Int) (B8 []) (B8 []) [] []))).5.3 ((j3a y5).getD (Seg.mk (B8 []) (B8 []) [] [] (Ex.mk (0:Int) (B8 []) (B8 []) [] []))).5.4 ((j3a y5).getD (Seg.mk (B8 []) (B8 []) [] [] (Ex.mk (0:Int) (B8 []) (B8 []) [] []))).5.5)) (Subj.mk s.1) Qe fun J6=>Cnd (J6=true) (Sml (Qe++[y5]).length/\InI (Jv+1)/\w9s (Qe++[y5]) (Jv+1)) (InI (Jv+1)/\w9s Qe (Jv+1))) (Qt Qe fun Qm=>K Qm)) [] (0:Int))) (0:Int) fun _=>none) (K [])
def W8:J2:=q3p q1x Hi Jk
abbrev G0:Type:=Envt->Subj->List (Frc)->(ByteArray->ByteArray->Int->List (Decl)->List (Seg)->List (Flg)->List (Lay_)->List (Exper)->List (Ctxt)->List (Frc)->List (ByteArray)->(ByteArray->Option (Dcs))->(ByteArray->Option (Bool))->Prop)->Prop
def q5v(Q9:J2):G0:=fun v s forced K=>(Q9 v.3 (Subj.mk s.1) fun Qa=>(K v.1.1 v.1.2 v.1.3 v.2 v.3 v.4 v.5 v.6 s.1 forced Qa (fun _=>none) fun _=>none)/\K v.1.1 v.1.2 v.1.3 v.2 v.3 v.4 v.5 v.6 s.1 forced Qa (fun _=>none) fun _=>none)/\((Q9 v.3 (Subj.mk s.1) fun Qa=>K v.1.1 v.1.2 v.1.3 v.2 v.3 v.4 v.5 v.6 s.1 forced Qa (fun _=>none) fun _=>none)/\Q9 v.3 (Subj.mk s.1) fun Qa=>K v.1.1 v.1.2 v.1.3 v.2 v.3 v.4 v.5 v.6 s.1 forced Qa (fun _=>none) fun _=>none)/\(Q9 v.3 (Subj.mk s.1) fun Qa=>K v.1.1 v.1.2 v.1.3 v.2 v.3 v.4 v.5 v.6 s.1 forced Qa (fun _=>none) fun _=>none)/\Q9 v.3 (Subj.mk s.1) fun Qa=>K v.1.1 v.1.2 v.1.3 v.2 v.3 v.4 v.5 v.6 s.1 forced Qa (fun _=>none) fun _=>none
def B2:G0:=q5v W8
abbrev Wf:Type:=ByteArray->ByteArray->Int->List (Decl)->List (Seg)->List (Flg)->List (Lay_)->List (Exper)->List (Ctxt)->List (Frc)->List (ByteArray)->(ByteArray->Option (Dcs))->(ByteArray->Option (Bool))->ByteArray->(Flg->Bool->(ByteArray->Option (Dcs))->(ByteArray->Option (Bool))->Prop)->Prop
def Jp:Wf:=fun _ _ _ _ _ flags _ _ _ _ _ done opn key K=>Fits flags->Lp1 (fun Qc R1=>CAt flags Qc (fun y2=>Cnd (y2.1=key) (Cnd (Qc<0) (K (Flg.mk (B8 []) (0:Int) [] false (0:Int) [] [] [] (Srv.mk (0:Int) (B8 []) (B8 []) (B8 []) [])) false done opn) (At flags Qc fun y4=>K (Flg.mk y4.1 y4.2 y4.3 y4.4 y4.5 y4.6 y4.7 y4.8 (Srv.mk y4.9.1 y4.9.2 y4.9.3 y4.9.4 y4.9.5)) true done opn)) (InI (Qc+1)/\R1 (Qc+1))) (Cnd ((-1:Int)<(0:Int)) (K (Flg.mk (B8 []) (0:Int) [] false (0:Int) [] [] [] (Srv.mk (0:Int) (B8 []) (B8 []) (B8 []) [])) false done opn) (At flags (-1:Int) fun y2=>K (Flg.mk y2.1 y2.2 y2.3 y2.4 y2.5 y2.6 y2.7 y2.8 (Srv.mk y2.9.1 y2.9.2 y2.9.3 y2.9.4 y2.9.5)) true done opn))) (0:Int)
abbrev J3:Type:=Flg->Subj->(Int->Prop)->Prop
def q3q(Qn:Zq):J3:=fun f s K=>Fits f.7->Lp1 (fun Qc R1=>CAt f.7 Qc (fun y2=>Qn (Subj.mk s.1) y2.1 fun Qe Jv=>Cnd (Jv=true) (Fits y2.3->Lp1 (fun Zp v6s=>CAt y2.3 Zp (fun y7=>Cnd (Qe.2=y7) (Cnd ((0:Int)<=Zp) (InI (Qc+1)/\K (Qc+1)) (InI (Qc+1)/\R1 (Qc+1))) (InI (Zp+1)/\v6s (Zp+1))) (Cnd ((0:Int)<=(-1:Int)) (InI (Qc+1)/\K (Qc+1)) (InI (Qc+1)/\R1 (Qc+1)))) (0:Int)) (InI (Qc+1)/\R1 (Qc+1))) (K (0:Int))) (0:Int)
def J4:J3:=q3q W5
abbrev q4i:Type:=List (List Int)->(List (Int)->Prop)->Prop
def q4j:q4i:=fun fields K=>Fits fields->Lp2 (fun Qc Z8 z8j=>CAt fields Z8 (fun y2=>Lp2 (fun Qe Jv w9s=>Cnd ((0:Int)<=Jv) (Fits y2->InI ((8:Int)*Jv)/\(0:Int)<=(8:Int)*Jv/\Sml (Qe++[Go.IntKind.u8.wrap ((Go.IntKind.u64.wrap (↑y2.length:Int)).fdiv ((2:Int) ^ Min.min ((8:Int)*Jv).toNat (64:Nat)))]).length/\InI (Jv - 1)/\w9s (Qe++[Go.IntKind.u8.wrap ((Go.IntKind.u64.wrap (↑y2.length:Int)).fdiv ((2:Int) ^ Min.min ((8:Int)*Jv).toNat (64:Nat)))]) (Jv - 1)) (Sml (Qe++y2).length/\InI (Z8+1)/\z8j (Qe++y2) (Z8+1))) Qc (7:Int)) (K Qc)) [] (0:Int)
abbrev Gd:Type:=Int->Int->(Int->Prop)->Prop
def Ge:Gd:=fun x k K=>(0:Int)<=Go.IntKind.u64.wrap (↑(BitVec.ofInt (64:Nat) (Go.IntKind.u64.wrap k) &&& BitVec.ofInt (64:Nat) (63:Int)).toNat:Int)/\(0:Int)<=Go.IntKind.u64.wrap ((64:Int) - Go.IntKind.u64.wrap (↑(BitVec.ofInt (64:Nat) (Go.IntKind.u64.wrap k) &&& BitVec.ofInt (64:Nat) (63:Int)).toNat:Int))/\K (Go.IntKind.u64.wrap (↑(BitVec.ofInt (64:Nat) (Go.IntKind.u64.wrap (x*2 ^ Min.min (Go.IntKind.u64.wrap (↑(BitVec.ofInt (64:Nat) (Go.IntKind.u64.wrap k) &&& BitVec.ofInt (64:Nat) (63:Int)).toNat:Int)).toNat (64:Nat)))|||BitVec.ofInt (64:Nat) (x.fdiv ((2:Int) ^ Min.min (Go.IntKind.u64.wrap ((64:Int) - Go.IntKind.u64.wrap (↑(BitVec.ofInt (64:Nat) (Go.IntKind.u64.wrap k) &&& BitVec.ofInt (64:Nat) (63:Int)).toNat:Int))).toNat (64:Nat)))).toNat:Int))
abbrev Z6:Type:=Int->Int->Int->Int->Int->(Int->Int->Int->Int->Prop)->Prop
def R9(Zm:Gd):Z6:=fun v0 v1 v2 v3 n K=>Lp5 (fun Qa Qy j0y q55 w1g y86=>Cnd (Qa<n) (Zm j0y (13:Int) fun Qc=>Zm (Go.IntKind.u64.wrap (Qy+j0y)) (32:Int) fun Qf=>Zm w1g (16:Int) fun Qk=>Zm (Go.IntKind.u64.wrap (↑(BitVec.ofInt (64:Nat) Qk ^^^ BitVec.ofInt (64:Nat) (Go.IntKind.u64.wrap (q55+w1g))).toNat:Int)) (21:Int) fun Qe=>Zm (Go.IntKind.u64.wrap (↑(BitVec.ofInt (64:Nat) Qc ^^^ BitVec.ofInt (64:Nat) (Go.IntKind.u64.wrap (Qy+j0y))).toNat:Int)) (17:Int) fun Qm=>Zm (Go.IntKind.u64.wrap (Go.IntKind.u64.wrap (q55+w1g)+Go.IntKind.u64.wrap (↑(BitVec.ofInt (64:Nat) Qc ^^^ BitVec.ofInt (64:Nat) (Go.IntKind.u64.wrap (Qy+j0y))).toNat:Int))) (32:Int) fun Zp=>InI (Qa+1)/\y86 (Qa+1) (Go.IntKind.u64.wrap (Qf+Go.IntKind.u64.wrap (↑(BitVec.ofInt (64:Nat) Qk ^^^ BitVec.ofInt (64:Nat) (Go.IntKind.u64.wrap (q55+w1g))).toNat:Int))) (Go.IntKind.u64.wrap (↑(BitVec.ofInt (64:Nat) Qm ^^^ BitVec.ofInt (64:Nat) (Go.IntKind.u64.wrap (Go.IntKind.u64.wrap (q55+w1g)+Go.IntKind.u64.wrap (↑(BitVec.ofInt (64:Nat) Qc ^^^ BitVec.ofInt (64:Nat) (Go.IntKind.u64.wrap (Qy+j0y))).toNat:Int)))).toNat:Int)) Zp (Go.IntKind.u64.wrap (↑(BitVec.ofInt (64:Nat) Qe ^^^ BitVec.ofInt (64:Nat) (Go.IntKind.u64.wrap (Qf+Go.IntKind.u64.wrap (↑(BitVec.ofInt (64:Nat) Qk ^^^ BitVec.ofInt (64:Nat) (Go.IntKind.u64.wrap (q55+w1g))).toNat:Int)))).toNat:Int))) (K Qy j0y q55 w1g)) (0:Int) v0 v1 v2 v3
def Zs:Z6:=R9 Ge
abbrev V3:Type:=Int->Int->Int->Int->Int->(Int->Int->Int->Int->Prop)->Prop
def q2b(Zh:Z6):V3:=fun v0 v1 v2 v3 m K=>Zh v0 v1 v2 (Go.IntKind.u64.wrap (↑(BitVec.ofInt (64:Nat) v3 ^^^ BitVec.ofInt (64:Nat) m).toNat:Int)) (2:Int) fun Qa Qy j0y q55=>K (Go.IntKind.u64.wrap (↑(BitVec.ofInt (64:Nat) Qa ^^^ BitVec.ofInt (64:Nat) m).toNat:Int)) Qy j0y q55
def Hj:V3:=q2b Zs
abbrev q5c:Type:=Int->Int->List (Int)->(Int->Prop)->Prop
def z5j(V9:V3)(Zh:Z6):q5c:=fun k0 k1 b K=>Fits b->(0:Int)<=(56:Int)/\Lp5 (fun Qc Z8 z9a j0z y83 u0x=>InI (Qc+8)/\(Fits b->Cnd (Qc+8<=(↑b.length:Int)) (Lp2 (fun Qk Ry w2r=>Cnd (Ry<8) (InI (Qc+Ry)/\At b (Qc+Ry) fun y4=>InI ((8:Int)*Ry)/\(0:Int)<=(8:Int)*Ry/\InI (Ry+1)/\w2r (Go.IntKind.u64.wrap (↑(BitVec.ofInt (64:Nat) Qk|||BitVec.ofInt (64:Nat) (Go.IntKind.u64.wrap (Go.IntKind.u64.wrap y4*2 ^ Min.min ((8:Int)*Ry).toNat (64:Nat)))).toNat:Int)) (Ry+1)) (V9 Z8 z9a j0z y83 Qk fun Qe Jv j55 y5l=>InI (Qc+8)/\u0x (Qc+8) Qe Jv j55 y5l)) (0:Int) (0:Int)) (Fits b->(8:Int)≠(0:Int)/\Lp2 (fun Qe Jv w9s=>Cnd (Jv<(↑b.length:Int).tmod (8:Int)) (Fits b->Fits b->(8:Int)≠(0:Int)/\InI ((↑b.length:Int) - (↑b.length:Int).tmod (8:Int))/\InI ((↑b.length:Int) - (↑b.length:Int).tmod (8:Int)+Jv)/\((0:Int)<=(↑b.length:Int) - (↑b.length:Int).tmod (8:Int)+Jv/\(↑b.length:Int) - (↑b.length:Int).tmod (8:Int)+Jv<(↑b.length:Int))/\ ∀y7,b[((↑b.length:Int) - (↑b.length:Int).tmod (8:Int)+Jv).toNat]? =some y7->InI ((8:Int)*Jv)/\(0:Int)<=(8:Int)*Jv/\InI (Jv+1)/\w9s (Go.IntKind.u64.wrap (↑(BitVec.ofInt (64:Nat) Qe|||BitVec.ofInt (64:Nat) (Go.IntKind.u64.wrap (Go.IntKind.u64.wrap y7*2 ^ Min.min ((8:Int)*Jv).toNat (64:Nat)))).toNat:Int)) (Jv+1)) (V9 Z8 z9a j0z y83 Qe fun Qm q87 u2m u3z=>Zh Qm q87 (Go.IntKind.u64.wrap (↑(BitVec.ofInt (64:Nat) u2m ^^^ BitVec.ofInt (64:Nat) (255:Int)).toNat:Int)) u3z (4:Int) fun Zp q95 w39 w6s=>K (Go.IntKind.u64.wrap (↑(BitVec.ofInt (64:Nat) (Go.IntKind.u64.wrap (↑(BitVec.ofInt (64:Nat) (Go.IntKind.u64.wrap (↑(BitVec.ofInt (64:Nat) Zp ^^^ BitVec.ofInt (64:Nat) q95).toNat:Int)) ^^^ BitVec.ofInt (64:Nat) w39).toNat:Int)) ^^^ BitVec.ofInt (64:Nat) w6s).toNat:Int)))) (Go.IntKind.u64.wrap (Go.IntKind.u64.wrap (↑b.length:Int)*2 ^ Min.min (Int.toNat (56:Int)) (64:Nat))) (0:Int)))) (0:Int) (Go.IntKind.u64.wrap (↑(BitVec.ofInt (64:Nat) k0 ^^^ BitVec.ofInt (64:Nat) (8317987319222330741:Int)).toNat:Int)) (Go.IntKind.u64.wrap (↑(BitVec.ofInt (64:Nat) k1 ^^^ BitVec.ofInt (64:Nat) (7237128888997146477:Int)).toNat:Int)) (Go.IntKind.u64.wrap (↑(BitVec.ofInt (64:Nat) k0 ^^^ BitVec.ofInt (64:Nat) (7816392313619706465:Int)).toNat:Int)) (Go.IntKind.u64.wrap (↑(BitVec.ofInt (64:Nat) k1 ^^^ BitVec.ofInt (64:Nat) (8387220255154660723:Int)).toNat:Int))
def q9p:q5c:=z5j Hj Zs
abbrev q2c:Type:=Int->List (List Int)->(Int->Prop)->Prop
def z2v(q4w:q4i)(z0e:q5c):q2c:=fun domain fields K=>q4w fields fun Qa=>z0e domain (0:Int) Qa fun Qc=>K Qc
def q6m:q2c:=z2v q4j q9p
abbrev Vg:Type:=ByteArray->ByteArray->(Int->Prop)->Prop
def z9x(q69:q2c):Vg:=fun salt key K=>Sml salt.size/\Sml key.size/\q69 (1:Int) [List.map (fun b=>(↑b.toNat:Int)) (salt,key,()).1.data.toList,List.map (fun b=>(↑b.toNat:Int)) (salt,key,()).2.1.data.toList] fun Qa=>(10000:Int)≠(0:Int)/\InI (Qa.tmod (10000:Int))/\K (Qa.tmod (10000:Int))
def Gf:Vg:=z9x q6m
abbrev q2d:Type:=List (Frc)->ByteArray->(Frc->Bool->Prop)->Prop
def q2e:q2d:=fun l layer K=>Fits l->Lp4 (fun Qc Z8 z9a j0z u30=>CAt l Qc (fun y2=>Cnd (y2.1=layer) (K y2 true) (InI (Qc+1)/\u30 (Qc+1) Z8 z9a j0z)) (K (Frc.mk (B8 []) (B8 []) (0:Int)) false)) (0:Int) (B8 []) (B8 []) (0:Int)
abbrev q6n:Type:=Envt->Frc->(Bool->Prop)->Prop
def q6o:q6n:=fun v f K=>Fits v.6->Lp1 (fun Qc R1=>CAt v.6 Qc (fun y2=>Cnd (y2.1=f.2) (Cnd (y2.2=f.1) (Cnd (y2.5=2) (Fits y2.7->Lp1 (fun Qm w38=>CAt y2.7 Qm (fun y6=>Cnd (y6.3=f.3) (Cnd ((0:Int)<=Qm) (K (decide ((0:Int)<=Qc))) (InI (Qc+1)/\R1 (Qc+1))) (InI (Qm+1)/\w38 (Qm+1))) (Cnd ((0:Int)<=(-1:Int)) (K (decide ((0:Int)<=Qc))) (InI (Qc+1)/\R1 (Qc+1)))) (0:Int)) (InI (Qc+1)/\R1 (Qc+1))) (InI (Qc+1)/\R1 (Qc+1))) (InI (Qc+1)/\R1 (Qc+1))) (K (decide ((0:Int)<=(-1:Int))))) (0:Int)
abbrev q2f:Type:=Envt->Subj->(Bool->Prop)->Prop
def z2w(Qn:Zq)(Zk:Vg):q2f:=fun v s K=>Cnd (v.1.3<=0) (K false) (Qn (Subj.mk s.1) v.1.2 fun Qa Qy=>Cnd (Qy=true) (Zk v.1.1 Qa.2 fun Qc=>K (decide (Qc<v.1.3))) (K false))
def q6p:q2f:=z2w W5 Gf
abbrev Ur:Type:=Envt->Subj->ByteArray->(Bool->Prop)->Prop
def q3r(Q9:J2)(Zd:Jd):Ur:=fun v s experiment K=>Fits v.6->Lp1 (fun Qc R1=>CAt v.6 Qc (fun y2=>Cnd (y2.1=experiment) (Q9 v.3 (Subj.mk s.1) fun Qe=>Zd (Subj.mk s.1) Qe (Ex.mk y2.8.1 y2.8.2 y2.8.3 y2.8.4 y2.8.5) fun Qm=>K Qm) (InI (Qc+1)/\R1 (Qc+1))) (K false)) (0:Int)
def Rr:Ur:=q3r W8 V1
abbrev Rs:Type:=List (Rng)->Int->(Int->Prop)->Prop
def q2g:Rs:=fun l bucket K=>Fits l->Lp1 (fun Qc R1=>CAt l Qc (fun y2=>Cnd (y2.1<=bucket) (Cnd (bucket<y2.2) (K y2.3) (InI (Qc+1)/\R1 (Qc+1))) (InI (Qc+1)/\R1 (Qc+1))) (K (0:Int))) (0:Int)
abbrev Bn:Type:=Envt->Subj->List (Frc)->ByteArray->(Asg->Int->Prop)->Prop
def z0q(Qn:Zq)(q3d:q2d)(Zk:Vg)(Wy:Rs)(R7:Ur)(q7a:q2f)(q7b:q6n):Bn:=fun v s forced key K=>Jn1 (fun Qa=>Cnd (Qa<0) (K (Asg.mk (B8 []) (B8 []) (0:Int) (0:Int) false) (11:Int)) (At v.5 Qa fun y1=>Qn (Subj.mk s.1) y1.2 fun Qk Ry=>Jn1 (fun Qe=>q3d forced key fun Qm q87=>Jn1 (fun Zp=>Cnd (Zp=true) (Cnd (Qm.2=B8 []) (K (Asg.mk key (B8 []) Qe (0:Int) false) (0:Int)) (K (Asg.mk key Qm.2 Qe Qm.3 false) (0:Int))) (Jn1 (fun J6=>Cnd (J6=true) (K (Asg.mk key (B8 []) Qe (0:Int) true) (0:Int)) (Cnd (Ry=true) (Fits v.6->Lp3 (fun Qs z9b y8i u2k=>CAt v.6 Qs (fun y10=>Jn1 (fun Gm=>Jn1 (fun Za=>Cnd (Za=true) (Zk y10.4 Qk.2 fun Wq=>Wy y10.7 Wq fun w1d=>K (Asg.mk key y10.1 Qe w1d false) (0:Int)) (InI (Qs+1)/\u2k (Qs+1) z9b y8i)) fun y4m=>Cnd (y10.2=key) (Cnd (y10.5=2) (Cnd (Gm=true) (R7 (Envt.mk (Sett.mk v.1.1 v.1.2 v.1.3) v.2 v.3 v.4 v.5 v.6) (Subj.mk s.1) y10.1 fun Wq=>y4m Wq) (y4m false)) (y4m false)) (y4m false)) fun v6q=>Fits y10.6->Lp1 (fun Wq v2n=>CAt y10.6 Wq (fun y15=>Cnd (y15.1<=Qe) (Cnd (Qe<y15.2) (v6q (decide ((0:Int)<=Wq))) (InI (Wq+1)/\v2n (Wq+1))) (InI (Wq+1)/\v2n (Wq+1))) (v6q (decide ((0:Int)<=(-1:Int))))) (0:Int)) (K (Asg.mk key z9b Qe y8i false) (0:Int))) (0:Int) (B8 []) (0:Int)) (K (Asg.mk key (B8 []) Qe (0:Int) false) (0:Int)))) fun y1b=>q7a (Envt.mk (Sett.mk v.1.1 v.1.2 v.1.3) v.2 v.3 v.4 v.5 v.6) (Subj.mk s.1) fun Wa=>Cnd (Wa=true) (y1b true) (Cnd (Ry=true) (y1b (decide (Qe<y1.4))) (y1b false)))) fun j7y=>Cnd (q87=true) (Cnd (Qm.2=B8 []) (j7y true) (q7b (Envt.mk (Sett.mk v.1.1 v.1.2 v.1.3) v.2 v.3 v.4 v.5 v.6) Qm fun J6=>j7y J6)) (j7y false)) fun y5n=>Cnd (Ry=true) (Zk y1.3 Qk.2 fun Qm=>y5n Qm) (y5n (-1:Int)))) fun q3i=>Fits v.5->Lp1 (fun Qf j3a=>CAt v.5 Qf (fun y3=>Cnd (y3.1=key) (q3i Qf) (InI (Qf+1)/\j3a (Qf+1))) (q3i (-1:Int))) (0:Int)
def Ha:Bn:=z0q W5 q2e Gf q2g Rr q6p q6o
abbrev Wo:Type:=ByteArray->ByteArray->Int->List (Decl)->List (Seg)->List (Flg)->List (Lay_)->List (Exper)->List (Ctxt)->List (Frc)->List (ByteArray)->(ByteArray->Option (Dcs))->(ByteArray->Option (Bool))->Exper->(Int->(ByteArray->Option (Dcs))->(ByteArray->Option (Bool))->Prop)->Prop
def Ba(Qn:Zq)(Zk:Vg):Wo:=fun _ _ _ _ _ _ layers _ ctxs _ _ done opn x K=>Fits layers->Lp1 (fun Qc R1=>CAt layers Qc (fun y2=>Cnd (y2.1=x.2) (Qn (Subj.mk ctxs) y2.2 fun Qe Jv=>Cnd (Jv=true) (Zk x.4 Qe.2 fun Qm=>K Qm done opn) (K (-1:Int) done opn)) (InI (Qc+1)/\R1 (Qc+1))) (K (-1:Int) done opn)) (0:Int)
def Ju:Wo:=Ba W5 Gf
abbrev z0r:Type:=Int->(ByteArray->Prop)->Prop
def z0s(i:Int)(K:ByteArray->Prop):Prop:=InI i/\K ⟨(Go.Lib.itoa i).toArray⟩
abbrev q2h:Type:=Int->(ByteArray->Prop)->Prop
def j1y(q4x:z0r):q2h:=fun n K=>q4x n fun Qa=>K Qa
def q6q:q2h:=j1y z0s
abbrev q5d:Type:=Val->(ByteArray->Bool->Prop)->Prop
def z5k(q7c:q2h):q5d:=fun v K=>Jn1 (fun Qa=>Cnd (Qa=true) (K v.3 true) (Cnd (v.1=2) (q7c v.2 fun Qc=>K Qc true) (Cnd (v.1=1) (Cnd (v.2=1) (K (B8 [116,114,117,101]) true) (K (B8 [102,97,108,115,101]) true)) (K (B8 []) false)))) fun q3i=>Cnd (v.1=3) (q3i (decide (v.1=3))) (q3i (decide (v.1=4)))
def q9q:q5d:=z5k q6q
abbrev G1:Type:=Subj->ByteArray->ByteArray->ByteArray->(Int->Bool->Prop)->Prop
def q5w(Jf:Wl)(z0f:q5d)(Zk:Vg):G1:=fun s kind by_ salt K=>Jf (Subj.mk s.1) kind by_ fun Qa Qy=>Cnd (Qy=true) (z0f Qa fun Qc Z8=>Cnd (Z8=true) (Zk salt Qc fun Qf=>K Qf true) (K (0:Int) false)) (K (0:Int) false)
def B3:G1:=q5w Gz q9q Gf
abbrev Wm:Type:=Subj->Srv->(Int->Int->Bool->Prop)->Prop
def q5x(q0d:G1)(Wy:Rs):Wm:=fun s v K=>Cnd (v.1=0) (q0d (Subj.mk s.1) v.2 v.3 v.4 fun Qa Qy=>Cnd (Qy=true) (Wy v.5 Qa fun Qc=>K Qc Qa true) (K (0:Int) (-1:Int) false)) (K v.1 (-1:Int) true)
def G2:Wm:=q5x B3 q2g
abbrev Vh:Type:=ByteArray->ByteArray->Int->List (Decl)->List (Seg)->List (Flg)->List (Lay_)->List (Exper)->List (Ctxt)->List (Frc)->List (ByteArray)->(ByteArray->Option (Dcs))->(ByteArray->Option (Bool))->Flg->Srv->Rsn->(Int->Rsn->(ByteArray->Option (Dcs))->(ByteArray->Option (Bool))->Prop)->Prop
def q0o(Jg:Wm):Vh:=fun _ _ _ _ _ _ _ _ ctxs _ _ done opn f v reason K=>Jg (Subj.mk ctxs) v fun Qa Qy j0y=>Cnd (j0y=true) (K Qa (Rsn.mk reason.1 reason.2 reason.3 Qy) done opn) (K f.5 (Rsn.mk (7:Int) reason.2 (B8 []) (-1:Int)) done opn)
def J5:Vh:=q0o G2
abbrev Zt:Type:=ByteArray->ByteArray->Int->List (Decl)->List (Seg)->List (Flg)->List (Lay_)->List (Exper)->List (Ctxt)->List (Frc)->List (ByteArray)->(ByteArray->Option (Dcs))->(ByteArray->Option (Bool))->Flg->(Dcs->(ByteArray->Option (Dcs))->(ByteArray->Option (Bool))->Prop)->Prop
def Bb(Q6:J9)(Zy:Wf)(Zr:J3)(q4y:Bn)(Uh:Wo)(Zd:Jd)(Vi:Vh)(X:Zt):Zt:=fun salt hkind hold attrs segs flags layers expers ctxs fs inn done opn f K=>Jn1 (fun (Qa:ByteArray×Int×Int×Int×ByteArray×List ByteArray×Int×Int×ByteArray×Int×Int×(ByteArray->Option Dcs)×(ByteArray->Option Bool)×Unit)=>Q6 (Val.mk Qa.2.2.1 Qa.2.2.2.1 Qa.2.2.2.2.1 Qa.2.2.2.2.2.1) fun Qc=>K (Dcs.mk Qa.1 Qa.2.1 Qc (Rsn.mk Qa.2.2.2.2.2.2.1 Qa.2.2.2.2.2.2.2.1 Qa.2.2.2.2.2.2.2.2.1 Qa.2.2.2.2.2.2.2.2.2.1) Qa.2.2.2.2.2.2.2.2.2.2.1) Qa.2.2.2.2.2.2.2.2.2.2.2.1 Qa.2.2.2.2.2.2.2.2.2.2.2.2.1) fun (q3i:ByteArray×Int×Int×Int×ByteArray×List ByteArray×Int×Int×ByteArray×Int×Int×(ByteArray->Option Dcs)×(ByteArray->Option Bool)×Unit->Prop)=>Cnd ((done f.1).isSome=true) (q3i (((done f.1).getD (Dcs.mk (B8 []) (0:Int) (Val.mk (0:Int) (0:Int) (B8 []) []) (Rsn.mk (0:Int) (0:Int) (B8 []) (0:Int)) (0:Int))).1,((done f.1).getD (Dcs.mk (B8 []) (0:Int) (Val.mk (0:Int) (0:Int) (B8 []) []) (Rsn.mk (0:Int) (0:Int) (B8 []) (0:Int)) (0:Int))).2,((done f.1).getD (Dcs.mk (B8 []) (0:Int) (Val.mk (0:Int) (0:Int) (B8 []) []) (Rsn.mk (0:Int) (0:Int) (B8 []) (0:Int)) (0:Int))).3.1,((done f.1).getD (Dcs.mk (B8 []) (0:Int) (Val.mk (0:Int) (0:Int) (B8 []) []) (Rsn.mk (0:Int) (0:Int) (B8 []) (0:Int)) (0:Int))).3.2,((done f.1).getD (Dcs.mk (B8 []) (0:Int) (Val.mk (0:Int) (0:Int) (B8 []) []) (Rsn.mk (0:Int) (0:Int) (B8 []) (0:Int)) (0:Int))).3.3,((done f.1).getD (Dcs.mk (B8 []) (0:Int) (Val.mk (0:Int) (0:Int) (B8 []) []) (Rsn.mk (0:Int) (0:Int) (B8 []) (0:Int)) (0:Int))).3.4,((done f.1).getD (Dcs.mk (B8 []) (0:Int) (Val.mk (0:Int) (0:Int) (B8 []) []) (Rsn.mk (0:Int) (0:Int) (B8 []) (0:Int)) (0:Int))).4.1,((done f.1).getD (Dcs.mk (B8 []) (0:Int) (Val.mk (0:Int) (0:Int) (B8 []) []) (Rsn.mk (0:Int) (0:Int) (B8 []) (0:Int)) (0:Int))).4.2,((done f.1).getD (Dcs.mk (B8 []) (0:Int) (Val.mk (0:Int) (0:Int) (B8 []) []) (Rsn.mk (0:Int) (0:Int) (B8 []) (0:Int)) (0:Int))).4.3,((done f.1).getD (Dcs.mk (B8 []) (0:Int) (Val.mk (0:Int) (0:Int) (B8 []) []) (Rsn.mk (0:Int) (0:Int) (B8 []) (0:Int)) (0:Int))).4.4,((done f.1).getD (Dcs.mk (B8 []) (0:Int) (Val.mk (0:Int) (0:Int) (B8 []) []) (Rsn.mk (0:Int) (0:Int) (B8 []) (0:Int)) (0:Int))).5,done,opn,())) (Cnd (f.4=true) (Fits f.6->LpH (fun (Qf:Int×Int×Int×ByteArray×Int×(ByteArray->Option Bool)×(ByteArray->Option Dcs)×Unit) (j3a:Int×Int×Int×ByteArray×Int×(ByteArray->Option Bool)×(ByteArray->Option Dcs)×Unit->Prop)=>CAt f.6 Qf.1 (fun y3=>Zy salt hkind hold attrs segs flags layers expers ctxs fs inn Qf.2.2.2.2.2.2.1 Qf.2.2.2.2.2.1 y3.1 fun Qm q87 y1e y8j=>Cnd (q87=true) (Cnd (Qm.4=true) (Cnd ((y8j Qm.1).getD false=true) (Jn4 (fun Zp q95 w39 w6s=>q3i (f.1,f.5,Zp,q95,w39,w6s,(2:Int),(0:Int),y3.1,(-1:Int),(0:Int),put y1e f.1 (Dcs.mk f.1 f.5 (Val.mk Zp q95 w39 w6s) (Rsn.mk (2:Int) (0:Int) y3.1 (-1:Int)) (0:Int)),dlt y8j f.1,())) fun j7y=>Cnd ((1:Int)<=f.5) (Fits f.3->Cnd (f.5<=(↑f.3.length:Int)) (InI (f.5 - 1)/\((0:Int)<=f.5 - 1/\f.5 - 1<(↑f.3.length:Int))/\ ∀y8,f.3[(f.5 - 1).toNat]? =some y8->j7y y8.1 y8.2 y8.3 y8.4) (j7y (0:Int) (0:Int) (B8 []) [])) (j7y (0:Int) (0:Int) (B8 []) [])) (X salt hkind hold attrs segs flags layers expers ctxs fs inn y1e y8j (Flg.mk Qm.1 Qm.2 Qm.3 Qm.4 Qm.5 Qm.6 Qm.7 Qm.8 (Srv.mk Qm.9.1 Qm.9.2 Qm.9.3 Qm.9.4 Qm.9.5)) fun Zp v6s y1d=>Cnd (Zp.2=y3.2) (InI (Qf.1+1)/\j3a (Qf.1+1,Qf.2.1,Qf.2.2.1,Qf.2.2.2.1,Qf.2.2.2.2.1,y1d,v6s,())) (Jn4 (fun J6 j0x u3h y4i=>q3i (f.1,f.5,J6,j0x,u3h,y4i,(2:Int),(0:Int),y3.1,(-1:Int),(0:Int),put v6s f.1 (Dcs.mk f.1 f.5 (Val.mk J6 j0x u3h y4i) (Rsn.mk (2:Int) (0:Int) y3.1 (-1:Int)) (0:Int)),dlt y1d f.1,())) fun y1b=>Cnd ((1:Int)<=f.5) (Fits f.3->Cnd (f.5<=(↑f.3.length:Int)) (InI (f.5 - 1)/\((0:Int)<=f.5 - 1/\f.5 - 1<(↑f.3.length:Int))/\ ∀y9,f.3[(f.5 - 1).toNat]? =some y9->y1b y9.1 y9.2 y9.3 y9.4) (y1b (0:Int) (0:Int) (B8 []) [])) (y1b (0:Int) (0:Int) (B8 []) [])))) (Jn4 (fun Zp q95 w39 w6s=>q3i (f.1,f.5,Zp,q95,w39,w6s,(2:Int),(0:Int),y3.1,(-1:Int),(0:Int),put y1e f.1 (Dcs.mk f.1 f.5 (Val.mk Zp q95 w39 w6s) (Rsn.mk (2:Int) (0:Int) y3.1 (-1:Int)) (0:Int)),dlt y8j f.1,())) fun j7y=>Cnd ((1:Int)<=f.5) (Fits f.3->Cnd (f.5<=(↑f.3.length:Int)) (InI (f.5 - 1)/\((0:Int)<=f.5 - 1/\f.5 - 1<(↑f.3.length:Int))/\ ∀y8,f.3[(f.5 - 1).toNat]? =some y8->j7y y8.1 y8.2 y8.3 y8.4) (j7y (0:Int) (0:Int) (B8 []) [])) (j7y (0:Int) (0:Int) (B8 []) []))) (Jn4 (fun Zp q95 w39 w6s=>q3i (f.1,f.5,Zp,q95,w39,w6s,(2:Int),(0:Int),y3.1,(-1:Int),(0:Int),put y1e f.1 (Dcs.mk f.1 f.5 (Val.mk Zp q95 w39 w6s) (Rsn.mk (2:Int) (0:Int) y3.1 (-1:Int)) (0:Int)),dlt y8j f.1,())) fun j7y=>Cnd ((1:Int)<=f.5) (Fits f.3->Cnd (f.5<=(↑f.3.length:Int)) (InI (f.5 - 1)/\((0:Int)<=f.5 - 1/\f.5 - 1<(↑f.3.length:Int))/\ ∀y8,f.3[(f.5 - 1).toNat]? =some y8->j7y y8.1 y8.2 y8.3 y8.4) (j7y (0:Int) (0:Int) (B8 []) [])) (j7y (0:Int) (0:Int) (B8 []) []))) (Zr (Flg.mk f.1 f.2 f.3 f.4 f.5 f.6 f.7 f.8 (Srv.mk f.9.1 f.9.2 f.9.3 f.9.4 f.9.5)) (Subj.mk ctxs) fun Qk=>Cnd ((0:Int)<Qk) (InI (Qk - 1)/\((0:Int)<=Qk - 1/\Qk - 1<(↑f.7.length:Int))/\ ∀y4,f.7[(Qk - 1).toNat]? =some y4->Jn4 (fun Zp q95 w39 w6s=>q3i (f.1,y4.2,Zp,q95,w39,w6s,(3:Int),Qk,B8 [],(-1:Int),(0:Int),put Qf.2.2.2.2.2.2.1 f.1 (Dcs.mk f.1 y4.2 (Val.mk Zp q95 w39 w6s) (Rsn.mk (3:Int) Qk (B8 []) (-1:Int)) (0:Int)),dlt Qf.2.2.2.2.2.1 f.1,())) fun j7y=>Cnd ((1:Int)<=y4.2) (Fits f.3->Cnd (y4.2<=(↑f.3.length:Int)) (InI (y4.2 - 1)/\((0:Int)<=y4.2 - 1/\y4.2 - 1<(↑f.3.length:Int))/\ ∀y8,f.3[(y4.2 - 1).toNat]? =some y8->j7y y8.1 y8.2 y8.3 y8.4) (j7y (0:Int) (0:Int) (B8 []) [])) (j7y (0:Int) (0:Int) (B8 []) [])) (Fits expers->LpH (fun (Qm:Int×Int×Int×ByteArray×Int×(ByteArray->Option Dcs)×(ByteArray->Option Bool)×Unit) (w38:Int×Int×Int×ByteArray×Int×(ByteArray->Option Dcs)×(ByteArray->Option Bool)×Unit->Prop)=>CAt expers Qm.1 (fun y6=>Cnd (y6.3=f.1) (Cnd (y6.5=2) (q4y (Envt.mk (Sett.mk salt hkind hold) attrs segs flags layers expers) (Subj.mk ctxs) fs y6.2 fun Wa w9r=>Cnd (w9r=0) (Cnd (Wa.2=y6.1) (Uh salt hkind hold attrs segs flags layers expers ctxs fs inn Qm.2.2.2.2.2.1 Qm.2.2.2.2.2.2.1 (Exper.mk y6.1 y6.2 y6.3 y6.4 y6.5 y6.6 y6.7 (Ex.mk y6.8.1 y6.8.2 y6.8.3 y6.8.4 y6.8.5)) fun Qs y8l y8k=>Jn4 (fun Vl q2z v2m u09=>q3i (f.1,Wa.4,Vl,q2z,v2m,u09,(4:Int),(0:Int),y6.1,Qs,(0:Int),put y8l f.1 (Dcs.mk f.1 Wa.4 (Val.mk Vl q2z v2m u09) (Rsn.mk (4:Int) (0:Int) y6.1 Qs) (0:Int)),dlt y8k f.1,())) fun y81=>Cnd ((1:Int)<=Wa.4) (Fits f.3->Cnd (Wa.4<=(↑f.3.length:Int)) (InI (Wa.4 - 1)/\((0:Int)<=Wa.4 - 1/\Wa.4 - 1<(↑f.3.length:Int))/\ ∀y12,f.3[(Wa.4 - 1).toNat]? =some y12->y81 y12.1 y12.2 y12.3 y12.4) (y81 (0:Int) (0:Int) (B8 []) [])) (y81 (0:Int) (0:Int) (B8 []) [])) (InI (Qm.1+1)/\w38 (Qm.1+1,Qm.2.1,Qm.2.2.1,Qm.2.2.2.1,Qm.2.2.2.2.1,Qm.2.2.2.2.2.1,Qm.2.2.2.2.2.2.1,()))) (InI (Qm.1+1)/\w38 (Qm.1+1,Qm.2.1,Qm.2.2.1,Qm.2.2.2.1,Qm.2.2.2.2.1,Qm.2.2.2.2.2.1,Qm.2.2.2.2.2.2.1,()))) (InI (Qm.1+1)/\w38 (Qm.1+1,Qm.2.1,Qm.2.2.1,Qm.2.2.2.1,Qm.2.2.2.2.1,Qm.2.2.2.2.2.1,Qm.2.2.2.2.2.2.1,()))) (InI (Qm.1+1)/\w38 (Qm.1+1,Qm.2.1,Qm.2.2.1,Qm.2.2.2.1,Qm.2.2.2.2.1,Qm.2.2.2.2.2.1,Qm.2.2.2.2.2.2.1,()))) (Fits f.8->LpH (fun (J6:Int×Int×Int×ByteArray×Int×(ByteArray->Option Bool)×(ByteArray->Option Dcs)×Unit) (y8m:Int×Int×Int×ByteArray×Int×(ByteArray->Option Bool)×(ByteArray->Option Dcs)×Unit->Prop)=>CAt f.8 J6.1 (fun y8=>Zd (Subj.mk ctxs) inn (Ex.mk y8.2.1 y8.2.2 y8.2.3 y8.2.4 y8.2.5) fun Vl=>Cnd (Vl=true) (InI (J6.1+1)/\Vi salt hkind hold attrs segs flags layers expers ctxs fs inn J6.2.2.2.2.2.2.1 J6.2.2.2.2.2.1 (Flg.mk f.1 f.2 f.3 f.4 f.5 f.6 f.7 f.8 (Srv.mk f.9.1 f.9.2 f.9.3 f.9.4 f.9.5)) (Srv.mk y8.3.1 y8.3.2 y8.3.3 y8.3.4 y8.3.5) (Rsn.mk (5:Int) (J6.1+1) y8.1 (0:Int)) fun Ud z6u u25 u27=>Jn4 (fun Gm u1a u1b u1c=>q3i (f.1,Ud,Gm,u1a,u1b,u1c,z6u.1,z6u.2,z6u.3,z6u.4,(0:Int),put u25 f.1 (Dcs.mk f.1 Ud (Val.mk Gm u1a u1b u1c) z6u (0:Int)),dlt u27 f.1,())) fun v6q=>Cnd ((1:Int)<=Ud) (Fits f.3->Cnd (Ud<=(↑f.3.length:Int)) (InI (Ud - 1)/\((0:Int)<=Ud - 1/\Ud - 1<(↑f.3.length:Int))/\ ∀y14,f.3[(Ud - 1).toNat]? =some y14->v6q y14.1 y14.2 y14.3 y14.4) (v6q (0:Int) (0:Int) (B8 []) [])) (v6q (0:Int) (0:Int) (B8 []) [])) (InI (J6.1+1)/\y8m (J6.1+1,J6.2.1,J6.2.2.1,J6.2.2.2.1,J6.2.2.2.2.1,J6.2.2.2.2.2.1,J6.2.2.2.2.2.2.1,()))) (Vi salt hkind hold attrs segs flags layers expers ctxs fs inn J6.2.2.2.2.2.2.1 J6.2.2.2.2.2.1 (Flg.mk f.1 f.2 f.3 f.4 f.5 f.6 f.7 f.8 (Srv.mk f.9.1 f.9.2 f.9.3 f.9.4 f.9.5)) (Srv.mk f.9.1 f.9.2 f.9.3 f.9.4 f.9.5) (Rsn.mk (6:Int) (0:Int) (B8 []) (0:Int)) fun Wa w9r u1g u2n=>Jn4 (fun Qs z9b y8i y5k=>q3i (f.1,Wa,Qs,z9b,y8i,y5k,w9r.1,w9r.2,w9r.3,w9r.4,(0:Int),put u1g f.1 (Dcs.mk f.1 Wa (Val.mk Qs z9b y8i y5k) w9r (0:Int)),dlt u2n f.1,())) fun y82=>Cnd ((1:Int)<=Wa) (Fits f.3->Cnd (Wa<=(↑f.3.length:Int)) (InI (Wa - 1)/\((0:Int)<=Wa - 1/\Wa - 1<(↑f.3.length:Int))/\ ∀y11,f.3[(Wa - 1).toNat]? =some y11->y82 y11.1 y11.2 y11.3 y11.4) (y82 (0:Int) (0:Int) (B8 []) [])) (y82 (0:Int) (0:Int) (B8 []) []))) ((0:Int),Qm.2.1,Qm.2.2.1,Qm.2.2.2.1,Qm.2.2.2.2.1,Qm.2.2.2.2.2.2.1,Qm.2.2.2.2.2.1,()))) ((0:Int),Qf.2.1,Qf.2.2.1,Qf.2.2.2.1,Qf.2.2.2.2.1,Qf.2.2.2.2.2.2.1,Qf.2.2.2.2.2.1,())))) ((0:Int),(0:Int),(0:Int),B8 [],(0:Int),put opn f.1 true,done,())) (Jn4 (fun Qc Z8 z9a j0z=>q3i (f.1,f.5,Qc,Z8,z9a,j0z,(1:Int),(0:Int),B8 [],(-1:Int),(0:Int),put done f.1 (Dcs.mk f.1 f.5 (Val.mk Qc Z8 z9a j0z) (Rsn.mk (1:Int) (0:Int) (B8 []) (-1:Int)) (0:Int)),dlt (put opn f.1 true) f.1,())) fun j5k=>Cnd ((1:Int)<=f.5) (Fits f.3->Cnd (f.5<=(↑f.3.length:Int)) (InI (f.5 - 1)/\((0:Int)<=f.5 - 1/\f.5 - 1<(↑f.3.length:Int))/\ ∀y3,f.3[(f.5 - 1).toNat]? =some y3->j5k y3.1 y3.2 y3.3 y3.4) (j5k (0:Int) (0:Int) (B8 []) [])) (j5k (0:Int) (0:Int) (B8 []) [])))
def Ue:Zt:=fun salt hkind hold attrs segs flags layers expers ctxs fs inn done opn f K=> ∀X:Zt,(∀salt hkind hold attrs segs flags layers expers ctxs fs inn done opn f K,Bb Jm Jp J4 Ha Ju V1 J5 X salt hkind hold attrs segs flags layers expers ctxs fs inn done opn f K->X salt hkind hold attrs segs flags layers expers ctxs fs inn done opn f K)->X salt hkind hold attrs segs flags layers expers ctxs fs inn done opn f K
abbrev H9:Type:=Envt->Subj->List (Frc)->ByteArray->(Dcs->Int->Prop)->Prop
def q8l(q0e:G0)(Zy:Wf)(Ui:Zt):H9:=fun v s forced key K=>q0e (Envt.mk (Sett.mk v.1.1 v.1.2 v.1.3) v.2 v.3 v.4 v.5 v.6) (Subj.mk s.1) forced fun Qa Qy j0y q55 w1g u3i u3j u3k u3l u3m u1d u28 u29=>Zy Qa Qy j0y q55 w1g u3i u3j u3k u3l u3m u1d u28 u29 key fun Qc Z8 z8j y08=>Cnd (Z8=true) (Ui Qa Qy j0y q55 w1g u3i u3j u3k u3l u3m u1d z8j y08 (Flg.mk Qc.1 Qc.2 Qc.3 Qc.4 Qc.5 Qc.6 Qc.7 Qc.8 (Srv.mk Qc.9.1 Qc.9.2 Qc.9.3 Qc.9.4 Qc.9.5)) fun Qf _ _=>K (Dcs.mk Qf.1 Qf.2 (Val.mk Qf.3.1 Qf.3.2 Qf.3.3 Qf.3.4) (Rsn.mk Qf.4.1 Qf.4.2 Qf.4.3 Qf.4.4) Qf.5) (0:Int)) (K (Dcs.mk (B8 []) (0:Int) (Val.mk (0:Int) (0:Int) (B8 []) []) (Rsn.mk (0:Int) (0:Int) (B8 []) (0:Int)) (0:Int)) (11:Int))
def q2i:H9:=q8l B2 Jp Ue
abbrev q2j:Type:=(Bool->Prop)->Prop
def z2x(q3e:H9):q2j:=fun K=>q3e (Envt.mk (Sett.mk (B8 []) (B8 []) (0:Int)) [] [] [Flg.mk (B8 [102]) (1:Int) [Val.mk (1:Int) (0:Int) (B8 []) [],Val.mk (1:Int) (1:Int) (B8 []) []] true (1:Int) [] [] [] (Srv.mk (2:Int) (B8 []) (B8 []) (B8 []) [])] [] []) (Subj.mk []) [] (B8 [102]) fun Qa Qy=>Cnd (Qy=0) (Cnd (Qa.1=B8 [102]) (Cnd (Qa.2=2) (Cnd (Qa.3.2=1) (K (decide (Qa.4.1=6/\Qa.4.2=0/\Qa.4.3=B8 []/\Qa.4.4=(-1:Int)))) (K false)) (K false)) (K false)) (K false)
def q6r:q2j:=z2x q2i
abbrev w4z:Type:=List (Int)->Int->(List (Int)->Int->Prop)->Prop
def w40:w4z:=fun list_ most K=>Jn1 (fun Qa=>K Qa (0:Int)) fun q3i=>Fits list_->Cnd (most<(↑list_.length:Int)) (((0:Int)<=(0:Int)/\(0:Int)<=most/\most<=(↑list_.length:Int))/\q3i (List.drop (Int.toNat (0:Int)) (List.take most.toNat list_))) (q3i list_)
abbrev q8m:Type:=List (Int)->Int->ByteArray->(Ctxt->Int->Prop)->Prop
def z9y(z3y:z9j)(Q3:Wz)(Qb:Zl)(Ja:q1c):q8m:=fun list at_ kind K=>z3y list at_ fun Qa Qy=>Q3 fun Qc=>Lp3 (fun Qf Zn w6v u0w=>Fits Qc->CAt Qc Qf (fun y4=>Cnd (y4.1=kind) (Qb list w6v (4:Int) fun Zp q95=>Cnd ((0:Int)<Zp) (At Qc Qf fun y7=>At Qc Qf fun y9=>Ja list q95 y9.3 fun Ud z6u=>Sml (Zn++[Attr.mk y7.2 Ud]).length/\InI (Qf+1)/\u0w (Qf+1) (Zn++[Attr.mk y7.2 Ud]) z6u) (InI (Qf+1)/\u0w (Qf+1) Zn q95)) (InI (Qf+1)/\u0w (Qf+1) Zn w6v)) (K (Ctxt.mk kind Qa Zn) w6v)) (0:Int) [] Qy
def q8n:q8m:=z9y j8z Ux We Bi
abbrev q8o:Type:=List (Int)->Int->(Subj->Int->Prop)->Prop
def z9z(Qb:Zl)(q0x:q8m):q8o:=fun list at_ K=>Qb list at_ (6:Int) fun Qa Qy=>Jn2 (fun Qc Z8=>Cnd (Qa=1) (K (Subj.mk Z8) Qc) (Cnd (Qa=5) (K (Subj.mk Z8) Qc) (q0x list Qc (B8 [117,115,101,114]) fun Qf Zn=>Sml (Z8++[Qf]).length/\K (Subj.mk (Z8++[Qf])) Zn))) fun j5k=>Cnd (Qa=1) (q0x list Qy (B8 [100,101,118,105,99,101]) fun Qf Zn=>Sml ([]++[Qf]).length/\j5k Zn ([]++[Qf])) (Cnd (Qa=2) (q0x list Qy (B8 [100,101,118,105,99,101]) fun Qf Zn=>Sml ([]++[Qf]).length/\j5k Zn ([]++[Qf])) (Cnd (Qa=4) (q0x list Qy (B8 [100,101,118,105,99,101]) fun Qf Zn=>Sml ([]++[Qf]).length/\j5k Zn ([]++[Qf])) (j5k Qy [])))
def z2y:q8o:=z9z We q8n
abbrev z1q:Type:=Subj->ByteArray->(Ctxt->Bool->Prop)->Prop
def z5l:z1q:=fun s kind K=>Lp4 (fun Qa Qy j0y (q55:List Attr) u31=>Fits s.1->CAt s.1 Qa (fun y2=>Cnd (y2.1=kind) (At s.1 Qa fun y4=>K y4 true) (InI (Qa+1)/\u31 (Qa+1) Qy j0y q55)) (K (Ctxt.mk (B8 []) (B8 []) []) false)) (0:Int) (B8 []) (B8 []) []
abbrev q3s:Type:=Subj->ByteArray->ByteArray->(Val->Bool->Prop)->Prop
def z90(q3f:z1q):q3s:=fun s kind name K=>q3f (Subj.mk s.1) kind fun Qa Qy=>Cnd (Qy=true) (Cnd (name=B8 [107,101,121]) (K (Val.mk (3:Int) (0:Int) Qa.2 []) true) (Lp5 (fun Qc Z8 z9a j0z (y83:List ByteArray) u0x=>Fits Qa.3->CAt Qa.3 Qc (fun y3=>Cnd (y3.1=name) (At Qa.3 Qc fun y5=>K (Val.mk y5.2.1 y5.2.2 y5.2.3 y5.2.4) true) (InI (Qc+1)/\u0x (Qc+1) Z8 z9a j0z y83)) (K (Val.mk (0:Int) (0:Int) (B8 []) []) false)) (0:Int) (0:Int) (0:Int) (B8 []) [])) (K (Val.mk (0:Int) (0:Int) (B8 []) []) false)
def q8p:q3s:=z90 z5l
abbrev z2z:Type:=Int->(ByteArray->Prop)->Prop
def z22:z2z:=fun n K=>Cnd (n=0) (K (B8 [48])) (Lp2 (fun Qa Qy q3h=>Cnd (Qa=0) (Cnd (n<0) ((↑((B8 [45]).size+Qy.size):Int)<=(9223372036854775807:Int)/\K (B8 [45]++Qy)) (K Qy)) ((10:Int)≠(0:Int)/\Jn1 (fun Qc=>InI ((48:Int)+Qc)/\(↑((Go.Utf8.encode (Go.IntKind.i32.wrap ((48:Int)+Qc))).size+Qy.size):Int)<=(9223372036854775807:Int)/\(10:Int)≠(0:Int)/\InI (Qa.tdiv (10:Int))/\q3h (Qa.tdiv (10:Int)) (Go.Utf8.encode (Go.IntKind.i32.wrap ((48:Int)+Qc))++Qy)) fun j5k=>Cnd (Qa.tmod (10:Int)<(0:Int)) (InI ((0:Int) - Qa.tmod (10:Int))/\j5k ((0:Int) - Qa.tmod (10:Int))) (j5k (Qa.tmod (10:Int))))) n (B8 []))
abbrev z5m:Type:=Val->(ByteArray->Bool->Prop)->Prop
def j88(z38:z2z):z5m:=fun v K=>Cnd (v.1=1) (Cnd (v.2=1) (K (B8 [116,114,117,101]) true) (K (B8 [102,97,108,115,101]) true)) (Cnd (v.1=2) (z38 v.2 fun Qa=>K Qa true) (Jn1 (fun Qa=>Cnd (Qa=true) (K v.3 true) (K (B8 []) false)) fun q3i=>Cnd (v.1=3) (q3i (decide (v.1=3))) (q3i (decide (v.1=4)))))
def j1z:z5m:=j88 z22
abbrev z7n:Type:=List (List Int)->(List (Int)->Prop)->Prop
def z7o:z7n:=fun fields K=>Lp2 (fun Qa Qy q3h=>Fits fields->CAt fields Qy (fun y2=>Fits y2->Lp2 (fun Qm q87 y1e=>Cnd ((0:Int)<=q87) ((0:Int)<=Go.IntKind.u64.wrap q87/\Sml (Qm++[Go.IntKind.u8.wrap ((Go.IntKind.u64.wrap (↑y2.length:Int)).fdiv ((2:Int) ^ Min.min (Go.IntKind.u64.wrap q87).toNat (64:Nat)))]).length/\InI (q87 - 8)/\y1e (Qm++[Go.IntKind.u8.wrap ((Go.IntKind.u64.wrap (↑y2.length:Int)).fdiv ((2:Int) ^ Min.min (Go.IntKind.u64.wrap q87).toNat (64:Nat)))]) (q87 - 8)) (At fields Qy fun y6=>Sml (Qm++y6).length/\InI (Qy+1)/\q3h (Qm++y6) (Qy+1))) Qa (56:Int)) (K Qa)) [] (0:Int)
abbrev z23:Type:=Int->Int->(Int->Prop)->Prop
def z25:z23:=fun x n K=>(0:Int)<=n/\(0:Int)<=Go.IntKind.u64.wrap ((64:Int) - n)/\K (Go.IntKind.u64.wrap (↑(BitVec.ofInt (64:Nat) (Go.IntKind.u64.wrap (x*2 ^ Min.min n.toNat (64:Nat)))|||BitVec.ofInt (64:Nat) (x.fdiv ((2:Int) ^ Min.min (Go.IntKind.u64.wrap ((64:Int) - n)).toNat (64:Nat)))).toNat:Int))
abbrev G3:Type:=Sip->Int->(Sip->Prop)->Prop
def q5y(Gt:z23):G3:=fun v n K=>Lp5 (fun Qa Qy j0y q55 w1g y86=>Cnd (Qa<n) (Gt j0y (13:Int) fun Qc=>Gt (Go.IntKind.u64.wrap (Qy+j0y)) (32:Int) fun Qf=>Gt w1g (16:Int) fun Qk=>Gt (Go.IntKind.u64.wrap (↑(BitVec.ofInt (64:Nat) Qk ^^^ BitVec.ofInt (64:Nat) (Go.IntKind.u64.wrap (q55+w1g))).toNat:Int)) (21:Int) fun Qe=>Gt (Go.IntKind.u64.wrap (↑(BitVec.ofInt (64:Nat) Qc ^^^ BitVec.ofInt (64:Nat) (Go.IntKind.u64.wrap (Qy+j0y))).toNat:Int)) (17:Int) fun Qm=>Gt (Go.IntKind.u64.wrap (Go.IntKind.u64.wrap (q55+w1g)+Go.IntKind.u64.wrap (↑(BitVec.ofInt (64:Nat) Qc ^^^ BitVec.ofInt (64:Nat) (Go.IntKind.u64.wrap (Qy+j0y))).toNat:Int))) (32:Int) fun Zp=>InI (Qa+1)/\y86 (Qa+1) (Go.IntKind.u64.wrap (Qf+Go.IntKind.u64.wrap (↑(BitVec.ofInt (64:Nat) Qk ^^^ BitVec.ofInt (64:Nat) (Go.IntKind.u64.wrap (q55+w1g))).toNat:Int))) (Go.IntKind.u64.wrap (↑(BitVec.ofInt (64:Nat) Qm ^^^ BitVec.ofInt (64:Nat) (Go.IntKind.u64.wrap (Go.IntKind.u64.wrap (q55+w1g)+Go.IntKind.u64.wrap (↑(BitVec.ofInt (64:Nat) Qc ^^^ BitVec.ofInt (64:Nat) (Go.IntKind.u64.wrap (Qy+j0y))).toNat:Int)))).toNat:Int)) Zp (Go.IntKind.u64.wrap (↑(BitVec.ofInt (64:Nat) Qe ^^^ BitVec.ofInt (64:Nat) (Go.IntKind.u64.wrap (Qf+Go.IntKind.u64.wrap (↑(BitVec.ofInt (64:Nat) Qk ^^^ BitVec.ofInt (64:Nat) (Go.IntKind.u64.wrap (q55+w1g))).toNat:Int)))).toNat:Int))) (K (Sip.mk Qy j0y q55 w1g))) (0:Int) v.1 v.2 v.3 v.4
def Je:G3:=q5y z25
abbrev j10:Type:=Int->Int->List (Int)->(Int->Prop)->Prop
def w41(Vr:G3):j10:=fun k0 k1 b K=>Lp5 (fun Qa Qy j0y q55 w1g y86=>Fits b->(8:Int)≠(0:Int)/\InI ((↑b.length:Int).tdiv (8:Int))/\Cnd (Qa<=(↑b.length:Int).tdiv (8:Int)) (Lp2 (fun Qf Zn q7o=>Cnd (Zn<8) (InI ((8:Int)*Qa)/\InI ((8:Int)*Qa+Zn)/\(Fits b->Cnd ((8:Int)*Qa+Zn<(↑b.length:Int)) (InI ((8:Int)*Qa)/\InI ((8:Int)*Qa+Zn)/\((0:Int)<=(8:Int)*Qa+Zn/\(8:Int)*Qa+Zn<(↑b.length:Int))/\ ∀y4,b[((8:Int)*Qa+Zn).toNat]? =some y4->InI ((8:Int)*Zn)/\(0:Int)<=Go.IntKind.u64.wrap ((8:Int)*Zn)/\InI (Zn+1)/\q7o (Go.IntKind.u64.wrap (↑(BitVec.ofInt (64:Nat) Qf|||BitVec.ofInt (64:Nat) (Go.IntKind.u64.wrap (Go.IntKind.u64.wrap y4*2 ^ Min.min (Go.IntKind.u64.wrap ((8:Int)*Zn)).toNat (64:Nat)))).toNat:Int)) (Zn+1)) (Jn1 (fun Qe=>Vr (Sip.mk Qy j0y q55 (Go.IntKind.u64.wrap (↑(BitVec.ofInt (64:Nat) w1g ^^^ BitVec.ofInt (64:Nat) Qe).toNat:Int))) (2:Int) fun Qm=>InI (Qa+1)/\y86 (Qa+1) (Go.IntKind.u64.wrap (↑(BitVec.ofInt (64:Nat) Qm.1 ^^^ BitVec.ofInt (64:Nat) Qe).toNat:Int)) Qm.2 Qm.3 Qm.4) fun y5n=>Fits b->(8:Int)≠(0:Int)/\InI ((↑b.length:Int).tdiv (8:Int))/\Cnd (Qa=(↑b.length:Int).tdiv (8:Int)) (Fits b->(256:Int)≠(0:Int)/\(0:Int)<=(56:Int)/\y5n (Go.IntKind.u64.wrap (↑(BitVec.ofInt (64:Nat) Qf|||BitVec.ofInt (64:Nat) (Go.IntKind.u64.wrap (Go.IntKind.u64.wrap ((↑b.length:Int).tmod (256:Int))*(2:Int) ^ Min.min (Int.toNat (56:Int)) (64:Nat)))).toNat:Int))) (y5n Qf)))) (Jn1 (fun Qk=>Vr (Sip.mk Qy j0y q55 (Go.IntKind.u64.wrap (↑(BitVec.ofInt (64:Nat) w1g ^^^ BitVec.ofInt (64:Nat) Qk).toNat:Int))) (2:Int) fun Qe=>InI (Qa+1)/\y86 (Qa+1) (Go.IntKind.u64.wrap (↑(BitVec.ofInt (64:Nat) Qe.1 ^^^ BitVec.ofInt (64:Nat) Qk).toNat:Int)) Qe.2 Qe.3 Qe.4) fun y5m=>Fits b->(8:Int)≠(0:Int)/\InI ((↑b.length:Int).tdiv (8:Int))/\Cnd (Qa=(↑b.length:Int).tdiv (8:Int)) (Fits b->(256:Int)≠(0:Int)/\(0:Int)<=(56:Int)/\y5m (Go.IntKind.u64.wrap (↑(BitVec.ofInt (64:Nat) Qf|||BitVec.ofInt (64:Nat) (Go.IntKind.u64.wrap (Go.IntKind.u64.wrap ((↑b.length:Int).tmod (256:Int))*(2:Int) ^ Min.min (Int.toNat (56:Int)) (64:Nat)))).toNat:Int))) (y5m Qf))) (0:Int) (0:Int)) (Vr (Sip.mk Qy j0y (Go.IntKind.u64.wrap (↑(BitVec.ofInt (64:Nat) q55 ^^^ BitVec.ofInt (64:Nat) (255:Int)).toNat:Int)) w1g) (4:Int) fun Qf=>K (Go.IntKind.u64.wrap (↑(BitVec.ofInt (64:Nat) (Go.IntKind.u64.wrap (↑(BitVec.ofInt (64:Nat) (Go.IntKind.u64.wrap (↑(BitVec.ofInt (64:Nat) Qf.1 ^^^ BitVec.ofInt (64:Nat) Qf.2).toNat:Int)) ^^^ BitVec.ofInt (64:Nat) Qf.3).toNat:Int)) ^^^ BitVec.ofInt (64:Nat) Qf.4).toNat:Int)))) (0:Int) (Go.IntKind.u64.wrap (↑(BitVec.ofInt (64:Nat) k0 ^^^ BitVec.ofInt (64:Nat) (8317987319222330741:Int)).toNat:Int)) (Go.IntKind.u64.wrap (↑(BitVec.ofInt (64:Nat) k1 ^^^ BitVec.ofInt (64:Nat) (7237128888997146477:Int)).toNat:Int)) (Go.IntKind.u64.wrap (↑(BitVec.ofInt (64:Nat) k0 ^^^ BitVec.ofInt (64:Nat) (7816392313619706465:Int)).toNat:Int)) (Go.IntKind.u64.wrap (↑(BitVec.ofInt (64:Nat) k1 ^^^ BitVec.ofInt (64:Nat) (8387220255154660723:Int)).toNat:Int))
def j7m:j10:=w41 Je
abbrev z5n:Type:=Int->List (List Int)->(Int->Prop)->Prop
def j89(z8a:z7n)(j7z:j10):z5n:=fun domain fields K=>z8a fields fun Qa=>j7z domain (0:Int) Qa fun Qc=>K Qc
def j11:z5n:=j89 z7o j7m
abbrev j12:Type:=ByteArray->ByteArray->(Int->Prop)->Prop
def w42(j3k:z5n):j12:=fun salt key K=>Sml salt.size/\Sml key.size/\j3k (1:Int) [List.map (fun b=>(↑b.toNat:Int)) (salt,key,()).1.data.toList,List.map (fun b=>(↑b.toNat:Int)) (salt,key,()).2.1.data.toList] fun Qa=>(10000:Int)≠(0:Int)/\InI (Qa.tmod (10000:Int))/\K (Qa.tmod (10000:Int))
def z7p:j12:=w42 j11
abbrev q2k:Type:=Subj->ByteArray->ByteArray->ByteArray->(Int->Bool->Prop)->Prop
def z27(q4c:q3s)(j3l:z5m)(j70:j12):q2k:=fun s kind by_ salt K=>q4c (Subj.mk s.1) kind by_ fun Qa Qy=>Cnd (Qy=true) (j3l Qa fun Qc Z8=>Cnd (Z8=true) (j70 salt Qc fun Qf=>K Qf true) (K (0:Int) false)) (K (0:Int) false)
def q6s:q2k:=z27 q8p j1z z7p
abbrev z7q:Type:=List (Rng)->Int->(Int->Prop)->Prop
def z7r:z7q:=fun l bucket K=>Lp1 (fun Qa q06=>Fits l->CAt l Qa (fun y2=>Cnd (y2.1<=bucket) (At l Qa fun y4=>Cnd (bucket<y4.2) (At l Qa fun y6=>K y6.3) (InI (Qa+1)/\q06 (Qa+1))) (InI (Qa+1)/\q06 (Qa+1))) (K (0:Int))) (0:Int)
abbrev q8q:Type:=Subj->Srv->(Int->Int->Bool->Prop)->Prop
def z91(q7d:q2k)(z8b:z7q):q8q:=fun s v K=>Cnd (v.1=0) (q7d (Subj.mk s.1) v.2 v.3 v.4 fun Qa Qy=>Cnd (Qy=true) (z8b v.5 Qa fun Qc=>K Qc Qa true) (K (0:Int) (-1:Int) false)) (K v.1 (-1:Int) true)
def z29:q8q:=z91 q6s z7r
abbrev q5e:Type:=Flg->Subj->(Int->Prop)->Prop
def z5o(q3f:z1q)(Jr:B0):q5e:=fun f s K=>Lp1 (fun Qa q06=>Fits f.7->CAt f.7 Qa (fun y2=>q3f (Subj.mk s.1) y2.1 fun Qe Jv=>Cnd (Jv=true) (At f.7 Qa fun y5=>Jr y5.3 Qe.2 fun J6=>Cnd (J6=true) (InI (Qa+1)/\K (Qa+1)) (InI (Qa+1)/\q06 (Qa+1))) (InI (Qa+1)/\q06 (Qa+1))) (K (0:Int))) (0:Int)
def q9r:q5e:=z5o z5l q1s
abbrev Hc:Type:=List (Int)->List (Int)->Subj->Srv->Flg->(Bool->Prop)->Prop
def Hd(q7e:q2j)(w1e:w4z)(q3g:H2)(z39:q8o)(Br:q7v)(Jg:Wm)(z4a:q8q)(Zr:J3)(q5m:q5e):Hc:=fun codes who s v f K=>q7e fun Qa=>Cnd (Qa=true) (Fits s.1->Cnd ((8:Int)<(↑s.1.length:Int)) (K true) (Fits v.5->Cnd ((30:Int)<(↑v.5.length:Int)) (K true) (Fits f.7->Cnd ((20:Int)<(↑f.7.length:Int)) (K true) (w1e codes (400:Int) fun Qe Jv=>q3g Qe Jv (10:Int) fun Qm q87=>w1e who (60:Int) fun Zp q95=>z39 Zp q95 fun J6 _=>Br Qe q87 (3:Int) fun Wa _=>[Subj.mk J6.1,Subj.mk s.1].length<=(9223372036854775807:Nat)->Lp1 (fun Vl u3a=>Cnd (Vl<(↑[Subj.mk J6.1,Subj.mk s.1].length:Int)) (((0:Int)<=Vl/\Vl<(↑[Subj.mk J6.1,Subj.mk s.1].length:Int))/\ ∀y11,[Subj.mk J6.1,Subj.mk s.1][Vl.toNat]? =some y11->[Wa,v].length<=(9223372036854775807:Nat)->Lp1 (fun Wq v2n=>Cnd (Wq<(↑[Wa,v].length:Int)) (((0:Int)<=Wq/\Wq<(↑[Wa,v].length:Int))/\ ∀y15,[Wa,v][Wq.toNat]? =some y15->Jg (Subj.mk y11.1) y15 fun w6u y4j u3b=>z4a (Subj.mk y11.1) y15 fun q65 y8r u3c=>Cnd (w6u=q65) (Cnd (y4j=y8r) (Cnd (u3b=u3c) (InI (Wq+1)/\v2n (Wq+1)) (K false)) (K false)) (K false)) (Lp1 (fun w1d u3d=>Fits Qm.4->CAt Qm.4 w1d (fun y17=>At Qm.4 w1d fun y19=>Zr (Flg.mk y17.1 y17.2 y17.3 y17.4 y17.5 y17.6 y17.7 y17.8 (Srv.mk y17.9.1 y17.9.2 y17.9.3 y17.9.4 y17.9.5)) (Subj.mk y11.1) fun y8t=>q5m (Flg.mk y19.1 y19.2 y19.3 y19.4 y19.5 y19.6 y19.7 y19.8 (Srv.mk y19.9.1 y19.9.2 y19.9.3 y19.9.4 y19.9.5)) (Subj.mk y11.1) fun y09=>Cnd (y8t=y09) (InI (w1d+1)/\u3d (w1d+1)) (K false)) (Zr (Flg.mk f.1 f.2 f.3 f.4 f.5 f.6 f.7 f.8 (Srv.mk f.9.1 f.9.2 f.9.3 f.9.4 f.9.5)) (Subj.mk y11.1) fun w6u=>q5m (Flg.mk f.1 f.2 f.3 f.4 f.5 f.6 f.7 f.8 (Srv.mk f.9.1 f.9.2 f.9.3 f.9.4 f.9.5)) (Subj.mk y11.1) fun q65=>Cnd (w6u=q65) (InI (Vl+1)/\u3a (Vl+1)) (K false))) (0:Int))) (0:Int)) (K true)) (0:Int))))) (K false)
def Zu:Hc:=Hd q6r w40 q1w z2y z43 G2 z29 J4 q9r
abbrev z5p:Type:=ByteArray->ByteArray->Int->(Bool->Prop)->Prop
def q9s:z5p:=fun s t i K=>Cnd ((0:Int)<=i) (InI (i+(↑t.size:Int))/\Cnd (i+(↑t.size:Int)<=(↑s.size:Int)) (InI (i+(↑t.size:Int))/\((0:Int)<=i/\i<=i+(↑t.size:Int)/\i+(↑t.size:Int)<=(↑s.size:Int))/\K (decide (s.extract i.toNat (i+(↑t.size:Int)).toNat=t))) (K false)) (K false)
abbrev z0t:Type:=Val->Val->(Bool->Prop)->Prop
def z8s(Jr:B0)(z0g:z5p):z0t:=fun v w K=>Cnd (w.1=3) (Cnd (v.1=5) (Jr v.4 w.3 fun Qa=>K Qa) (Lp1 (fun Qa q06=>Cnd (v.1=3) (InI (Qa+(↑w.3.size:Int))/\Cnd (Qa+(↑w.3.size:Int)<=(↑v.3.size:Int)) (z0g v.3 w.3 Qa fun Qc=>Cnd (Qc=true) (K true) (InI (Qa+1)/\q06 (Qa+1))) (K false)) (K false)) (0:Int))) (K false)
def z0u:z0t:=z8s q1s q9s
abbrev w71:Type:=Bool->Bool->(Int->Prop)->Prop
def z5q:w71:=fun less greater K=>Cnd (less=true) (K (-1:Int)) (Cnd (greater=true) (K (1:Int)) (K (0:Int)))
abbrev z5r:Type:=Val->Val->(Int->Int->Prop)->Prop
def j5n(Jj:q0z)(Qd:w71)(q4a:q7k):z5r:=fun a b K=>Jj a fun Qa=>Cnd (Qa=0) (Jj b fun Qc=>Cnd (Qc=0) (Cnd (a.1=b.1) (Cnd (a.1=1) (K (0:Int) (8:Int)) (Cnd (a.1=5) (K (0:Int) (8:Int)) (Cnd (a.1=2) (Qd (decide (a.2<b.2)) (decide (b.2<a.2)) fun Qf=>K Qf (0:Int)) (Cnd (a.1=3) (Qd (decide (Lk.blt a.3 b.3)) (decide (Lk.blt b.3 a.3)) fun Qf=>K Qf (0:Int)) (q4a a.3 fun (Qf:Int×Int×Int) Zn=>q4a b.3 fun (Qk:Int×Int×Int) Ry=>Lp1 (fun Qe w9t=>Cnd (Qe<3) (((0:Int)<=Qe/\Qe<(↑(3:Nat):Int))/\((True/\(Qe=(↑(nat_lit 0):Int)->((0:Int)<=Qe/\Qe<(↑(3:Nat):Int))/\((True/\(Qe=(↑(nat_lit 0):Int)->Cnd (Qf.1=Qk.1) (InI (Qe+1)/\w9t (Qe+1)) (((0:Int)<=Qe/\Qe<(↑(3:Nat):Int))/\((True/\(Qe=(↑(nat_lit 0):Int)->((0:Int)<=Qe/\Qe<(↑(3:Nat):Int))/\((True/\(Qe=(↑(nat_lit 0):Int)->Qd (decide (Qf.1<Qk.1)) true fun Qs=>K Qs (0:Int)))/\(Qe=(↑(nat_lit 1):Int)->Qd (decide (Qf.1<Qk.2.1)) true fun Qs=>K Qs (0:Int)))/\(Qe=(↑(nat_lit 2):Int)->Qd (decide (Qf.1<Qk.2.2)) true fun Qs=>K Qs (0:Int))))/\(Qe=(↑(nat_lit 1):Int)->((0:Int)<=Qe/\Qe<(↑(3:Nat):Int))/\((True/\(Qe=(↑(nat_lit 0):Int)->Qd (decide (Qf.2.1<Qk.1)) true fun Qs=>K Qs (0:Int)))/\(Qe=(↑(nat_lit 1):Int)->Qd (decide (Qf.2.1<Qk.2.1)) true fun Qs=>K Qs (0:Int)))/\(Qe=(↑(nat_lit 2):Int)->Qd (decide (Qf.2.1<Qk.2.2)) true fun Qs=>K Qs (0:Int))))/\(Qe=(↑(nat_lit 2):Int)->((0:Int)<=Qe/\Qe<(↑(3:Nat):Int))/\((True/\(Qe=(↑(nat_lit 0):Int)->Qd (decide (Qf.2.2<Qk.1)) true fun Qs=>K Qs (0:Int)))/\(Qe=(↑(nat_lit 1):Int)->Qd (decide (Qf.2.2<Qk.2.1)) true fun Qs=>K Qs (0:Int)))/\(Qe=(↑(nat_lit 2):Int)->Qd (decide (Qf.2.2<Qk.2.2)) true fun Qs=>K Qs (0:Int))))))/\(Qe=(↑(nat_lit 1):Int)->Cnd (Qf.1=Qk.2.1) (InI (Qe+1)/\w9t (Qe+1)) (((0:Int)<=Qe/\Qe<(↑(3:Nat):Int))/\((True/\(Qe=(↑(nat_lit 0):Int)->((0:Int)<=Qe/\Qe<(↑(3:Nat):Int))/\((True/\(Qe=(↑(nat_lit 0):Int)->Qd (decide (Qf.1<Qk.1)) true fun Qs=>K Qs (0:Int)))/\(Qe=(↑(nat_lit 1):Int)->Qd (decide (Qf.1<Qk.2.1)) true fun Qs=>K Qs (0:Int)))/\(Qe=(↑(nat_lit 2):Int)->Qd (decide (Qf.1<Qk.2.2)) true fun Qs=>K Qs (0:Int))))/\(Qe=(↑(nat_lit 1):Int)->((0:Int)<=Qe/\Qe<(↑(3:Nat):Int))/\((True/\(Qe=(↑(nat_lit 0):Int)->Qd (decide (Qf.2.1<Qk.1)) true fun Qs=>K Qs (0:Int)))/\(Qe=(↑(nat_lit 1):Int)->Qd (decide (Qf.2.1<Qk.2.1)) true fun Qs=>K Qs (0:Int)))/\(Qe=(↑(nat_lit 2):Int)->Qd (decide (Qf.2.1<Qk.2.2)) true fun Qs=>K Qs (0:Int))))/\(Qe=(↑(nat_lit 2):Int)->((0:Int)<=Qe/\Qe<(↑(3:Nat):Int))/\((True/\(Qe=(↑(nat_lit 0):Int)->Qd (decide (Qf.2.2<Qk.1)) true fun Qs=>K Qs (0:Int)))/\(Qe=(↑(nat_lit 1):Int)->Qd (decide (Qf.2.2<Qk.2.1)) true fun Qs=>K Qs (0:Int)))/\(Qe=(↑(nat_lit 2):Int)->Qd (decide (Qf.2.2<Qk.2.2)) true fun Qs=>K Qs (0:Int))))))/\(Qe=(↑(nat_lit 2):Int)->Cnd (Qf.1=Qk.2.2) (InI (Qe+1)/\w9t (Qe+1)) (((0:Int)<=Qe/\Qe<(↑(3:Nat):Int))/\((True/\(Qe=(↑(nat_lit 0):Int)->((0:Int)<=Qe/\Qe<(↑(3:Nat):Int))/\((True/\(Qe=(↑(nat_lit 0):Int)->Qd (decide (Qf.1<Qk.1)) true fun Qs=>K Qs (0:Int)))/\(Qe=(↑(nat_lit 1):Int)->Qd (decide (Qf.1<Qk.2.1)) true fun Qs=>K Qs (0:Int)))/\(Qe=(↑(nat_lit 2):Int)->Qd (decide (Qf.1<Qk.2.2)) true fun Qs=>K Qs (0:Int))))/\(Qe=(↑(nat_lit 1):Int)->((0:Int)<=Qe/\Qe<(↑(3:Nat):Int))/\((True/\(Qe=(↑(nat_lit 0):Int)->Qd (decide (Qf.2.1<Qk.1)) true fun Qs=>K Qs (0:Int)))/\(Qe=(↑(nat_lit 1):Int)->Qd (decide (Qf.2.1<Qk.2.1)) true fun Qs=>K Qs (0:Int)))/\(Qe=(↑(nat_lit 2):Int)->Qd (decide (Qf.2.1<Qk.2.2)) true fun Qs=>K Qs (0:Int))))/\(Qe=(↑(nat_lit 2):Int)->((0:Int)<=Qe/\Qe<(↑(3:Nat):Int))/\((True/\(Qe=(↑(nat_lit 0):Int)->Qd (decide (Qf.2.2<Qk.1)) true fun Qs=>K Qs (0:Int)))/\(Qe=(↑(nat_lit 1):Int)->Qd (decide (Qf.2.2<Qk.2.1)) true fun Qs=>K Qs (0:Int)))/\(Qe=(↑(nat_lit 2):Int)->Qd (decide (Qf.2.2<Qk.2.2)) true fun Qs=>K Qs (0:Int)))))))/\(Qe=(↑(nat_lit 1):Int)->((0:Int)<=Qe/\Qe<(↑(3:Nat):Int))/\((True/\(Qe=(↑(nat_lit 0):Int)->Cnd (Qf.2.1=Qk.1) (InI (Qe+1)/\w9t (Qe+1)) (((0:Int)<=Qe/\Qe<(↑(3:Nat):Int))/\((True/\(Qe=(↑(nat_lit 0):Int)->((0:Int)<=Qe/\Qe<(↑(3:Nat):Int))/\((True/\(Qe=(↑(nat_lit 0):Int)->Qd (decide (Qf.1<Qk.1)) true fun Qs=>K Qs (0:Int)))/\(Qe=(↑(nat_lit 1):Int)->Qd (decide (Qf.1<Qk.2.1)) true fun Qs=>K Qs (0:Int)))/\(Qe=(↑(nat_lit 2):Int)->Qd (decide (Qf.1<Qk.2.2)) true fun Qs=>K Qs (0:Int))))/\(Qe=(↑(nat_lit 1):Int)->((0:Int)<=Qe/\Qe<(↑(3:Nat):Int))/\((True/\(Qe=(↑(nat_lit 0):Int)->Qd (decide (Qf.2.1<Qk.1)) true fun Qs=>K Qs (0:Int)))/\(Qe=(↑(nat_lit 1):Int)->Qd (decide (Qf.2.1<Qk.2.1)) true fun Qs=>K Qs (0:Int)))/\(Qe=(↑(nat_lit 2):Int)->Qd (decide (Qf.2.1<Qk.2.2)) true fun Qs=>K Qs (0:Int))))/\(Qe=(↑(nat_lit 2):Int)->((0:Int)<=Qe/\Qe<(↑(3:Nat):Int))/\((True/\(Qe=(↑(nat_lit 0):Int)->Qd (decide (Qf.2.2<Qk.1)) true fun Qs=>K Qs (0:Int)))/\(Qe=(↑(nat_lit 1):Int)->Qd (decide (Qf.2.2<Qk.2.1)) true fun Qs=>K Qs (0:Int)))/\(Qe=(↑(nat_lit 2):Int)->Qd (decide (Qf.2.2<Qk.2.2)) true fun Qs=>K Qs (0:Int))))))/\(Qe=(↑(nat_lit 1):Int)->Cnd (Qf.2.1=Qk.2.1) (InI (Qe+1)/\w9t (Qe+1)) (((0:Int)<=Qe/\Qe<(↑(3:Nat):Int))/\((True/\(Qe=(↑(nat_lit 0):Int)->((0:Int)<=Qe/\Qe<(↑(3:Nat):Int))/\((True/\(Qe=(↑(nat_lit 0):Int)->Qd (decide (Qf.1<Qk.1)) true fun Qs=>K Qs (0:Int)))/\(Qe=(↑(nat_lit 1):Int)->Qd (decide (Qf.1<Qk.2.1)) true fun Qs=>K Qs (0:Int)))/\(Qe=(↑(nat_lit 2):Int)->Qd (decide (Qf.1<Qk.2.2)) true fun Qs=>K Qs (0:Int))))/\(Qe=(↑(nat_lit 1):Int)->((0:Int)<=Qe/\Qe<(↑(3:Nat):Int))/\((True/\(Qe=(↑(nat_lit 0):Int)->Qd (decide (Qf.2.1<Qk.1)) true fun Qs=>K Qs (0:Int)))/\(Qe=(↑(nat_lit 1):Int)->Qd (decide (Qf.2.1<Qk.2.1)) true fun Qs=>K Qs (0:Int)))/\(Qe=(↑(nat_lit 2):Int)->Qd (decide (Qf.2.1<Qk.2.2)) true fun Qs=>K Qs (0:Int))))/\(Qe=(↑(nat_lit 2):Int)->((0:Int)<=Qe/\Qe<(↑(3:Nat):Int))/\((True/\(Qe=(↑(nat_lit 0):Int)->Qd (decide (Qf.2.2<Qk.1)) true fun Qs=>K Qs (0:Int)))/\(Qe=(↑(nat_lit 1):Int)->Qd (decide (Qf.2.2<Qk.2.1)) true fun Qs=>K Qs (0:Int)))/\(Qe=(↑(nat_lit 2):Int)->Qd (decide (Qf.2.2<Qk.2.2)) true fun Qs=>K Qs (0:Int))))))/\(Qe=(↑(nat_lit 2):Int)->Cnd (Qf.2.1=Qk.2.2) (InI (Qe+1)/\w9t (Qe+1)) (((0:Int)<=Qe/\Qe<(↑(3:Nat):Int))/\((True/\(Qe=(↑(nat_lit 0):Int)->((0:Int)<=Qe/\Qe<(↑(3:Nat):Int))/\((True/\(Qe=(↑(nat_lit 0):Int)->Qd (decide (Qf.1<Qk.1)) true fun Qs=>K Qs (0:Int)))/\(Qe=(↑(nat_lit 1):Int)->Qd (decide (Qf.1<Qk.2.1)) true fun Qs=>K Qs (0:Int)))/\(Qe=(↑(nat_lit 2):Int)->Qd (decide (Qf.1<Qk.2.2)) true fun Qs=>K Qs (0:Int))))/\(Qe=(↑(nat_lit 1):Int)->((0:Int)<=Qe/\Qe<(↑(3:Nat):Int))/\((True/\(Qe=(↑(nat_lit 0):Int)->Qd (decide (Qf.2.1<Qk.1)) true fun Qs=>K Qs (0:Int)))/\(Qe=(↑(nat_lit 1):Int)->Qd (decide (Qf.2.1<Qk.2.1)) true fun Qs=>K Qs (0:Int)))/\(Qe=(↑(nat_lit 2):Int)->Qd (decide (Qf.2.1<Qk.2.2)) true fun Qs=>K Qs (0:Int))))/\(Qe=(↑(nat_lit 2):Int)->((0:Int)<=Qe/\Qe<(↑(3:Nat):Int))/\((True/\(Qe=(↑(nat_lit 0):Int)->Qd (decide (Qf.2.2<Qk.1)) true fun Qs=>K Qs (0:Int)))/\(Qe=(↑(nat_lit 1):Int)->Qd (decide (Qf.2.2<Qk.2.1)) true fun Qs=>K Qs (0:Int)))/\(Qe=(↑(nat_lit 2):Int)->Qd (decide (Qf.2.2<Qk.2.2)) true fun Qs=>K Qs (0:Int)))))))/\(Qe=(↑(nat_lit 2):Int)->((0:Int)<=Qe/\Qe<(↑(3:Nat):Int))/\((True/\(Qe=(↑(nat_lit 0):Int)->Cnd (Qf.2.2=Qk.1) (InI (Qe+1)/\w9t (Qe+1)) (((0:Int)<=Qe/\Qe<(↑(3:Nat):Int))/\((True/\(Qe=(↑(nat_lit 0):Int)->((0:Int)<=Qe/\Qe<(↑(3:Nat):Int))/\((True/\(Qe=(↑(nat_lit 0):Int)->Qd (decide (Qf.1<Qk.1)) true fun Qs=>K Qs (0:Int)))/\(Qe=(↑(nat_lit 1):Int)->Qd (decide (Qf.1<Qk.2.1)) true fun Qs=>K Qs (0:Int)))/\(Qe=(↑(nat_lit 2):Int)->Qd (decide (Qf.1<Qk.2.2)) true fun Qs=>K Qs (0:Int))))/\(Qe=(↑(nat_lit 1):Int)->((0:Int)<=Qe/\Qe<(↑(3:Nat):Int))/\((True/\(Qe=(↑(nat_lit 0):Int)->Qd (decide (Qf.2.1<Qk.1)) true fun Qs=>K Qs (0:Int)))/\(Qe=(↑(nat_lit 1):Int)->Qd (decide (Qf.2.1<Qk.2.1)) true fun Qs=>K Qs (0:Int)))/\(Qe=(↑(nat_lit 2):Int)->Qd (decide (Qf.2.1<Qk.2.2)) true fun Qs=>K Qs (0:Int))))/\(Qe=(↑(nat_lit 2):Int)->((0:Int)<=Qe/\Qe<(↑(3:Nat):Int))/\((True/\(Qe=(↑(nat_lit 0):Int)->Qd (decide (Qf.2.2<Qk.1)) true fun Qs=>K Qs (0:Int)))/\(Qe=(↑(nat_lit 1):Int)->Qd (decide (Qf.2.2<Qk.2.1)) true fun Qs=>K Qs (0:Int)))/\(Qe=(↑(nat_lit 2):Int)->Qd (decide (Qf.2.2<Qk.2.2)) true fun Qs=>K Qs (0:Int))))))/\(Qe=(↑(nat_lit 1):Int)->Cnd (Qf.2.2=Qk.2.1) (InI (Qe+1)/\w9t (Qe+1)) (((0:Int)<=Qe/\Qe<(↑(3:Nat):Int))/\((True/\(Qe=(↑(nat_lit 0):Int)->((0:Int)<=Qe/\Qe<(↑(3:Nat):Int))/\((True/\(Qe=(↑(nat_lit 0):Int)->Qd (decide (Qf.1<Qk.1)) true fun Qs=>K Qs (0:Int)))/\(Qe=(↑(nat_lit 1):Int)->Qd (decide (Qf.1<Qk.2.1)) true fun Qs=>K Qs (0:Int)))/\(Qe=(↑(nat_lit 2):Int)->Qd (decide (Qf.1<Qk.2.2)) true fun Qs=>K Qs (0:Int))))/\(Qe=(↑(nat_lit 1):Int)->((0:Int)<=Qe/\Qe<(↑(3:Nat):Int))/\((True/\(Qe=(↑(nat_lit 0):Int)->Qd (decide (Qf.2.1<Qk.1)) true fun Qs=>K Qs (0:Int)))/\(Qe=(↑(nat_lit 1):Int)->Qd (decide (Qf.2.1<Qk.2.1)) true fun Qs=>K Qs (0:Int)))/\(Qe=(↑(nat_lit 2):Int)->Qd (decide (Qf.2.1<Qk.2.2)) true fun Qs=>K Qs (0:Int))))/\(Qe=(↑(nat_lit 2):Int)->((0:Int)<=Qe/\Qe<(↑(3:Nat):Int))/\((True/\(Qe=(↑(nat_lit 0):Int)->Qd (decide (Qf.2.2<Qk.1)) true fun Qs=>K Qs (0:Int)))/\(Qe=(↑(nat_lit 1):Int)->Qd (decide (Qf.2.2<Qk.2.1)) true fun Qs=>K Qs (0:Int)))/\(Qe=(↑(nat_lit 2):Int)->Qd (decide (Qf.2.2<Qk.2.2)) true fun Qs=>K Qs (0:Int))))))/\(Qe=(↑(nat_lit 2):Int)->Cnd (Qf.2.2=Qk.2.2) (InI (Qe+1)/\w9t (Qe+1)) (((0:Int)<=Qe/\Qe<(↑(3:Nat):Int))/\((True/\(Qe=(↑(nat_lit 0):Int)->((0:Int)<=Qe/\Qe<(↑(3:Nat):Int))/\((True/\(Qe=(↑(nat_lit 0):Int)->Qd (decide (Qf.1<Qk.1)) true fun Qs=>K Qs (0:Int)))/\(Qe=(↑(nat_lit 1):Int)->Qd (decide (Qf.1<Qk.2.1)) true fun Qs=>K Qs (0:Int)))/\(Qe=(↑(nat_lit 2):Int)->Qd (decide (Qf.1<Qk.2.2)) true fun Qs=>K Qs (0:Int))))/\(Qe=(↑(nat_lit 1):Int)->((0:Int)<=Qe/\Qe<(↑(3:Nat):Int))/\((True/\(Qe=(↑(nat_lit 0):Int)->Qd (decide (Qf.2.1<Qk.1)) true fun Qs=>K Qs (0:Int)))/\(Qe=(↑(nat_lit 1):Int)->Qd (decide (Qf.2.1<Qk.2.1)) true fun Qs=>K Qs (0:Int)))/\(Qe=(↑(nat_lit 2):Int)->Qd (decide (Qf.2.1<Qk.2.2)) true fun Qs=>K Qs (0:Int))))/\(Qe=(↑(nat_lit 2):Int)->((0:Int)<=Qe/\Qe<(↑(3:Nat):Int))/\((True/\(Qe=(↑(nat_lit 0):Int)->Qd (decide (Qf.2.2<Qk.1)) true fun Qs=>K Qs (0:Int)))/\(Qe=(↑(nat_lit 1):Int)->Qd (decide (Qf.2.2<Qk.2.1)) true fun Qs=>K Qs (0:Int)))/\(Qe=(↑(nat_lit 2):Int)->Qd (decide (Qf.2.2<Qk.2.2)) true fun Qs=>K Qs (0:Int))))))) (K (0:Int) (0:Int))) (0:Int)))))) (K (0:Int) (8:Int))) (K (0:Int) Qc)) (K (0:Int) Qa)
def q9t:z5r:=j5n q00 z5q q3k
abbrev j4c:Type:=Subj->Ex->(Bool->Prop)->Prop
def w3m(q4c:q3s)(Q2:Vb)(q05:q7h)(z0g:z5p)(z9c:z0t)(j56:z5r):j4c:=fun s e K=>q4c (Subj.mk s.1) e.2 e.3 fun Qa Qy=>Cnd (Qy=true) (Q2 e.1 fun Qc=>Cnd (Qc=true) (Cnd (e.1=6) (K true) (Cnd (e.1=8) (Lp1 (fun Qf j3a=>Fits e.4->CAt e.4 Qf (fun y4=>q05 Qa y4 fun Zp=>Cnd (Zp=true) (K true) (InI (Qf+1)/\j3a (Qf+1))) (K false)) (0:Int)) (Fits e.4->Cnd ((↑e.4.length:Int)=0) (K false) (((0:Int)<=(0:Int)/\(0:Int)<(↑e.4.length:Int))/\ ∀y3,e.4[Int.toNat (0:Int)]? =some y3->Cnd (Qa.1=3) (Cnd (e.1=7) (q05 Qa y3 fun Qm=>K Qm) (Cnd (e.1=9) (Cnd (y3.1=3) (z0g Qa.3 y3.3 (0:Int) fun Qm=>K Qm) (K false)) (Cnd (e.1=10) (Cnd (y3.1=3) (InI ((↑Qa.3.size:Int) - (↑y3.3.size:Int))/\z0g Qa.3 y3.3 ((↑Qa.3.size:Int) - (↑y3.3.size:Int)) fun Qm=>K Qm) (K false)) (Cnd (e.1=11) (z9c Qa y3 fun Qm=>K Qm) (j56 Qa y3 fun Qm q87=>Cnd (q87=0) (Cnd (e.1=12) (K (decide (Qm<0))) (Cnd (e.1=13) (K (decide (Qm<=0))) (Cnd (e.1=14) (K (decide ((0:Int)<Qm))) (K (decide ((0:Int)<=Qm)))))) (K false)))))) (Cnd (e.1=7) (q05 Qa y3 fun Qm=>K Qm) (Cnd (e.1=9) (K false) (Cnd (e.1=10) (K false) (Cnd (e.1=11) (z9c Qa y3 fun Qm=>K Qm) (j56 Qa y3 fun Qm q87=>Cnd (q87=0) (Cnd (e.1=12) (K (decide (Qm<0))) (Cnd (e.1=13) (K (decide (Qm<=0))) (Cnd (e.1=14) (K (decide ((0:Int)<Qm))) (K (decide ((0:Int)<=Qm)))))) (K false)))))))))) (K false)) (K false)
def j4d:j4c:=w3m q8p Jy q7i q9s z0u q9t
abbrev z7s:Type:=Subj->List (ByteArray)->Ex->(Bool->Prop)->Prop
def w3n(Jr:B0)(v6r:j4c)(X:z7s):z7s:=fun s in_ e K=>Cnd (e.1=1) (K true) (Cnd (e.1=2) (Lp1 (fun Qa q06=>Fits e.5->CAt e.5 Qa (fun y2=>X (Subj.mk s.1) in_ (Ex.mk y2.1 y2.2 y2.3 y2.4 y2.5) fun Qe=>Cnd (Qe=true) (InI (Qa+1)/\q06 (Qa+1)) (K false)) (K true)) (0:Int)) (Cnd (e.1=3) (Lp1 (fun Qa q06=>Fits e.5->CAt e.5 Qa (fun y2=>X (Subj.mk s.1) in_ (Ex.mk y2.1 y2.2 y2.3 y2.4 y2.5) fun Qe=>Cnd (Qe=true) (K true) (InI (Qa+1)/\q06 (Qa+1))) (K false)) (0:Int)) (Cnd (e.1=4) (Fits e.5->Cnd ((0:Int)<(↑e.5.length:Int)) (((0:Int)<=(0:Int)/\(0:Int)<(↑e.5.length:Int))/\ ∀y1,e.5[Int.toNat (0:Int)]? =some y1->X (Subj.mk s.1) in_ (Ex.mk y1.1 y1.2 y1.3 y1.4 y1.5) fun Qk=>K (match decide ((Qk,()).1=true) with|true=>false|false=>true)) (K false)) (Cnd (e.1=5) (Jr in_ e.3 fun Qa=>K Qa) (v6r (Subj.mk s.1) (Ex.mk e.1 e.2 e.3 e.4 e.5) fun Qa=>K Qa)))))
def v43:z7s:=fun s in_ e K=> ∀X:z7s,(∀s in_ e K,w3n q1s j4d X s in_ e K->X s in_ e K)->X s in_ e K
abbrev w72:Type:=List (Rng)->Int->(Bool->Prop)->Prop
def j5o:w72:=fun l arm K=>Lp1 (fun Qa q06=>Fits l->CAt l Qa (fun y2=>Cnd (y2.3=arm) (K true) (InI (Qa+1)/\q06 (Qa+1))) (K false)) (0:Int)
end Go.En
end
noncomputable section
set_option maxRecDepth 100000
namespace Go.Proofs
open Go.Shelf
def Tryz.laysM171_ren:Go.Shelf.Ren:=⟨fun|171=>164|243=>202|246=>260|283=>288|284=>289|285=>290|286=>291|129=>238|317=>304|318=>305|319=>306|320=>307|337=>319|338=>320|n=>n,fun|3=>3|9=>9|2=>2|4=>4|171=>365|0=>0|53=>221|37=>22|5=>5|173=>367|212=>375|51=>326|20=>20|213=>376|46=>273|232=>390|233=>391|n=>n,fun|17=>5|18=>7|19=>8|n=>n⟩
theorem Tryz.laysM171:Go.Proofs.LaysM.n171 Tryz.prog Tryz.laysM171_ren:={
 mixed:=by kernel_rfl
 f129:=Tryz.func238.trans (congrArg some (by kernel_rfl))
 f171:=Tryz.func164.trans (congrArg some (by kernel_rfl))
 f243:=Tryz.func202.trans (congrArg some (by kernel_rfl))
 f246:=Tryz.func260.trans (congrArg some (by kernel_rfl))
 f283:=Tryz.func288.trans (congrArg some (by kernel_rfl))
 f284:=Tryz.func289.trans (congrArg some (by kernel_rfl))
 f285:=Tryz.func290.trans (congrArg some (by kernel_rfl))
 f286:=Tryz.func291.trans (congrArg some (by kernel_rfl))
 f317:=Tryz.func304.trans (congrArg some (by kernel_rfl))
 f318:=Tryz.func305.trans (congrArg some (by kernel_rfl))
 f319:=Tryz.func306.trans (congrArg some (by kernel_rfl))
 f320:=Tryz.func307.trans (congrArg some (by kernel_rfl))
 f337:=Tryz.func319.trans (congrArg some (by kernel_rfl))
 f338:=Tryz.func320.trans (congrArg some (by kernel_rfl))
 t0:=Tryz.underlying0
 a0:=Tryz.isAgg0
 z0:=Tryz.sizeOf0
 v0:=Tryz.zeroValue0
 t2:=Tryz.underlying2
 a2:=Tryz.isAgg2
 z2:=Tryz.sizeOf2
 v2:=Tryz.zeroValue2
 t3:=Tryz.underlying3
 a3:=Tryz.isAgg3
 z3:=Tryz.sizeOf3
 v3:=Tryz.zeroValue3
 t4:=Tryz.underlying4
 a4:=Tryz.isAgg4
 z4:=Tryz.sizeOf4
 v4:=Tryz.zeroValue4
 t5:=Tryz.underlying5
 a5:=Tryz.isAgg5
 z5:=Tryz.sizeOf5
 v5:=Tryz.zeroValue5
 t9:=Tryz.underlying9
 a9:=Tryz.isAgg9
 z9:=Tryz.sizeOf9
 v9:=Tryz.zeroValue9
 t20:=Tryz.underlying20
 a20:=Tryz.isAgg20
 z20:=Tryz.sizeOf20
 v20:=Tryz.zeroValue20
 t37:=Tryz.underlying22
 a37:=Tryz.isAgg22
 z37:=Tryz.sizeOf22
 v37:=Tryz.zeroValue22
 t46:=Tryz.underlying273
 a46:=Tryz.isAgg273
 z46:=Tryz.sizeOf273
 v46:=Tryz.zeroValue273
 t51:=Tryz.underlying326
 a51:=Tryz.isAgg326
 z51:=Tryz.sizeOf326
 v51:=Tryz.zeroValue326
 t53:=Tryz.underlying221
 a53:=Tryz.isAgg221
 z53:=Tryz.sizeOf221
 v53:=Tryz.zeroValue221
 t171:=Tryz.underlying365
 a171:=Tryz.isAgg365
 z171:=Tryz.sizeOf365
 v171:=Tryz.zeroValue365
 t173:=Tryz.underlying367
 a173:=Tryz.isAgg367
 z173:=Tryz.sizeOf367
 v173:=Tryz.zeroValue367
 t212:=Tryz.underlying375
 a212:=Tryz.isAgg375
 z212:=Tryz.sizeOf375
 v212:=Tryz.zeroValue375
 t213:=Tryz.underlying376
 a213:=Tryz.isAgg376
 z213:=Tryz.sizeOf376
 t232:=Tryz.underlying390
 a232:=Tryz.isAgg390
 z232:=Tryz.sizeOf390
 v232:=Tryz.zeroValue390
 t233:=Tryz.underlying391
 a233:=Tryz.isAgg391
 z233:=Tryz.sizeOf391
 v233:=Tryz.zeroValue391
 g17:=by kernel_rfl
 g18:=by kernel_rfl
 g19:=by kernel_rfl
 i0:=by kernel_rfl
 i2:=by kernel_rfl
 i3:=by kernel_rfl
 i4:=by kernel_rfl
 i5:=by kernel_rfl
 i9:=by kernel_rfl
 i20:=by kernel_rfl
 i37:=by kernel_rfl
 i46:=by kernel_rfl
 i51:=by kernel_rfl
 i53:=by kernel_rfl
 i171:=by kernel_rfl
 i173:=by kernel_rfl
 i212:=by kernel_rfl
 i232:=by kernel_rfl
 i233:=by kernel_rfl
 m17:=by kernel_rfl
 m18:=by kernel_rfl
 m19:=by kernel_rfl}
open Go.RowKit Go.Sort Go.Lib in
theorem Tryz.strconv_Itoa (n:Int) (h0: -9223372036854775808<=n) (h1:n<=9223372036854775807) (w:World) (htab:Lib.TabIs Tryz.prog w "internal/strconv.uint64pow10" .u64 Lib.pow10Tab):
  Calls Tryz.prog 164 #[.int .i64 n] w fun e w'=>e= .returned (.string ⟨(Lib.itoa n).toArray⟩)/\ ∃k os,w'=grow (w.drewN k) os:=Any.strconv_Itoa Tryz.laysM171 n h0 h1 w htab
def Tryz.laysC172_ren:Go.Shelf.Ren:=⟨fun|172=>318|244=>326|245=>327|247=>331|279=>332|280=>333|281=>334|282=>335|287=>337|316=>338|171=>164|205=>339|321=>340|322=>341|243=>202|246=>260|283=>288|284=>289|285=>290|286=>291|129=>238|317=>304|318=>305|319=>306|320=>307|337=>319|338=>320|n=>n,fun|9=>9|3=>3|75=>383|76=>384|4=>4|5=>5|167=>395|37=>22|0=>0|85=>396|2=>2|168=>398|53=>221|175=>401|46=>273|210=>405|127=>408|145=>411|143=>409|21=>21|171=>365|173=>367|212=>375|51=>326|20=>20|213=>376|232=>390|233=>391|80=>95|n=>n,fun|15=>9|16=>10|17=>5|18=>7|19=>8|n=>n⟩
theorem Tryz.laysC172:Go.Proofs.LaysC.n172 Tryz.prog Tryz.laysC172_ren:={
 mixed:=by kernel_rfl
 f129:=Tryz.func238.trans (congrArg some (by kernel_rfl))
 f171:=Tryz.func164.trans (congrArg some (by kernel_rfl))
 f172:=Tryz.func318.trans (congrArg some (by kernel_rfl))
 f205:=Tryz.func339.trans (congrArg some (by kernel_rfl))
 f243:=Tryz.func202.trans (congrArg some (by kernel_rfl))
 f244:=Tryz.func326.trans (congrArg some (by kernel_rfl))
 f245:=Tryz.func327.trans (congrArg some (by kernel_rfl))
 f246:=Tryz.func260.trans (congrArg some (by kernel_rfl))
 f247:=Tryz.func331.trans (congrArg some (by kernel_rfl))
 f279:=Tryz.func332.trans (congrArg some (by kernel_rfl))
 f280:=Tryz.func333.trans (congrArg some (by kernel_rfl))
 f281:=Tryz.func334.trans (congrArg some (by kernel_rfl))
 f282:=Tryz.func335.trans (congrArg some (by kernel_rfl))
 f283:=Tryz.func288.trans (congrArg some (by kernel_rfl))
 f284:=Tryz.func289.trans (congrArg some (by kernel_rfl))
 f285:=Tryz.func290.trans (congrArg some (by kernel_rfl))
 f286:=Tryz.func291.trans (congrArg some (by kernel_rfl))
 f287:=Tryz.func337.trans (congrArg some (by kernel_rfl))
 f316:=Tryz.func338.trans (congrArg some (by kernel_rfl))
 f317:=Tryz.func304.trans (congrArg some (by kernel_rfl))
 f318:=Tryz.func305.trans (congrArg some (by kernel_rfl))
 f319:=Tryz.func306.trans (congrArg some (by kernel_rfl))
 f320:=Tryz.func307.trans (congrArg some (by kernel_rfl))
 f321:=Tryz.func340.trans (congrArg some (by kernel_rfl))
 f322:=Tryz.func341.trans (congrArg some (by kernel_rfl))
 f337:=Tryz.func319.trans (congrArg some (by kernel_rfl))
 f338:=Tryz.func320.trans (congrArg some (by kernel_rfl))
 t0:=Tryz.underlying0
 a0:=Tryz.isAgg0
 z0:=Tryz.sizeOf0
 v0:=Tryz.zeroValue0
 t2:=Tryz.underlying2
 a2:=Tryz.isAgg2
 z2:=Tryz.sizeOf2
 v2:=Tryz.zeroValue2
 t3:=Tryz.underlying3
 a3:=Tryz.isAgg3
 z3:=Tryz.sizeOf3
 v3:=Tryz.zeroValue3
 t4:=Tryz.underlying4
 a4:=Tryz.isAgg4
 z4:=Tryz.sizeOf4
 v4:=Tryz.zeroValue4
 t5:=Tryz.underlying5
 a5:=Tryz.isAgg5
 z5:=Tryz.sizeOf5
 v5:=Tryz.zeroValue5
 t9:=Tryz.underlying9
 a9:=Tryz.isAgg9
 z9:=Tryz.sizeOf9
 v9:=Tryz.zeroValue9
 t20:=Tryz.underlying20
 a20:=Tryz.isAgg20
 z20:=Tryz.sizeOf20
 v20:=Tryz.zeroValue20
 t21:=Tryz.underlying21
 a21:=Tryz.isAgg21
 z21:=Tryz.sizeOf21
 v21:=Tryz.zeroValue21
 t37:=Tryz.underlying22
 a37:=Tryz.isAgg22
 z37:=Tryz.sizeOf22
 v37:=Tryz.zeroValue22
 t46:=Tryz.underlying273
 a46:=Tryz.isAgg273
 z46:=Tryz.sizeOf273
 v46:=Tryz.zeroValue273
 t51:=Tryz.underlying326
 a51:=Tryz.isAgg326
 z51:=Tryz.sizeOf326
 v51:=Tryz.zeroValue326
 t53:=Tryz.underlying221
 a53:=Tryz.isAgg221
 z53:=Tryz.sizeOf221
 v53:=Tryz.zeroValue221
 t75:=Tryz.underlying383
 a75:=Tryz.isAgg383
 z75:=Tryz.sizeOf383
 v75:=Tryz.zeroValue383
 t76:=Tryz.underlying384
 a76:=Tryz.isAgg384
 z76:=Tryz.sizeOf384
 v76:=Tryz.zeroValue384
 t85:=Tryz.underlying396
 a85:=Tryz.isAgg396
 z85:=Tryz.sizeOf396
 v85:=Tryz.zeroValue396
 t127:=Tryz.underlying408
 a127:=Tryz.isAgg408
 z127:=Tryz.sizeOf408
 v127:=Tryz.zeroValue408
 t143:=Tryz.underlying409
 a143:=Tryz.isAgg409
 z143:=Tryz.sizeOf409
 v143:=Tryz.zeroValue409
 t145:=Tryz.underlying411
 a145:=Tryz.isAgg411
 z145:=Tryz.sizeOf411
 v145:=Tryz.zeroValue411
 t167:=Tryz.underlying395
 a167:=Tryz.isAgg395
 z167:=Tryz.sizeOf395
 v167:=Tryz.zeroValue395
 t168:=Tryz.underlying398
 a168:=Tryz.isAgg398
 z168:=Tryz.sizeOf398
 v168:=Tryz.zeroValue398
 t171:=Tryz.underlying365
 a171:=Tryz.isAgg365
 z171:=Tryz.sizeOf365
 v171:=Tryz.zeroValue365
 t173:=Tryz.underlying367
 a173:=Tryz.isAgg367
 z173:=Tryz.sizeOf367
 v173:=Tryz.zeroValue367
 t175:=Tryz.underlying401
 a175:=Tryz.isAgg401
 z175:=Tryz.sizeOf401
 v175:=Tryz.zeroValue401
 t210:=Tryz.underlying405
 a210:=Tryz.isAgg405
 z210:=Tryz.sizeOf405
 v210:=Tryz.zeroValue405
 t212:=Tryz.underlying375
 a212:=Tryz.isAgg375
 z212:=Tryz.sizeOf375
 v212:=Tryz.zeroValue375
 t213:=Tryz.underlying376
 a213:=Tryz.isAgg376
 z213:=Tryz.sizeOf376
 t232:=Tryz.underlying390
 a232:=Tryz.isAgg390
 z232:=Tryz.sizeOf390
 v232:=Tryz.zeroValue390
 t233:=Tryz.underlying391
 a233:=Tryz.isAgg391
 z233:=Tryz.sizeOf391
 v233:=Tryz.zeroValue391
 g15:=by kernel_rfl
 g16:=by kernel_rfl
 g17:=by kernel_rfl
 g18:=by kernel_rfl
 g19:=by kernel_rfl
 t80:=Tryz.underlying95
 a80:=Tryz.isAgg95
 z80:=Tryz.sizeOf95
 v80:=Tryz.zeroValue95
 i0:=by kernel_rfl
 i2:=by kernel_rfl
 i3:=by kernel_rfl
 i4:=by kernel_rfl
 i5:=by kernel_rfl
 i9:=by kernel_rfl
 i20:=by kernel_rfl
 i21:=by kernel_rfl
 i37:=by kernel_rfl
 i46:=by kernel_rfl
 i51:=by kernel_rfl
 i53:=by kernel_rfl
 i75:=by kernel_rfl
 i76:=by kernel_rfl
 i80:=by kernel_rfl
 i85:=by kernel_rfl
 i127:=by kernel_rfl
 i143:=by kernel_rfl
 i145:=by kernel_rfl
 i167:=by kernel_rfl
 i168:=by kernel_rfl
 i171:=by kernel_rfl
 i173:=by kernel_rfl
 i175:=by kernel_rfl
 i210:=by kernel_rfl
 i212:=by kernel_rfl
 i232:=by kernel_rfl
 i233:=by kernel_rfl
 m15:=by kernel_rfl
 m16:=by kernel_rfl
 m17:=by kernel_rfl
 m18:=by kernel_rfl
 m19:=by kernel_rfl
 c0:=by kernel_rfl
 c2:=by kernel_rfl
 c3:=by kernel_rfl
 c4:=by kernel_rfl
 c5:=by kernel_rfl
 c9:=by kernel_rfl
 c20:=by kernel_rfl
 c21:=by kernel_rfl
 c37:=by kernel_rfl
 c46:=by kernel_rfl
 c51:=by kernel_rfl
 c53:=by kernel_rfl
 c75:=by kernel_rfl
 c76:=by kernel_rfl
 c80:=by kernel_rfl
 c85:=by kernel_rfl
 c127:=by kernel_rfl
 c143:=by kernel_rfl
 c145:=by kernel_rfl
 c167:=by kernel_rfl
 c168:=by kernel_rfl
 c171:=by kernel_rfl
 c173:=by kernel_rfl
 c175:=by kernel_rfl
 c210:=by kernel_rfl
 c212:=by kernel_rfl
 c213:=by kernel_rfl
 c232:=by kernel_rfl
 c233:=by kernel_rfl}
open Go.RowKit in
theorem Tryz.strconv_Atoi_ok(s:ByteArray)(hmax:s.size<=9223372036854775806)(v:Int)(h:Lib.atoiAll s.data.toList= .ok v)(w:World):
  Calls Tryz.prog 318 #[.string s] w fun e w'=>e= .returned (.tuple #[.int .i64 v,.nilIface])/\(w'=w∨ ∃t,w'=Lib.bytesWorld w 5 t):=Any.strconv_Atoi_ok Tryz.laysC172 s hmax v h w
open Go.RowKit in
theorem Tryz.strconv_Atoi_syntax(s:ByteArray)(hlim:s.size<=281474976710656)(h:Lib.atoiAll s.data.toList=Go.Lib.NumEnd.syntax)(ev:Value)(w:World)(hv:w.cell? ⟨9,0,none⟩=some ev)(hev:ev= .nilIface∨ ∃te pe,ev= .iface te pe):
  Calls Tryz.prog 318 #[.string s] w fun e w'=> ∃N,e= .returned (.tuple #[.int .i64 (0),.iface 398 (.pointer (some ⟨N,0,none⟩))])/\w.heap.size<=N/\w'.heap[N]? =some (.cells #[.string ⟨#[65,116,111,105]⟩,.string s,ev] 405 (0,0))/\Below w.heap.size w w':=Any.strconv_Atoi_syntax Tryz.laysC172 s hlim h ev w hv hev
open Go.RowKit in
theorem Tryz.strconv_Atoi_range(s:ByteArray)(hlim:s.size<=281474976710656)(h:Lib.atoiAll s.data.toList= .range)(ev:Value)(w:World)(hv:w.cell? ⟨10,0,none⟩=some ev)(hev:ev= .nilIface∨ ∃te pe,ev= .iface te pe):
  Calls Tryz.prog 318 #[.string s] w fun e w'=> ∃N,e= .returned (.tuple #[.int .i64 (Lib.atoiSat s.data.toList),.iface 398 (.pointer (some ⟨N,0,none⟩))])/\w.heap.size<=N/\w'.heap[N]? =some (.cells #[.string ⟨#[65,116,111,105]⟩,.string s,ev] 405 (0,0))/\Below w.heap.size w w':=Any.strconv_Atoi_range Tryz.laysC172 s hlim h ev w hv hev
def Tryz.lays144_ren:Go.Shelf.Ren:=⟨fun|144=>251|143=>282|219=>298|217=>312|225=>313|224=>314|267=>315|266=>321|314=>322|n=>n,fun|9=>9|4=>4|3=>3|5=>5|46=>273|146=>386|51=>326|n=>n,fun|1=>6|n=>n⟩
theorem Tryz.lays144:Go.Proofs.Lays.n144 Tryz.prog Tryz.lays144_ren:={
 mixed:=by kernel_rfl
 f143:=Tryz.func282.trans (congrArg some (by kernel_rfl))
 f144:=Tryz.func251.trans (congrArg some (by kernel_rfl))
 f217:=Tryz.func312.trans (congrArg some (by kernel_rfl))
 f219:=Tryz.func298.trans (congrArg some (by kernel_rfl))
 f224:=Tryz.func314.trans (congrArg some (by kernel_rfl))
 f225:=Tryz.func313.trans (congrArg some (by kernel_rfl))
 f266:=Tryz.func321.trans (congrArg some (by kernel_rfl))
 f267:=Tryz.func315.trans (congrArg some (by kernel_rfl))
 f314:=Tryz.func322.trans (congrArg some (by kernel_rfl))
 t3:=Tryz.underlying3
 a3:=Tryz.isAgg3
 z3:=Tryz.sizeOf3
 v3:=Tryz.zeroValue3
 t4:=Tryz.underlying4
 a4:=Tryz.isAgg4
 z4:=Tryz.sizeOf4
 v4:=Tryz.zeroValue4
 t5:=Tryz.underlying5
 a5:=Tryz.isAgg5
 z5:=Tryz.sizeOf5
 v5:=Tryz.zeroValue5
 t9:=Tryz.underlying9
 a9:=Tryz.isAgg9
 z9:=Tryz.sizeOf9
 v9:=Tryz.zeroValue9
 t46:=Tryz.underlying273
 a46:=Tryz.isAgg273
 z46:=Tryz.sizeOf273
 v46:=Tryz.zeroValue273
 t51:=Tryz.underlying326
 a51:=Tryz.isAgg326
 z51:=Tryz.sizeOf326
 v51:=Tryz.zeroValue326
 t146:=Tryz.underlying386
 a146:=Tryz.isAgg386
 z146:=Tryz.sizeOf386
 v146:=Tryz.zeroValue386
 g1:=by kernel_rfl}
open Go.RowKit Go.Lib in
theorem Tryz.strings_Contains(s sub:ByteArray)(m:Int)(w:World)(hs:s.size<4294967281)(hm:w.cell? ⟨6,0,none⟩=some (.int .i64 m)):
  Calls Tryz.prog 251 #[.string s,.string sub] w fun e w'=>e= .returned (.bool (Lib.contains s.data.toList sub.data.toList))/\w'=w:=Any.strings_Contains Tryz.lays144 s sub m w hs hm
def Tryz.lays190_ren:Go.Shelf.Ren:=⟨fun|190=>137|125=>180|258=>179|128=>237|129=>238|302=>228|303=>229|304=>230|305=>231|306=>232|307=>233|308=>234|309=>235|310=>236|333=>270|329=>271|330=>272|334=>273|335=>274|336=>275|344=>297|n=>n,fun|31=>70|9=>9|3=>3|46=>273|0=>0|51=>326|53=>221|4=>4|183=>319|182=>318|131=>112|5=>5|218=>356|222=>353|228=>371|229=>341|n=>n,fun|n=>n⟩
theorem Tryz.lays190:Go.Proofs.Lays.n190 Tryz.prog Tryz.lays190_ren:={
 mixed:=by kernel_rfl
 f125:=Tryz.func180.trans (congrArg some (by kernel_rfl))
 f128:=Tryz.func237.trans (congrArg some (by kernel_rfl))
 f129:=Tryz.func238.trans (congrArg some (by kernel_rfl))
 f190:=Tryz.func137.trans (congrArg some (by kernel_rfl))
 f258:=Tryz.func179.trans (congrArg some (by kernel_rfl))
 f302:=Tryz.func228.trans (congrArg some (by kernel_rfl))
 f303:=Tryz.func229.trans (congrArg some (by kernel_rfl))
 f304:=Tryz.func230.trans (congrArg some (by kernel_rfl))
 f305:=Tryz.func231.trans (congrArg some (by kernel_rfl))
 f306:=Tryz.func232.trans (congrArg some (by kernel_rfl))
 f307:=Tryz.func233.trans (congrArg some (by kernel_rfl))
 f308:=Tryz.func234.trans (congrArg some (by kernel_rfl))
 f309:=Tryz.func235.trans (congrArg some (by kernel_rfl))
 f310:=Tryz.func236.trans (congrArg some (by kernel_rfl))
 f329:=Tryz.func271.trans (congrArg some (by kernel_rfl))
 f330:=Tryz.func272.trans (congrArg some (by kernel_rfl))
 f333:=Tryz.func270.trans (congrArg some (by kernel_rfl))
 f334:=Tryz.func273.trans (congrArg some (by kernel_rfl))
 f335:=Tryz.func274.trans (congrArg some (by kernel_rfl))
 f336:=Tryz.func275.trans (congrArg some (by kernel_rfl))
 f344:=Tryz.func297.trans (congrArg some (by kernel_rfl))
 t0:=Tryz.underlying0
 a0:=Tryz.isAgg0
 z0:=Tryz.sizeOf0
 v0:=Tryz.zeroValue0
 t3:=Tryz.underlying3
 a3:=Tryz.isAgg3
 z3:=Tryz.sizeOf3
 v3:=Tryz.zeroValue3
 t4:=Tryz.underlying4
 a4:=Tryz.isAgg4
 z4:=Tryz.sizeOf4
 v4:=Tryz.zeroValue4
 t5:=Tryz.underlying5
 a5:=Tryz.isAgg5
 z5:=Tryz.sizeOf5
 v5:=Tryz.zeroValue5
 t9:=Tryz.underlying9
 a9:=Tryz.isAgg9
 z9:=Tryz.sizeOf9
 v9:=Tryz.zeroValue9
 t31:=Tryz.underlying70
 a31:=Tryz.isAgg70
 z31:=Tryz.sizeOf70
 v31:=Tryz.zeroValue70
 t46:=Tryz.underlying273
 a46:=Tryz.isAgg273
 z46:=Tryz.sizeOf273
 v46:=Tryz.zeroValue273
 t51:=Tryz.underlying326
 a51:=Tryz.isAgg326
 z51:=Tryz.sizeOf326
 v51:=Tryz.zeroValue326
 t53:=Tryz.underlying221
 a53:=Tryz.isAgg221
 z53:=Tryz.sizeOf221
 v53:=Tryz.zeroValue221
 t131:=Tryz.underlying112
 a131:=Tryz.isAgg112
 z131:=Tryz.sizeOf112
 v131:=Tryz.zeroValue112
 t182:=Tryz.underlying318
 a182:=Tryz.isAgg318
 z182:=Tryz.sizeOf318
 v182:=Tryz.zeroValue318
 t183:=Tryz.underlying319
 a183:=Tryz.isAgg319
 z183:=Tryz.sizeOf319
 v183:=Tryz.zeroValue319
 t218:=Tryz.underlying356
 a218:=Tryz.isAgg356
 z218:=Tryz.sizeOf356
 v218:=Tryz.zeroValue356
 t222:=Tryz.underlying353
 a222:=Tryz.isAgg353
 z222:=Tryz.sizeOf353
 v222:=Tryz.zeroValue353
 t228:=Tryz.underlying371
 a228:=Tryz.isAgg371
 z228:=Tryz.sizeOf371
 v228:=Tryz.zeroValue371
 t229:=Tryz.underlying341
 a229:=Tryz.isAgg341
 z229:=Tryz.sizeOf341
 v229:=Tryz.zeroValue341}
open Go.Sort Go.RowKit in
theorem Tryz.slices_Sort_string(blk off cap:Nat)(ss:List (List UInt8))(w:World)(hH:Holds encStr w blk off ss.toArray)(hblk:blk<w.heap.size)(hsz:ss.length<4611686018427387904):
  Calls Tryz.prog 137 #[.slice (some ⟨blk,off,none⟩) ss.length cap] w fun e w'=>
   e= .returned (.tuple #[])/\ ∃n os,w'=grow (putRow encStr (Sort.ahead w n) blk off (ss.mergeSort fun x y=>decide (x<=y)).toArray) os:=Any.slices_Sort_string Tryz.lays190 blk off cap ss w hH hblk hsz
def Tryz.lays146_ren:Go.Shelf.Ren:=⟨fun|146=>302|221=>316|268=>323|138=>324|143=>282|195=>328|197=>329|218=>330|219=>298|260=>336|217=>312|225=>313|224=>314|267=>315|266=>321|314=>322|n=>n,fun|9=>9|31=>70|3=>3|4=>4|0=>0|105=>393|21=>21|5=>5|46=>273|119=>348|139=>351|138=>350|146=>386|51=>326|n=>n,fun|1=>6|3=>3|4=>4|n=>n⟩
theorem Tryz.lays146:Go.Proofs.Lays.n146 Tryz.prog Tryz.lays146_ren:={
 mixed:=by kernel_rfl
 f138:=Tryz.func324.trans (congrArg some (by kernel_rfl))
 f143:=Tryz.func282.trans (congrArg some (by kernel_rfl))
 f146:=Tryz.func302.trans (congrArg some (by kernel_rfl))
 f195:=Tryz.func328.trans (congrArg some (by kernel_rfl))
 f197:=Tryz.func329.trans (congrArg some (by kernel_rfl))
 f217:=Tryz.func312.trans (congrArg some (by kernel_rfl))
 f218:=Tryz.func330.trans (congrArg some (by kernel_rfl))
 f219:=Tryz.func298.trans (congrArg some (by kernel_rfl))
 f221:=Tryz.func316.trans (congrArg some (by kernel_rfl))
 f224:=Tryz.func314.trans (congrArg some (by kernel_rfl))
 f225:=Tryz.func313.trans (congrArg some (by kernel_rfl))
 f260:=Tryz.func336.trans (congrArg some (by kernel_rfl))
 f266:=Tryz.func321.trans (congrArg some (by kernel_rfl))
 f267:=Tryz.func315.trans (congrArg some (by kernel_rfl))
 f268:=Tryz.func323.trans (congrArg some (by kernel_rfl))
 f314:=Tryz.func322.trans (congrArg some (by kernel_rfl))
 t0:=Tryz.underlying0
 a0:=Tryz.isAgg0
 z0:=Tryz.sizeOf0
 v0:=Tryz.zeroValue0
 t3:=Tryz.underlying3
 a3:=Tryz.isAgg3
 z3:=Tryz.sizeOf3
 v3:=Tryz.zeroValue3
 t4:=Tryz.underlying4
 a4:=Tryz.isAgg4
 z4:=Tryz.sizeOf4
 v4:=Tryz.zeroValue4
 t5:=Tryz.underlying5
 a5:=Tryz.isAgg5
 z5:=Tryz.sizeOf5
 v5:=Tryz.zeroValue5
 t9:=Tryz.underlying9
 a9:=Tryz.isAgg9
 z9:=Tryz.sizeOf9
 v9:=Tryz.zeroValue9
 t21:=Tryz.underlying21
 a21:=Tryz.isAgg21
 z21:=Tryz.sizeOf21
 v21:=Tryz.zeroValue21
 t31:=Tryz.underlying70
 a31:=Tryz.isAgg70
 z31:=Tryz.sizeOf70
 v31:=Tryz.zeroValue70
 t46:=Tryz.underlying273
 a46:=Tryz.isAgg273
 z46:=Tryz.sizeOf273
 v46:=Tryz.zeroValue273
 t51:=Tryz.underlying326
 a51:=Tryz.isAgg326
 z51:=Tryz.sizeOf326
 v51:=Tryz.zeroValue326
 t105:=Tryz.underlying393
 a105:=Tryz.isAgg393
 z105:=Tryz.sizeOf393
 v105:=Tryz.zeroValue393
 t119:=Tryz.underlying348
 a119:=Tryz.isAgg348
 z119:=Tryz.sizeOf348
 t138:=Tryz.underlying350
 a138:=Tryz.isAgg350
 z138:=Tryz.sizeOf350
 v138:=Tryz.zeroValue350
 t139:=Tryz.underlying351
 a139:=Tryz.isAgg351
 z139:=Tryz.sizeOf351
 v139:=Tryz.zeroValue351
 t146:=Tryz.underlying386
 a146:=Tryz.isAgg386
 z146:=Tryz.sizeOf386
 v146:=Tryz.zeroValue386
 g1:=by kernel_rfl
 g3:=by kernel_rfl
 g4:=by kernel_rfl}
open Go.RowKit Go.Lib in
theorem Tryz.strings_Split(s sep:ByteArray)(m:Int)(w:World)(hs:s.size<4294967281)(hm:w.cell? ⟨6,0,none⟩=some (.int .i64 m))(h1:1<=sep.size):
  Calls Tryz.prog 302 #[.string s,.string sep] w fun e w'=>
   e= .returned (.slice (some ⟨w.heap.size,0,none⟩) (Lib.countB s sep+1) (Lib.countB s sep+1))/\w'=w.alloc (.cells ((Lib.splitB sep 0 (Lib.countB s sep) s).map Value.string).toArray 9):=Any.strings_Split Tryz.lays146 (by kernel_rfl) s sep m w hs hm h1
def Tryz.lays194_ren:Go.Shelf.Ren:=⟨fun|194=>220|n=>n,fun|31=>70|9=>9|3=>3|4=>4|0=>0|n=>n,fun|n=>n⟩
theorem Tryz.lays194:Go.Proofs.Lays.n194 Tryz.prog Tryz.lays194_ren:={
 mixed:=by kernel_rfl
 f194:=Tryz.func220.trans (congrArg some (by kernel_rfl))
 t0:=Tryz.underlying0
 a0:=Tryz.isAgg0
 z0:=Tryz.sizeOf0
 v0:=Tryz.zeroValue0
 t3:=Tryz.underlying3
 a3:=Tryz.isAgg3
 z3:=Tryz.sizeOf3
 v3:=Tryz.zeroValue3
 t4:=Tryz.underlying4
 a4:=Tryz.isAgg4
 z4:=Tryz.sizeOf4
 v4:=Tryz.zeroValue4
 t9:=Tryz.underlying9
 a9:=Tryz.isAgg9
 z9:=Tryz.sizeOf9
 v9:=Tryz.zeroValue9
 t31:=Tryz.underlying70
 a31:=Tryz.isAgg70
 z31:=Tryz.sizeOf70
 v31:=Tryz.zeroValue70}
open Go.RowKit Go.Lib Go.Sort in
theorem Tryz.slices_Compact_string(blk off cap:Nat)(zs:List (List UInt8))(w:World)(hH:Holds encStr w blk off zs.toArray)(hsz:zs.length<=9223372036854775807)(hcap:zs.length<=cap):
  Calls Tryz.prog 220 #[.slice (some ⟨blk,off,none⟩) zs.length cap] w fun e w'=>e= .returned (.slice (some ⟨blk,off,none⟩) (Lib.compact zs).length cap)/\ ∃q,w'=putRow encStr (Sort.ahead w q) blk off (Lib.compact zs++List.replicate (zs.length - (Lib.compact zs).length) []).toArray:=Any.slices_Compact_string Tryz.lays194 blk off cap zs w hH hsz hcap
open Go.RowKit Go.Lib Go.Sort in
theorem Tryz.slices_Compact_string_empty(a:Option Addr)(cap:Nat)(w:World):
  Calls Tryz.prog 220 #[.slice a 0 cap] w fun e w'=>e= .returned (.slice a 0 cap)/\w'=w:=Any.slices_Compact_string_empty Tryz.lays194 a cap w
def Tryz.laysNm224_ren:Go.Shelf.Ren:=⟨fun|24=>227|n=>n,fun|24=>70|9=>9|3=>3|4=>4|0=>0|n=>n,fun|n=>n⟩
theorem Tryz.laysNm224:Go.Proofs.Lays2.n24 Tryz.prog Tryz.laysNm224_ren:={
 mixed:=by kernel_rfl
 f24:=Tryz.func227.trans (congrArg some (by kernel_rfl))
 t0:=Tryz.underlying0
 a0:=Tryz.isAgg0
 z0:=Tryz.sizeOf0
 v0:=Tryz.zeroValue0
 t3:=Tryz.underlying3
 a3:=Tryz.isAgg3
 z3:=Tryz.sizeOf3
 v3:=Tryz.zeroValue3
 t4:=Tryz.underlying4
 a4:=Tryz.isAgg4
 z4:=Tryz.sizeOf4
 v4:=Tryz.zeroValue4
 t9:=Tryz.underlying9
 a9:=Tryz.isAgg9
 z9:=Tryz.sizeOf9
 v9:=Tryz.zeroValue9
 t24:=Tryz.underlying70
 a24:=Tryz.isAgg70
 z24:=Tryz.sizeOf70
 v24:=Tryz.zeroValue70
 i9:=by kernel_rfl}
open Go.RowKit Go.Lib Go.Sort in
theorem Tryz.slices_Delete_string(blk off cap i j:Nat)(zs:List (List UInt8))(w:World)(hH:Holds encStr w blk off zs.toArray)(hcap:zs.length<=cap)(hm:cap<=9223372036854775807)(hij:i<=j)(hj:j<=zs.length):
  Calls Tryz.prog 227 #[.slice (some ⟨blk,off,none⟩) zs.length cap,.int .i64 i,.int .i64 j] w fun e w'=>e= .returned (.slice (some ⟨blk,off,none⟩) (zs.length - (j - i)) cap)/\ ∃q,w'=putRow encStr (Sort.ahead w q) blk off (zs.take i++zs.drop j++List.replicate (j - i) []).toArray:=Any.slices_Delete_string Tryz.laysNm224 blk off cap i j zs w hH hcap hm hij hj
open Go.RowKit Go.Sort in
theorem Tryz.slices_Sort_string_none(p:Option Addr)(cap:Nat)(w:World):
  Calls Tryz.prog 137 #[.slice p 0 cap] w fun e w'=>e= .returned (.tuple #[])/\w'=w:=Any.slices_Sort_string_none Tryz.lays190 p cap w
def Tryz.lays196_ren:Go.Shelf.Ren:=⟨fun|196=>206|259=>263|n=>n,fun|9=>9|4=>4|3=>3|5=>5|12=>12|119=>348|0=>0|46=>273|139=>351|138=>350|53=>221|n=>n,fun|3=>3|4=>4|n=>n⟩
theorem Tryz.lays196:Go.Proofs.Lays.n196 Tryz.prog Tryz.lays196_ren:={
 mixed:=by kernel_rfl
 f196:=Tryz.func206.trans (congrArg some (by kernel_rfl))
 f259:=Tryz.func263.trans (congrArg some (by kernel_rfl))
 t0:=Tryz.underlying0
 a0:=Tryz.isAgg0
 z0:=Tryz.sizeOf0
 v0:=Tryz.zeroValue0
 t3:=Tryz.underlying3
 a3:=Tryz.isAgg3
 z3:=Tryz.sizeOf3
 v3:=Tryz.zeroValue3
 t4:=Tryz.underlying4
 a4:=Tryz.isAgg4
 z4:=Tryz.sizeOf4
 v4:=Tryz.zeroValue4
 t5:=Tryz.underlying5
 a5:=Tryz.isAgg5
 z5:=Tryz.sizeOf5
 v5:=Tryz.zeroValue5
 t9:=Tryz.underlying9
 a9:=Tryz.isAgg9
 z9:=Tryz.sizeOf9
 v9:=Tryz.zeroValue9
 t12:=Tryz.underlying12
 a12:=Tryz.isAgg12
 z12:=Tryz.sizeOf12
 v12:=Tryz.zeroValue12
 t46:=Tryz.underlying273
 a46:=Tryz.isAgg273
 z46:=Tryz.sizeOf273
 v46:=Tryz.zeroValue273
 t53:=Tryz.underlying221
 a53:=Tryz.isAgg221
 z53:=Tryz.sizeOf221
 v53:=Tryz.zeroValue221
 t119:=Tryz.underlying348
 a119:=Tryz.isAgg348
 z119:=Tryz.sizeOf348
 t138:=Tryz.underlying350
 a138:=Tryz.isAgg350
 z138:=Tryz.sizeOf350
 v138:=Tryz.zeroValue350
 t139:=Tryz.underlying351
 a139:=Tryz.isAgg351
 z139:=Tryz.sizeOf351
 v139:=Tryz.zeroValue351
 g3:=by kernel_rfl
 g4:=by kernel_rfl}
def Tryz.sorted221_ren:Go.Shelf.Ren:=⟨fun|6=>221|8=>268|9=>137|11=>296|13=>180|12=>179|23=>237|24=>238|14=>228|15=>229|16=>230|17=>231|18=>232|19=>233|20=>234|21=>235|22=>236|25=>270|26=>271|27=>272|28=>273|29=>274|30=>275|31=>297|n=>n,fun|26=>9|28=>311|24=>70|0=>0|3=>3|37=>273|48=>326|50=>221|4=>4|40=>319|39=>318|45=>112|5=>5|9=>9|51=>356|55=>353|57=>371|58=>341|33=>264|n=>n,fun|n=>n⟩
theorem Tryz.sorted221:Go.Proofs.SlLaysZ.n6 Tryz.prog Tryz.sorted221_ren:={
 mixed:=by kernel_rfl
 f6:=⟨Tryz.f221.name,by decide,Tryz.func221.trans (congrArg some (by kernel_rfl))⟩
 f8:=⟨Tryz.f268.name,by decide,Tryz.func268.trans (congrArg some (by kernel_rfl))⟩
 f11:=⟨Tryz.f296.name,by decide,Tryz.func296.trans (congrArg some (by kernel_rfl))⟩
 t0:=Tryz.underlying0
 a0:=Tryz.isAgg0
 z0:=Tryz.sizeOf0
 v0:=Tryz.zeroValue0
 t24:=Tryz.underlying70
 a24:=Tryz.isAgg70
 z24:=Tryz.sizeOf70
 v24:=Tryz.zeroValue70
 t26:=Tryz.underlying9
 a26:=Tryz.isAgg9
 z26:=Tryz.sizeOf9
 v26:=Tryz.zeroValue9
 t28:=Tryz.underlying311
 a28:=Tryz.isAgg311
 z28:=Tryz.sizeOf311
 v28:=Tryz.zeroValue311
 i26:=by kernel_rfl}
end Go.Proofs
end
noncomputable section
set_option maxRecDepth 100000
namespace Go.Fl
open Go Go.Proofs Go.RowKit Go.Maps Go.Sort Go.Shelf
variable {P:Program}{ρ:Ren}
def v84(F:Fence)(n:Nat)(P:Program)(g:Nat)(lb:Array Value)(ss:List (List UInt8))(w:World):Prop:=
 ∀(l:Nat) (J:List (List UInt8)->World->Prop) (W:World),Below w.heap.size w W->AbidesFrom W.heap.size J->(∀pre W1,J pre W1->Below w.heap.size w W1)->
  (∀pre x W1,J pre W1->pre.length<ss.length->YieldAt F (n - 1) P l #[encStr x] W1 fun e W'=>e= .returned (.bool true)/\J (pre++[x]) W'/\KeepsWalks W1 W')->
  J [] W->CallsIn F n P g (#[.func (.yield l) #[] #[]]++lb) W fun e W'=>(∃v,e= .returned v)/\J ss W'
theorem w3o{W:World}{base j:Nat}{e:TypeId}{v:Value}{k:Nat}{xs:List Value}{o:Obj}(h:W.ownsRow base e 1 v k xs)(hj:W.heap[j]? =some o)(hno: ∀cur,o≠ .cells cur e (0,0))(o':Obj):(W.putObj j o').ownsRow base e 1 v k xs:=
 h.kept (grownBy_putObj_a W j o') (ownsRow_ne_a h hj hno)
set_option maxHeartbeats 2000000 in
theorem j9a(L:SlLaysZ.n11 P ρ)(F:Fence)(n:Nat)(hf:F.fn (ρ.f 11))(hro:F.round=none)(hn:2<=n)(g:Nat)(lb:Array Value)(hg:F.fn g)(eg: ∀args w,(callFunc g args).run P w= .ok (.enter g args) w)
  (ss:List (List UInt8))(hN:ss.length<=maxLen)(hNb:ss.length*16<=140737488355328)(w:World)(hseq:v84 F (n - 1) P g lb ss w):
  CallsIn F n P (ρ.f 11) #[.slice none 0 0,.func (.func g) #[] lb] w fun e w'=> ∃v,e= .returned v/\w'.ownsRow w.heap.size (ρ.t 26) 1 v ss.length (ss.map encStr)/\Below w.heap.size w w':=by
 have mixed:=L.mixed;have t0:=L.t0;have a0:=L.a0;have z0:=L.z0;have v0:=L.v0;have t24:=L.t24;have a24:=L.a24;have z24:=L.z24;have v24:=L.v24;have t26:=L.t26;have a26:=L.a26;have z26:=L.z26;have v26:=L.v26
 have u0:=run_underlying L.t0;have u24:=run_underlying L.t24;have u26:=run_underlying L.t26
 have apart:ρ.t 24≠ρ.t 26:=fun e=>by have h:=L.t24;rw[e,L.t26] at h;cases h
 obtain⟨_,_,body⟩:=L.f11
 refine callsIn_of_wp_marks body rfl hf ?_ hro
 simp only[SlBodyZ.n11_ntmps ρ,List.size_toArray,List.length_cons,List.length_nil,Nat.reduceAdd,Nat.reduceSub,Array.replicate_succ,Array.replicate_zero,List.push_toArray,List.append_toArray,List.nil_append,List.cons_append]
 gi_wp2
 refine wpIn_rangeFunc fun fn hfn=> ?_
 rw[hro]
 generalize hA:w.alloc (.cells #[.slice none 0 0] (ρ.t 24))=A
 have sA:A.heap.size=w.heap.size+1:=by rw[←hA];simp
 have bA:Below w.heap.size w A:=by rw[←hA];exact (Below.refl _ w).alloc (Nat.le_refl _) _
 have xA:A.heap[w.heap.size]? =some (.cells #[.slice none 0 0] (ρ.t 24) (0,0)):=by rw[←hA];exact World.alloc_heap_new w _
 generalize hrec:AnyZ.apRec ρ fn (.func (.func g) #[] lb) w.heap.size A.heap.size .ready none=rec
 generalize hB:(A.alloc (.deferred (some []))).alloc (.loop rec)=B
 have oldB: ∀k,k<A.heap.size->B.heap[k]? =A.heap[k]? :=fun k hk=>by rw[←hB];exact (Below.heap_alloc _ _ k (by simp;omega)).trans (Below.heap_alloc _ _ k hk)
 have bB:Below w.heap.size w B:=by rw[←hB];exact (bA.alloc bA.size _).alloc (by have:=bA.size;simp;omega) _
 have dB:B.heap[A.heap.size]? =some (.deferred (some [])):=by rw[←hB];exact (Below.heap_alloc _ _ _ (by simp)).trans (World.alloc_heap_new A _)
 have lB:B.heap[A.heap.size+1]? =some (.loop rec):=by rw[←hB];have:=World.alloc_heap_new (A.alloc (.deferred (some []))) (.loop rec);rwa [World.size_alloc] at this
 have start:AnyZ.ApAt ρ w fn (.func (.func g) #[] lb) w.heap.size (A.heap.size+1) A.heap.size [] B:=
  ⟨⟨_,(oldB _ (by omega)).trans xA,⟨rfl,.inl ⟨rfl,rfl⟩⟩,by simp⟩,by rw[hrec];exact lB,dB,bB⟩
 refine⟨A.heap.size+1,[{target:= .collected A.heap.size,args:= #[]}],B,{target:= .fn (.func g) lb,args:= #[.func (.yield (A.heap.size+1)) #[] #[]]},B,g,#[.func (.yield (A.heap.size+1)) #[] #[]]++lb,B,?_,?_,?_,?_,fun _=>(by omega),?_⟩
 ·rw[←hB,←hrec];exact run_enterLoop_outer _ _ _ _ _
 ·simp[resolve,go_sem]
 ·intro f' h';simp[Target.leads] at h';exact h'▸hg
 ·simp[invoke,go_sem,eg]
 refine (hseq _ (AnyZ.ApAt ρ w fn (.func (.func g) #[] lb) w.heap.size (A.heap.size+1) A.heap.size) B bB (AnyZ.ap_abides ρ _ _ _ _ _ _ _ bB.size) (fun _ _ h=>h.below)
  (fun pre x W h hl=>AnyZ.apYield {L with} F _ w fn hfn _ _ _ _ (by omega) (by omega) (by omega) (Nat.le_refl _) (by omega) ss.length hN hNb pre x W h hl) start).mono ?_
 rintro e C ⟨⟨_,rfl⟩,hC⟩
 obtain⟨v,hv,hrow,_⟩:=hC.box
 have hend:=run_endLoop (P:=P) hC.L (by simp[AnyZ.apRec])
 generalize hD:C.putObj (A.heap.size+1) (.loop {AnyZ.apRec ρ fn (.func (.func g) #[] lb) w.heap.size A.heap.size .ready none with state:= .exhausted})=D at hend
 have rowD:D.ownsRow w.heap.size (ρ.t 26) 1 v ss.length (ss.map encStr):=by rw[←hD];exact w3o hrow hC.L (fun _ h=>by cases h) _
 have boxD:D.heap[w.heap.size]? =some (.cells #[v] (ρ.t 24) (0,0)):=by rw[←hD];exact (World.putObj_heap_other (by omega)).trans hv
 have defD:D.heap[A.heap.size]? =some (.deferred (some [])):=by rw[←hD];exact (World.putObj_heap_other (by omega)).trans hC.K
 have belD:Below w.heap.size w D:=by rw[←hD];exact hC.below.grown (grownBy_putObj_a _ _ _) hC.below.size (fun k h=>by cases h;omega)
 obtain⟨cellD,markD⟩:=cell_of_box_a boxD
 clear hD
 refine⟨none,D,hend,?_⟩
 gi_wp2
 rw[←sA]
 refine⟨by simp,.inl ⟨_,_,rfl,run_takeDeferred defD,?_⟩⟩
 exact⟨_,results_tmp rfl _ _ _,v,rfl,w3o rowD defD (fun _ h=>by cases h) _,belD.grown (grownBy_putObj_a _ _ _) belD.size (fun k h=>by cases h;omega)⟩
end Go.Fl
end
noncomputable section
set_option maxRecDepth 100000
namespace Go.Proofs.YtkbjibhkaddepaaGreatDoor
open Go Go.Proofs Go.RowKit Go.Fl Go.Maps Go.Sort Go.Shelf
attribute [local go_sem] Oper.semAt_some
set_option maxHeartbeats 2000000 in
theorem v0n(n:Nat)(hn:1<=n)(w W:World)(l Bs b off cap:Nat)(zs:List (List UInt8))(hreach:zs.length<=140737488355328)(hBs:Bs<w.heap.size)(hb:b<w.heap.size)(J:List (List UInt8)->World->Prop)
  (hJ: ∀pre W1,J pre W1->Below w.heap.size w W1)(hc:w.cell? ⟨Bs,0,none⟩=some (.slice (some ⟨b,off,none⟩) zs.length cap))(hcs: ∀j,j<zs.length->w.cell? ⟨b,off+j,none⟩=some (encStr (zs[j]?.getD [])))
  (hY: ∀pre x W1,J pre W1->pre.length<zs.length->YieldAt Fence.wide (n - 1) Tryz.prog l #[encStr x] W1 fun e W'=>e= .returned (.bool true)/\J (pre++[x]) W'/\KeepsWalks W1 W')(h0:J [] W):
  CallsIn Fence.wide n Tryz.prog 269 #[.func (.yield l) #[] #[],.pointer (some ⟨Bs,0,none⟩)] W fun e W'=>(∃v,e= .returned v)/\J zs W':=by
 have hc0:=((hJ _ _ h0).cell (p:=⟨Bs,0,none⟩) hBs).trans hc
 refine callsIn_of_wp Tryz.func269 rfl trivial ?_ rfl
 simp only[Tryz.ntmps269,List.size_toArray,List.length_cons,List.length_nil,Nat.reduceAdd,Nat.reduceSub,Array.replicate_succ,Array.replicate_zero,List.push_toArray,List.append_toArray,List.nil_append,List.cons_append]
 gi_wp2
 gi_loopw [7] (fun i wr=> ∃k:Nat,k<=zs.length/\i= .int .i64 k/\J (zs.take k) wr) (fun i _=>zs.length - (intOf i).toNat)
 case atStart=>exact⟨0,Nat.zero_le _,rfl,h0⟩
 case round=>
  obtain⟨k,hk,rfl,hJk⟩:=hrel
  by_cases hlt:k<zs.length
  ·have hck:=((hJ _ _ hJk).cell (p:=⟨b,off+k,none⟩) hb).trans (hcs k hlt)
   obtain⟨fn,tmps,assign,body,hy,hR⟩:=hY _ zs[k] wr hJk (by rw[List.length_take];omega)
   gi_wp2
   refine hR.mono ?_
   rintro e W3 ⟨rfl,hJ3,_⟩
   gi_wp2
   go_roundw
   case rel=>exact⟨k+1,by omega,by simp,by rw[List.take_succ_eq_append_getElem hlt];exact hJ3⟩
   case measure=>simp[intOf];omega
  ·obtain rfl:k=zs.length:=by omega
   rw[List.take_length] at hJk
   gi_wp2
   go_end0
   exact⟨⟨_,rfl⟩,hJk⟩
set_option maxHeartbeats 2000000 in
theorem v0o(n:Nat)(w W:World)(l Bs cap:Nat)(a:Option Addr)(hBs:Bs<w.heap.size)(J:List (List UInt8)->World->Prop)(hJ: ∀pre W1,J pre W1->Below w.heap.size w W1)(hc:w.cell? ⟨Bs,0,none⟩=some (.slice a 0 cap))(h0:J [] W):
  CallsIn Fence.wide n Tryz.prog 269 #[.func (.yield l) #[] #[],.pointer (some ⟨Bs,0,none⟩)] W fun e W'=>(∃v,e= .returned v)/\J [] W':=by
 have hc0:=((hJ _ _ h0).cell (p:=⟨Bs,0,none⟩) hBs).trans hc
 refine callsIn_of_wp Tryz.func269 rfl trivial ?_ rfl
 simp only[Tryz.ntmps269,List.size_toArray,List.length_cons,List.length_nil,Nat.reduceAdd,Nat.reduceSub,Array.replicate_succ,Array.replicate_zero,List.push_toArray,List.append_toArray,List.nil_append,List.cons_append]
 gi_wp2
 gi_loopw [7] (fun i wr=>i= .int .i64 0/\J [] wr) (fun _ _=>0)
 case atStart=>exact⟨rfl,h0⟩
 case round=>
  obtain⟨rfl,hJs⟩:=hrel
  gi_wp2
  go_end0
  exact⟨⟨_,rfl⟩,hJs⟩
theorem u2e{σ:Hv}{w:World}(Bs:Nat)(v:Value)(l:List ByteArray)(hV:View σ w)(hB:σ Bs=some (.cells #[v] 70 (0,0)))(hr:RSl 1 (REnc Qg) σ v l)(hs:Sml l.length):
  Calls Tryz.prog 296 #[.slice none 0 0,.func (.func 269) #[] #[.pointer (some ⟨Bs,0,none⟩)]] w fun e w1=> ∃v1,e= .returned v1/\Grow [] σ w σ w1/\((vec v1 9 1 l.length (l.flatMap Qg)).ok w1/\ ∀k,(vec v1 9 1 l.length (l.flatMap Qg)).foot=some k->w.heap.size<=k/\σ k=none):=by
 have hBw:=hV _ _ hB
 have hBl:=lt_of_block hBw
 have hBc:w.cell? ⟨Bs,0,none⟩=some v:=by simp[World.cell?,hBw]
 have hlen:(l.map (·.data.toList)).length=l.length:=List.length_map _
 have hgive:v84 Fence.wide 2 Tryz.prog 269 #[.pointer (some ⟨Bs,0,none⟩)] (l.map (·.data.toList)) w:=by
  intro lp J W _ _ hJB hY h0
  obtain⟨a,cap,rfl,h1,h2,hel⟩:=hr
  cases hl0:l with
  |nil=>
   subst hl0
   exact v0o 2 w W lp Bs cap a hBl J hJB hBc h0
  |cons x l'=>
   obtain⟨ad,cs,rfl,_,hrow0,hcs0⟩:=hel 0 x (by rw[hl0];rfl)
   have cell0:=(hrow0.row hV) 0 _ (by rw[hcs0];rfl)
   obtain⟨ab,ao,asp⟩:=ad
   have hsp:asp=none:=by
    cases asp with
    |none=>rfl
    |some s=>
     have:=hrow0 0 (.string x) (by rw[hcs0];rfl)
     simp[Hv.cell,Addr.add] at this
     split at this<;>simp at this
   subst hsp
   have hbl:ab<w.heap.size:=by
    have:=hrow0 0 (.string x) (by rw[hcs0];rfl)
    simp only[Vs] at this
    unfold Hv.cell at this
    simp only at this
    cases hq:σ ab with
    |none=>rw[hq] at this;simp at this
    |some o=>exact lt_of_block (hV _ _ hq)
   rw[←hl0]
   have hcome:=v0n 2 (by omega) w W lp Bs ab ao cap (l.map (·.data.toList)) (by rw[hlen];exact h2) hBl hbl J hJB (by rw[hlen];exact hBc) (fun j hj=>by
    rw[hlen] at hj
    obtain⟨y,hy⟩:=getq hj
    obtain⟨ad',cs',had,_,hrow,hcs⟩:=hel j y hy
    cases had
    have hc:=(hrow.row hV) 0 (.string y) (by rw[hcs];rfl)
    rw[Bu,Vs] at hc
    rw[List.getElem?_map,hy]
    simpa [encStr] using hc) hY h0
   exact hcome
 refine (callsIn_wide (n:=3)).1 ((j9a (ρ:=Tryz.sorted221_ren) {Tryz.sorted221 with} Fence.wide 3 trivial rfl (by omega) 269 _ trivial (enters_of Tryz.func269 (by kernel_rfl) rfl) (l.map (·.data.toList)) (by rw[hlen];exact (q41 hs (show 16<=32768 by omega)).2) (by rw[hlen];exact (q41 hs (by omega)).1) w hgive).mono ?_)
 rintro e w1 ⟨v1,rfl,hown,hbel⟩
 rw[hlen] at hown
 have hfl:(l.map (·.data.toList)).map encStr=l.flatMap Qg:=(Ri l).symm
 rw[hfl] at hown
 have hsame: ∀b,b<w.heap.size->w1.heap[b]? =w.heap[b]? :=fun b hb=>hbel.block b hb
 refine⟨v1,rfl,⟨⟨hbel.os,hbel.tape,hbel.output,hbel.size,fun k hk _=>hbel.block k hk⟩,fun b o hb=>(hbel.block b (lt_of_block (hV b o hb))).trans (hV b o hb),.refl _,fun _ _ _=>rfl⟩,?_,?_⟩
 ·exact⟨hown.1,hown.2.imp id fun ⟨g,cap,cur,e1,_,e3⟩=>⟨g,cap,cur,e1,Nat.zero_le _,e3⟩⟩
 ·intro k hk
  have hge:w.heap.size<=k:=(hown.lt k hk).1
  refine⟨hge,?_⟩
  cases hq:σ k with
  |none=>rfl
  |some o=>have:=lt_of_block (hV k o hq);omega
end Go.Proofs.YtkbjibhkaddepaaGreatDoor
end
