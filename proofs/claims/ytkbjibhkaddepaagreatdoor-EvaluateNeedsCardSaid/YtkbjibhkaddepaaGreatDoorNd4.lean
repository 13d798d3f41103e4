/- For every input EvaluateNeeds returns true and leaves its arguments as they were. This is part 4 of 11. Conditions: those in the statements. -/
import Derived.Test.YtkbjibhkaddepaaGreatDoorProg
import Derived.Test.YtkbjibhkaddepaaGreatDoorNd3
import Derived.Lib.ValidU
import Derived.Lib.ItoaNum
import Derived.KernelRfl
import Derived.Conc.MuLone
import Derived.Shelf.Small.Bits
import Derived.Shelf.Utf8.RuneCount
import Derived.Shelf.Strconv.Atoi
import Derived.Shelf.Strconv.Itoa0
import Derived.Shelf.Strconv.Itoa1
import Derived.Shelf.LaysM
import Derived.Shelf.Strconv.Itoa2
import Derived.Shelf.Strconv.Itoa3
import Derived.Shelf.Strconv.AtoiErrFast
import Derived.Shelf.Strconv.ParseIntEmpty
import Derived.Shelf.Strconv.AtoiFail
import Derived.Shelf.Strconv.Clone
import Derived.Shelf.Strconv.SyntaxError
import Derived.Shelf.LaysC
import Derived.Shelf.Strconv.ToError
import Derived.Shelf.Strconv.Lower
import Derived.Shelf.Strconv.ParseUint10
import Derived.Shelf.Strconv.ParseUint10Empty
import Derived.Shelf.Strconv.ParseUint10Any
import Derived.Shelf.Strconv.ParseInt10
import Derived.Shelf.Strconv.AtoiLong
import Derived.Shelf.Strconv.AtoiInnerAll
import Derived.Shelf.Strconv.RangeError
import Derived.Shelf.Strconv.ToErrorRange
import Derived.Shelf.Strconv.AtoiAll
import Derived.Shelf.Strconv.ErrVarAll
import Derived.Shelf.Strings.Search1
import Derived.Shelf.Strings.Search2
import Derived.Shelf.Strings.Search3
import Derived.Shelf.Strings.Count
import Derived.Shelf.Strings.Shaped
import Derived.Shelf.Sort.Plain
import Derived.Shelf.Strings.Split
import Derived.Shelf.Strings.SplitShaped
import Derived.Shelf.Unicode.Decode
import Derived.Shelf.Strings.RuneCount
import Derived.Shelf.Strings.Explode
import Derived.Shelf.Unicode.DecodeSlow
import Derived.Shelf.Unicode.DecodeAny
import Derived.Ground.Names2Prog
import Derived.Shelf.Slices.Clone
import Derived.Shelf.Slices.CompactS
import Derived.Shelf.Slices.SearchI
import Derived.Shelf.Slices.Delete
import Derived.Shelf.Slices.Cells
import Derived.Shelf.Slices.In.SortNone
import Derived.Shelf.Slices.Empties
import Derived.Ground.SlgnProg
import Derived.Shelf.SlicesE.Clone
import Derived.Ground.NamesProg
import Derived.Shelf.Unicode.ValidAny
import Derived.Shelf.SlIter.Sorted
import Derived.Ground.GgzProg
import Derived.Shelf.SlIter.Collect
import Derived.WalkKit
import Derived.OwnWalkIn
import Derived.TacticsInMore
import Derived.LoopNIn
import Derived.LoopIn
import Derived.RangeFuncLeaves
noncomputable section
set_option maxRecDepth 100000
open Go Go.RowKit Go.Fl Go.Fl.Lk Go.Fx
namespace Go.En
abbrev Two(p:Prop):Prop:=p/\p
abbrev W9:Type:=(List (Decl)->Prop)->Prop
def Ge:W9:=fun K=>K [Decl.mk (B8 [100,101,118,105,99,101]) (B8 [99,111,114,101,115]) (2:Int),Decl.mk (B8 [100,101,118,105,99,101]) (B8 [111,115]) (3:Int),Decl.mk (B8 [117,115,101,114]) (B8 [97,103,101]) (2:Int),Decl.mk (B8 [117,115,101,114]) (B8 [97,112,112]) (4:Int),Decl.mk (B8 [117,115,101,114]) (B8 [98,101,116,97]) (1:Int),Decl.mk (B8 [117,115,101,114]) (B8 [99,111,117,110,116,114,121]) (3:Int),Decl.mk (B8 [117,115,101,114]) (B8 [112,108,97,110]) (3:Int),Decl.mk (B8 [117,115,101,114]) (B8 [116,97,103,115]) (5:Int)]
abbrev j6k:Type:=List (Int)->Int->(Bool->Int->Prop)->Prop
def w3n:j6k:=fun list at_ K=>Fits list->K (decide (at_<(↑list.length:Int))) at_
abbrev Zi:Type:=List (Int)->Int->Int->(Int->Int->Prop)->Prop
def w3o(j6x:j6k):Zi:=fun list at_ n K=>j6x list at_ fun Qa Qz=>Cnd (Qa=true) (InI (Qz+1)/\InI (Qz+1 - (1:Int))/\((0:Int)<=Qz+1 - (1:Int)/\Qz+1 - (1:Int)<(↑list.length:Int))/\ ∀y1,list[(Qz+1 - (1:Int)).toNat]? =some y1->InI y1/\n≠(0:Int)/\K (y1.tmod n) (Qz+1)) (K (0:Int) Qz)
def Wf:Zi:=w3o w3n
abbrev q1p:Type:=List (Int)->Int->(ByteArray->Int->Prop)->Prop
def w3p(Qb:Zi):q1p:=fun list at_ K=>Qb list at_ (11:Int) fun Qa Qz=>((0:Int)<=Qa/\Qa<(↑(11:Nat):Int))/\ ∀y1,j0s[Qa.toNat]? =some y1->K y1 Qz
def z2i:q1p:=w3p Wf
abbrev q6t:Type:=List (Int)->Int->Int->(Int->Int->Prop)->Prop
def w3q(Qb:Zi):q6t:=fun list at_ n K=>Qb list at_ (256:Int) fun Qa Qz=>InI ((256:Int)*Qa)/\Qb list Qz (256:Int) fun Qc Je=>InI ((256:Int)*Qa+Qc)/\n≠(0:Int)/\K (((256:Int)*Qa+Qc).tmod n) Je
def z6y:q6t:=w3q Wf
abbrev z6z:Type:=Int->List (ByteArray)->(List (ByteArray)->Prop)->Prop
def j6l:z6z:=fun n l K=>((0:Int)<=n/\n<=(↑l.length:Int))/\K (List.take n.toNat l)
abbrev z2j:Type:=List (Int)->Int->(List (ByteArray)->Int->Prop)->Prop
def w3r(Qb:Zi):z2j:=fun list at_ K=>Qb list at_ (10:Int) fun Qa Qz=>Lp3 (fun Qc Je z99 v98=>Qb list z99 (4:Int) fun Qj Zl=>Cnd (Je<Qj) (InI (Qa+Je)/\(10:Int)≠(0:Int)/\InI ((48:Int)+(Qa+Je).tmod (10:Int))/\(↑((B8 [107]).size+(Go.Utf8.encode (Go.IntKind.i32.wrap ((48:Int)+(Qa+Je).tmod (10:Int)))).size):Int)<=(9223372036854775807:Int)/\Sml (Qc++[B8 [107]++Go.Utf8.encode (Go.IntKind.i32.wrap ((48:Int)+(Qa+Je).tmod (10:Int)))]).length/\InI (Je+1)/\v98 (Qc++[B8 [107]++Go.Utf8.encode (Go.IntKind.i32.wrap ((48:Int)+(Qa+Je).tmod (10:Int)))]) (Je+1) Zl) (Lp2 (fun Ql Hy w1e=>Fits Hy->CAt Hy Ql (fun y5=>InI (Ql - 1)/\((0:Int)<=Ql - 1/\Ql - 1<(↑Hy.length:Int))/\ ∀y7,Hy[(Ql - 1).toNat]? =some y7->Cnd (Lk.blt y7 y5) (InI (Ql+1)/\w1e (Ql+1) Hy) (((0:Int)<=Ql/\Ql<=(↑Hy.length:Int))/\K (List.take Ql.toNat Hy) Zl)) (K Hy Zl)) (1:Int) Qc)) [] (0:Int) Qz
def j0t:z2j:=w3r Wf
abbrev z83:Type:=List (Int)->Int->(ByteArray->Int->Prop)->Prop
def w9t(Qb:Zi):z83:=fun list at_ K=>Qb list at_ (10:Int) fun Qa Qz=>InI ((48:Int)+Qa)/\(↑((B8 [107]).size+(Go.Utf8.encode (Go.IntKind.i32.wrap ((48:Int)+Qa))).size):Int)<=(9223372036854775807:Int)/\K (B8 [107]++Go.Utf8.encode (Go.IntKind.i32.wrap ((48:Int)+Qa))) Qz
def j7x:z83:=w9t Wf
abbrev q1q:Type:=List (Int)->Int->Int->(Val->Int->Prop)->Prop
def j0u(Qb:Zi)(Wq:q1p):q1q:=fun list at_ kind K=>Cnd (kind=1) (Qb list at_ (2:Int) fun Qa Qz=>K (Val.mk kind Qa (B8 []) []) Qz) (Cnd (kind=2) ([(0:Int),(1:Int),(17:Int),(18:Int),(19:Int),(-5:Int),(64:Int),(1099511627776:Int),(-1099511627776:Int)].length<=(9223372036854775807:Nat)->Qb list at_ (↑[(0:Int),(1:Int),(17:Int),(18:Int),(19:Int),(-5:Int),(64:Int),(1099511627776:Int),(-1099511627776:Int)].length:Int) fun Qc Je=>((0:Int)<=Qc/\Qc<(↑[(0:Int),(1:Int),(17:Int),(18:Int),(19:Int),(-5:Int),(64:Int),(1099511627776:Int),(-1099511627776:Int)].length:Int))/\ ∀y2,[(0:Int),(1:Int),(17:Int),(18:Int),(19:Int),(-5:Int),(64:Int),(1099511627776:Int),(-1099511627776:Int)][Qc.toNat]? =some y2->K (Val.mk kind y2 (B8 []) []) Je) (Cnd (kind=3) (Wq list at_ fun Qa Qz=>K (Val.mk kind (0:Int) Qa []) Qz) (Cnd (kind=4) (Qb list at_ (6:Int) fun Qa Qz=>((0:Int)<=Qa/\Qa<(↑(6:Nat):Int))/\ ∀y1,z41[Qa.toNat]? =some y1->K (Val.mk kind (0:Int) y1 []) Qz) (Qb list at_ (5:Int) fun Qa Qz=>((0:Int)<=Qa/\Qa<(↑(5:Nat):Int))/\ ∀y1,j7v[Qa.toNat]? =some y1->Sml ([]++y1).length/\K (Val.mk (5:Int) (0:Int) (B8 []) ([]++y1)) Qz))))
def B0:q1q:=j0u Wf z2i
abbrev j6m:Type:=List (Int)->Int->(Ex->Int->Prop)->Prop
def w3s(Q1:W9)(Qb:Zi)(z35:z83)(Jk:q1q):j6m:=fun list at_ K=>Q1 fun Qa=>Fits Qa->InI ((↑Qa.length:Int)+1)/\Qb list at_ ((↑Qa.length:Int)+1) fun Qj Zl=>Fits Qa->Cnd (Qj=(↑Qa.length:Int)) (z35 list Zl fun Qu Wd=>K (Ex.mk (7:Int) (B8 [117,115,101,114]) (B8 [107,101,121]) [Val.mk (3:Int) (0:Int) Qu []] []) Wd) (At Qa Qj fun y4=>Jn1 (fun (Zu:Int×ByteArray×ByteArray×List Val×List Ex×Int×Int×ByteArray×ByteArray×List Val×List Ex×Unit)=>Jk list Zu.2.2.2.2.2.1 y4.3 fun Wk z98=>K (Ex.mk (7:Int) Zu.2.1 Zu.2.2.1 [Wk] Zu.2.2.2.2.1) z98) fun (j6y:Int×ByteArray×ByteArray×List Val×List Ex×Int×Int×ByteArray×ByteArray×List Val×List Ex×Unit->Prop)=>Qb list Zl (5:Int) fun Wk z98=>Jn1 (fun (Wr:Int×Int×ByteArray×ByteArray×List Val×List Ex×Int×ByteArray×ByteArray×List Val×List Ex×Unit)=>Cnd (y4.3=2) (Qb list Wr.1 (4:Int) fun Wo z18=>InI ((12:Int)+Wo)/\Jk list z18 y4.3 fun Gb B5=>K (Ex.mk ((12:Int)+Wo) Wr.2.2.1 Wr.2.2.2.1 [Gb] Wr.2.2.2.2.2.1) B5) (Cnd (y4.3=3) (Qb list Wr.1 (4:Int) fun Wo z18=>InI ((12:Int)+Wo)/\Jk list z18 y4.3 fun Gb B5=>K (Ex.mk ((12:Int)+Wo) Wr.2.2.1 Wr.2.2.2.1 [Gb] Wr.2.2.2.2.2.1) B5) (Cnd (y4.3=4) (Qb list Wr.1 (4:Int) fun Wo z18=>InI ((12:Int)+Wo)/\Jk list z18 y4.3 fun Gb B5=>K (Ex.mk ((12:Int)+Wo) Wr.2.2.1 Wr.2.2.2.1 [Gb] Wr.2.2.2.2.2.1) B5) (j6y (Wr.2.1,Wr.2.2.1,Wr.2.2.2.1,Wr.2.2.2.2.1,Wr.2.2.2.2.2.1,Wr.1,Wr.2.2.2.2.2.2.1,Wr.2.2.2.2.2.2.2.1,Wr.2.2.2.2.2.2.2.2.1,Wr.2.2.2.2.2.2.2.2.2.1,Wr.2.2.2.2.2.2.2.2.2.2.1,()))))) fun (y3k:Int×Int×ByteArray×ByteArray×List Val×List Ex×Int×ByteArray×ByteArray×List Val×List Ex×Unit->Prop)=>Cnd (Wk=0) (K (Ex.mk (6:Int) y4.1 y4.2 [] []) z98) (Cnd (Wk=1) (Cnd (y4.3=5) (j6y ((0:Int),y4.1,y4.2,[],[],z98,(0:Int),B8 [],B8 [],[],[],())) (Lp3 (fun Wo z18 y7w u2e=>Qb list y7w (3:Int) fun Gb B5=>Cnd (Wo<=Gb) (Jk list B5 y4.3 fun Wi q9k=>Sml (z18++[Wi]).length/\InI (Wo+1)/\u2e (Wo+1) (z18++[Wi]) q9k) (K (Ex.mk (8:Int) y4.1 y4.2 z18 []) B5)) (0:Int) [] z98)) (Cnd (Wk=2) (Cnd (y4.3=3) (Jk list z98 (3:Int) fun Wo z18=>K (Ex.mk (11:Int) y4.1 y4.2 [Wo] []) z18) (Cnd (y4.3=5) (Jk list z98 (3:Int) fun Wo z18=>K (Ex.mk (11:Int) y4.1 y4.2 [Wo] []) z18) (j6y ((0:Int),y4.1,y4.2,[],[],z98,(0:Int),B8 [],B8 [],[],[],())))) (Cnd (Wk=3) (Cnd (y4.3=3) (Qb list z98 (2:Int) fun Wo z18=>InI ((9:Int)+Wo)/\Jk list z18 (3:Int) fun Gb B5=>K (Ex.mk ((9:Int)+Wo) y4.1 y4.2 [Gb] []) B5) (y3k (z98,(0:Int),y4.1,y4.2,[],[],(0:Int),B8 [],B8 [],[],[],()))) (Cnd (Wk=4) (y3k (z98,(0:Int),y4.1,y4.2,[],[],(0:Int),B8 [],B8 [],[],[],())) (j6y ((0:Int),y4.1,y4.2,[],[],z98,(0:Int),B8 [],B8 [],[],[],())))))))
def z60:j6m:=w3s Ge Wf j7x B0
abbrev q6u:Type:=List (Int)->Int->List (ByteArray)->Int->(Ex->Int->Prop)->Prop
def j6n(Qb:Zi)(v3h:j6m)(X:q6u):q6u:=fun list at_ segments levels K=>Qb list at_ (8:Int) fun Qa Qz=>Jn1 (fun Qc=>Cnd (Qc=0) (K (Ex.mk (1:Int) (B8 []) (B8 []) [] []) Qz) (Cnd (Qc=3) (Fits segments->Cnd ((0:Int)<(↑segments.length:Int)) (Fits segments->Qb list Qz (↑segments.length:Int) fun Qu Wd=>At segments Qu fun y5=>K (Ex.mk (5:Int) (B8 []) y5 [] []) Wd) (v3h list Qz fun Ql Hy=>K (Ex.mk Ql.1 Ql.2 Ql.3 Ql.4 Ql.5) Hy)) (Cnd (Qc=4) (InI (levels - 1)/\X list Qz segments (levels - 1) fun Qj Zl=>K (Ex.mk (4:Int) (B8 []) (B8 []) [] [Ex.mk Qj.1 Qj.2 Qj.3 Qj.4 Qj.5]) Zl) (Jn1 (fun Qj=>Cnd (Qj=true) (Qb list Qz (2:Int) fun Ql Hy=>InI ((2:Int)+Ql)/\Qb list Hy (2:Int) fun Qu Wd=>InI ((2:Int)+Qu)/\LpH (fun (Qk:Int×Int×Int×ByteArray×ByteArray×List Val×List Ex×Unit) (w2u:Int×Int×Int×ByteArray×ByteArray×List Val×List Ex×Unit->Prop)=>Cnd (Qk.1<2+Qu) (InI (levels - 1)/\X list Qk.2.1 segments (levels - 1) fun Zu z09=>Jn1 (fun (Wk:Int×ByteArray×ByteArray×List Val×List Ex×Unit)=>Sml (Qk.2.2.2.2.2.2.1++[Ex.mk Wk.1 Wk.2.1 Wk.2.2.1 Wk.2.2.2.1 Wk.2.2.2.2.1]).length/\InI (Qk.1+1)/\w2u (Qk.1+1,z09,Qk.2.2.1,Qk.2.2.2.1,Qk.2.2.2.2.1,Qk.2.2.2.2.2.1,Qk.2.2.2.2.2.2.1++[Ex.mk Wk.1 Wk.2.1 Wk.2.2.1 Wk.2.2.2.1 Wk.2.2.2.2.1],())) fun (y0g:Int×ByteArray×ByteArray×List Val×List Ex×Unit->Prop)=>Cnd (Zu.1=2+Ql) (y0g ((4:Int),B8 [],B8 [],[],[Ex.mk Zu.1 Zu.2 Zu.3 Zu.4 Zu.5],())) (y0g (Zu.1,Zu.2,Zu.3,Zu.4,Zu.5,()))) (K (Ex.mk Qk.2.2.1 Qk.2.2.2.1 Qk.2.2.2.2.1 Qk.2.2.2.2.2.1 Qk.2.2.2.2.2.2.1) Qk.2.1)) ((0:Int),Wd,(2:Int)+Ql,B8 [],B8 [],[],[],())) (v3h list Qz fun Ql Hy=>K (Ex.mk Ql.1 Ql.2 Ql.3 Ql.4 Ql.5) Hy)) fun w8z=>Cnd (Qc=5) (w8z (decide (Qc=5))) (w8z (decide (Qc=6))))))) fun j6z=>Cnd (levels<=1) (Cnd ((4:Int)<=Qa) (InI (Qa - 4)/\j6z (Qa - 4)) (j6z Qa)) (j6z Qa)
def j0v:q6u:=fun list at_ segments levels K=> ∀X:q6u,(∀list at_ segments levels K,j6n Wf z60 X list at_ segments levels K->X list at_ segments levels K)->X list at_ segments levels K
abbrev q5i:Type:=List (Int)->Int->ByteArray->ByteArray->Int->List (Decl)->List (Seg)->List (Flg)->List (Lay_)->List (Exper)->(Int->ByteArray->ByteArray->Int->List (Decl)->List (Seg)->List (Flg)->List (Lay_)->List (Exper)->Prop)->Prop
def z43(Qb:Zi)(q3f:z6z)(q46:z2j)(q47:q6u):q5i:=fun list at_ salt hkind hold attrs segs flags layers expers K=>Qb list at_ (4:Int) fun Qa Qz=>q3f Qa [B8 [97,108,112,104,97],B8 [98,101,116,97],B8 [103,97,109,109,97]] fun Qc=>Lp3 (fun Qj Zl w52 u0f=>Fits Qc->CAt Qc Qj (fun y4=>q46 list Zl fun Zu z09=>q46 list z09 fun Wk z98=>Jn2 (fun Wr w80=>Jn1 (fun (Wo:Int×ByteArray×ByteArray×List Val×List Ex×Int×Unit)=>Sml (w52++[Seg.mk y4 Wr Zu Wk (Ex.mk Wo.1 Wo.2.1 Wo.2.2.1 Wo.2.2.2.1 Wo.2.2.2.2.1)]).length/\InI (Qj+1)/\u0f (Qj+1) Wo.2.2.2.2.2.1 (w52++[Seg.mk y4 Wr Zu Wk (Ex.mk Wo.1 Wo.2.1 Wo.2.2.1 Wo.2.2.2.1 Wo.2.2.2.2.1)])) fun (y3l:Int×ByteArray×ByteArray×List Val×List Ex×Int×Unit->Prop)=>Qb list w80 (3:Int) fun Gb B5=>Cnd ((0:Int)<Gb) (((0:Int)<=(0:Int)/\(0:Int)<=Qj/\Qj<=(↑Qc.length:Int))/\q47 list B5 (List.drop (Int.toNat (0:Int)) (List.take Qj.toNat Qc)) (3:Int) fun Wi q9k=>y3l (Wi.1,Wi.2,Wi.3,Wi.4,Wi.5,q9k,())) (y3l ((0:Int),B8 [],B8 [],[],[],B5,()))) fun y3k=>Qb list z98 (4:Int) fun Wo z18=>Cnd (Wo=1) (y3k (B8 [100,101,118,105,99,101]) z18) (y3k (B8 [117,115,101,114]) z18)) (K Zl salt hkind hold attrs w52 flags layers expers)) (0:Int) Qz segs
def q9t:q5i:=z43 Wf j6l j0t j0v
abbrev q1r:Type:=Envt->(List (ByteArray)->Prop)->Prop
def q1s:q1r:=fun v K=>Lp2 (fun Qa Qz q3v=>Fits v.3->CAt v.3 Qz (fun y2=>Sml (Qa++[y2.1]).length/\InI (Qz+1)/\q3v (Qa++[y2.1]) (Qz+1)) (K Qa)) [] (0:Int)
abbrev q8d:Type:=List (Int)->Int->Int->(List (Rng)->Int->Prop)->Prop
def j7y(Qb:Zi)(W5:q6t):q8d:=fun list at_ n K=>Jn4 (fun Qa Qz j0a q7i=>Qb list q7i n fun Qc Je=>InI ((1:Int)+Qc)/\Jn1 (fun Qj=>Sml (Qa++[Rng.mk Qz (10000:Int) Qj]).length/\K (Qa++[Rng.mk Qz (10000:Int) Qj]) Je) fun w8z=>Cnd ((1:Int)+Qc=j0a) (n≠(0:Int)/\InI ((1:Int)+((1:Int)+Qc).tmod n)/\w8z ((1:Int)+((1:Int)+Qc).tmod n)) (w8z ((1:Int)+Qc))) fun q48=>Lp5 (fun Qc Je z99 j2n u0w u2f=>Qb list u0w (4:Int) fun Qj Zl=>Cnd (j2n<Qj) (Cnd ((1:Int)<n) (InI (Je+1)/\W5 list Zl (5000:Int) fun Ql Hy=>InI (Je+1+Ql)/\Qb list Hy n fun Qu Wd=>InI ((1:Int)+Qu)/\Jn1 (fun Qk=>Cnd ((10000:Int)<=Je+1+Ql) (q48 Qc Je z99 Wd) (Sml (Qc++[Rng.mk Je (Je+1+Ql) Qk]).length/\InI (j2n+1)/\u2f (Qc++[Rng.mk Je (Je+1+Ql) Qk]) (Je+1+Ql) Qk (j2n+1) Wd)) fun u28=>Cnd ((1:Int)+Qu=z99) (n≠(0:Int)/\InI ((1:Int)+((1:Int)+Qu).tmod n)/\u28 ((1:Int)+((1:Int)+Qu).tmod n)) (u28 ((1:Int)+Qu))) (q48 Qc Je z99 Zl)) (q48 Qc Je z99 Zl)) [] (0:Int) (0:Int) (0:Int) at_
def z44:q8d:=j7y Wf z6y
abbrev z45:Type:=List (Int)->Int->Int->(Srv->Int->Prop)->Prop
def j7z(Qb:Zi)(Wq:q1p)(q3g:q8d)(Q1:W9):z45:=fun list at_ n K=>Qb list at_ (2:Int) fun Qa Qz=>Cnd (Qa=0) (Qb list Qz n fun Qc Je=>InI ((1:Int)+Qc)/\K (Srv.mk ((1:Int)+Qc) (B8 []) (B8 []) (B8 []) []) Je) (Wq list Qz fun Qc Je=>q3g list Je n fun Qj Zl=>Q1 fun Ql=>Qb list Zl (12:Int) fun Qu Wd=>Fits Ql->CAt Ql Qu (fun y6=>Cnd (y6.3=5) (K (Srv.mk (0:Int) (B8 [117,115,101,114]) (B8 [107,101,121]) Qc Qj) Wd) (At Ql Qu fun y8=>At Ql Qu fun y10=>K (Srv.mk (0:Int) y8.1 y10.2 Qc Qj) Wd)) (K (Srv.mk (0:Int) (B8 [117,115,101,114]) (B8 [107,101,121]) Qc Qj) Wd))
def j0w:z45:=j7z Wf z2i z44 Ge
abbrev j0x:Type:=(List (Nd)->(Nd->Option (Int))->Bool->Prop)->Prop
def j0y:j0x:=fun K=>K [] (fun _=>none) false
abbrev H0:Type:=Int->(Bool->Prop)->Prop
def Zg:H0:=fun op K=>Cnd ((6:Int)<=op) (K (decide (op<=15))) (K false)
abbrev j0z:Type:=List (ByteArray)->List (ByteArray)->(Bool->Prop)->Prop
def z1i:j0z:=fun a b K=>Fits a->Fits b->Cnd ((↑a.length:Int)=(↑b.length:Int)) (Lp1 (fun Qj j4l=>Fits a->CAt a Qj (fun y4=>At b Qj fun y6=>Cnd (y4=y6) (InI (Qj+1)/\j4l (Qj+1)) (K false)) (K true)) (0:Int)) (K false)
abbrev q3w:Type:=Val->Val->(Bool->Prop)->Prop
def z61(j2e:j0z):q3w:=fun a b K=>Cnd (a.1=b.1) (Cnd (a.2=b.2) (Cnd (a.3=b.3) (j2e a.4 b.4 fun Qa=>K Qa) (K false)) (K false)) (K false)
def q3x:q3w:=z61 z1i
abbrev q1t:Type:=List (Val)->List (Val)->(Bool->Prop)->Prop
def q1u(Bd:q3w):q1t:=fun a b K=>Fits a->Fits b->Cnd ((↑a.length:Int)=(↑b.length:Int)) (Lp1 (fun Qj j4l=>Fits a->CAt a Qj (fun y4=>At b Qj fun y6=>Bd y4 y6 fun Wr=>Cnd (Wr=true) (InI (Qj+1)/\j4l (Qj+1)) (K false)) (K true)) (0:Int)) (K false)
def Z0:q1t:=q1u q3x
abbrev V2:Type:=Ex->Ex->(Bool->Prop)->Prop
def Gk(j98:q1t)(X:V2):V2:=fun a b K=>Cnd (a.1=b.1) (Cnd (a.2=b.2) (Cnd (a.3=b.3) (j98 a.4 b.4 fun Qa=>Cnd (Qa=true) (Fits a.5->Fits b.5->Cnd ((↑a.5.length:Int)=(↑b.5.length:Int)) (Lp1 (fun Ql j0b=>Fits a.5->CAt a.5 Ql (fun y5=>At b.5 Ql fun y7=>X (Ex.mk y5.1 y5.2 y5.3 y5.4 y5.5) (Ex.mk y7.1 y7.2 y7.3 y7.4 y7.5) fun Wo=>Cnd (Wo=true) (InI (Ql+1)/\j0b (Ql+1)) (K false)) (K true)) (0:Int)) (K false)) (K false)) (K false)) (K false)) (K false)
def Jx:V2:=fun a b K=> ∀X:V2,(∀a b K,Gk Z0 X a b K->X a b K)->X a b K
abbrev q8e:Type:=List (Ex)->Ex->(Int->Prop)->Prop
def z2k(q7j:V2):q8e:=fun l e K=>Lp1 (fun Qa q9l=>Fits l->CAt l Qa (fun y2=>q7j (Ex.mk y2.1 y2.2 y2.3 y2.4 y2.5) (Ex.mk e.1 e.2 e.3 e.4 e.5) fun Qu=>Cnd (Qu=true) (K Qa) (InI (Qa+1)/\q9l (Qa+1))) (K (-1:Int))) (0:Int)
def Zt:q8e:=z2k Jx
abbrev Va:Type:=List (Ex)->Ex->(List (Ex)->Prop)->Prop
def Uo(z36:q8e)(Z3:H0)(X:Va):Va:=fun l e K=>Jn1 (fun Qa=>Lp2 (fun Qc Je z79=>Fits e.5->CAt e.5 Je (fun y3=>X Qc (Ex.mk y3.1 y3.2 y3.3 y3.4 y3.5) fun Qk=>InI (Je+1)/\z79 Qk (Je+1)) (K Qc)) Qa (0:Int)) fun q48=>Cnd (e.1=5) (z36 l (Ex.mk e.1 e.2 e.3 e.4 e.5) fun Qc=>Cnd (Qc<0) ((Sml ([]++l).length/\Sml ([]++l++[Ex.mk e.1 e.2 e.3 e.4 e.5]).length/\q48 ([]++l++[Ex.mk e.1 e.2 e.3 e.4 e.5]))/\Sml ([]++l).length/\Sml ([]++l++[Ex.mk e.1 e.2 e.3 e.4 e.5]).length/\q48 ([]++l++[Ex.mk e.1 e.2 e.3 e.4 e.5])) (q48 l)) (Z3 e.1 fun Qc=>Cnd (Qc=true) (z36 l (Ex.mk e.1 e.2 e.3 e.4 e.5) fun Qj=>Cnd (Qj<0) ((Sml ([]++l).length/\Sml ([]++l++[Ex.mk e.1 e.2 e.3 e.4 e.5]).length/\q48 ([]++l++[Ex.mk e.1 e.2 e.3 e.4 e.5]))/\Sml ([]++l).length/\Sml ([]++l++[Ex.mk e.1 e.2 e.3 e.4 e.5]).length/\q48 ([]++l++[Ex.mk e.1 e.2 e.3 e.4 e.5])) (q48 l)) (q48 l))
def Jw:Va:=fun l e K=> ∀X:Va,(∀l e K,Uo Zt Zg X l e K->X l e K)->X l e K
abbrev H1:Type:=List (Rul)->(List (Ex)->Prop)->Prop
def q1v(q49:Va):H1:=fun l K=>Lp2 (fun Qa Qz q3v=>Fits l->CAt l Qz (fun y2=>q49 Qa (Ex.mk y2.2.1 y2.2.2 y2.2.3 y2.2.4 y2.2.5) fun Qu=>InI (Qz+1)/\q3v Qu (Qz+1)) (K Qa)) [] (0:Int)
def Uz:H1:=q1v Jw
abbrev Wg:Type:=List (Nd)->(Nd->Option (Int))->Bool->Int->(Bool->List (Nd)->(Nd->Option (Int))->Bool->Prop)->Prop
def W0:Wg:=fun ns ids full id K=>Cnd ((-1002:Int)<id) (Fits ns->K (decide (id<(↑ns.length:Int))) ns ids full) (K false ns ids full)
abbrev B9:Type:=List (Nd)->(Nd->Option (Int))->Bool->Int->((Int->Option (Bool))->List (Nd)->(Nd->Option (Int))->Bool->Prop)->Prop
def Vv:B9:=fun ns ids full id K=>Lp2 (fun Qa q9l q3v=>Fits Qa->Cnd ((0:Int)<(↑Qa.length:Int)) (Fits Qa->InI ((↑Qa.length:Int) - 1)/\((0:Int)<=(↑Qa.length:Int) - 1/\(↑Qa.length:Int) - 1<(↑Qa.length:Int))/\ ∀y3,Qa[((↑Qa.length:Int) - 1).toNat]? =some y3->Fits Qa->InI ((↑Qa.length:Int) - 1)/\((0:Int)<=(↑Qa.length:Int) - 1/\(↑Qa.length:Int) - 1<=(↑Qa.length:Int))/\Cnd ((q9l y3).getD false=true) (q3v (List.take ((↑Qa.length:Int) - 1).toNat Qa) q9l) (Cnd ((0:Int)<=y3) (At ns y3 fun y6=>At ns y3 fun y8=>Sml (List.take ((↑Qa.length:Int) - 1).toNat Qa++[y6.2.1,y8.2.2]).length/\q3v (List.take ((↑Qa.length:Int) - 1).toNat Qa++[y6.2.1,y8.2.2]) (put q9l y3 true)) (q3v (List.take ((↑Qa.length:Int) - 1).toNat Qa) (put q9l y3 true)))) (K q9l ns ids full)) [id] fun _=>none
abbrev U0:Type:=List (Nd)->(Nd->Option (Int))->Bool->Int->(List (Int)->List (Nd)->(Nd->Option (Int))->Bool->Prop)->Prop
def q3y(Qx:Wg)(q0k:B9):U0:=fun ns ids full id K=>Qx ns ids full id fun Qa (Qz:List (Int×Int×Int)) q3v q7i=>Cnd (Qa=true) (q0k Qz q3v q7i id fun j6z (Je:List (Int×Int×Int)) z79 j2n=>Lp2 (fun Qj Zl q77=>Cnd (Zl<=1000) (InI ((-1:Int) - Zl)/\Cnd ((j6z ((-1:Int) - Zl)).getD false=true) (Sml (Qj++[Zl]).length/\InI (Zl+1)/\q77 (Qj++[Zl]) (Zl+1)) (InI (Zl+1)/\q77 Qj (Zl+1))) (K Qj Je z79 j2n)) [] (0:Int)) (K [] Qz q3v q7i)
def Ve:U0:=q3y W0 Vv
abbrev Zb:Type:=List (Nd)->(Nd->Option (Int))->Bool->Int->(Bool->List (Nd)->(Nd->Option (Int))->Bool->Prop)->Prop
def Bq(Qx:Wg)(Be:U0):Zb:=fun ns ids full id K=>Qx ns ids full id fun Qa (Qz:List (Int×Int×Int)) q3v q7i=>Cnd (Qa=true) (Be Qz q3v q7i id fun Qc (Je:List (Int×Int×Int)) z79 j2n=>Lp1 (fun Qj j4l=>Fits Qc->CAt Qc Qj (fun y4=>Cnd ((1:Int)<y4) (K false Je z79 j2n) (InI (Qj+1)/\j4l (Qj+1))) (K true Je z79 j2n)) (0:Int)) (K false Qz q3v q7i)
def Zr:Zb:=Bq W0 Ve
abbrev Up:Type:=List (Nd)->(Nd->Option (Int))->Bool->Int->(Int->List (Nd)->(Nd->Option (Int))->Bool->Prop)->Prop
def Zj:Up:=fun ns ids full id K=>Cnd (id<0) (K (1001:Int) ns ids full) (At ns id fun y0=>K y0.1 ns ids full)
abbrev q0a:Type:=List (Nd)->(Nd->Option (Int))->Bool->Int->Int->(Int->Int->List (Nd)->(Nd->Option (Int))->Bool->Prop)->Prop
def q54(Zk:Up):q0a:=fun ns ids full id test K=>Zk ns ids full id fun Qa (Qz:List (Int×Int×Int)) q3v q7i=>Cnd (Qa=test) (At Qz id fun y1=>At Qz id fun y3=>K y1.2.1 y3.2.2 Qz q3v q7i) (K id id Qz q3v q7i)
def Zd:q0a:=q54 Zj
abbrev H2:Type:=List (Nd)->(Nd->Option (Int))->Bool->Int->Int->Int->(Int->List (Nd)->(Nd->Option (Int))->Bool->Prop)->Prop
def q8f(Qx:Wg)(Zk:Up):H2:=fun ns ids full test yes no K=>Cnd (test<0) (K (-1002:Int) ns ids full) (Cnd ((1000:Int)<test) (K (-1002:Int) ns ids full) (Qx ns ids full yes fun Qa (Qz:List (Int×Int×Int)) q3v q7i=>Cnd (Qa=true) (Qx Qz q3v q7i no fun Qc (Je:List (Int×Int×Int)) z79 j2n=>Cnd (Qc=true) (Zk Je z79 j2n yes fun Qj (Zl:List (Int×Int×Int)) q77 w0b=>Cnd (Qj<=test) (K (-1002:Int) Zl q77 w0b) (Zk Zl q77 w0b no fun Ql (Hy:List (Int×Int×Int)) w1e y0h=>Cnd (Ql<=test) (K (-1002:Int) Hy w1e y0h) (Cnd (yes=no) (K yes Hy w1e y0h) (Cnd ((w1e (test,yes,no)).isSome=true) (K ((w1e (test,yes,no)).getD (0:Int)) Hy w1e y0h) (Fits Hy->Cnd ((4000:Int)<=(↑Hy.length:Int)) (K (-1002:Int) Hy w1e true) (Fits Hy->Sml (Hy++[(test,yes,no)]).length/\((Hy++[(test,yes,no)]).length<=(9223372036854775807:Nat)->InI ((↑(Hy++[(test,yes,no)]).length:Int) - 1)/\K ((↑(Hy++[(test,yes,no)]).length:Int) - 1) (Hy++[(test,yes,no)]) (put w1e (test,yes,no) (↑Hy.length:Int)) y0h))))))) (K (-1002:Int) Je z79 j2n)) (K (-1002:Int) Qz q3v q7i)))
def Qv:H2:=q8f W0 Zj
abbrev Jq:Type:=List (Nd)->(Nd->Option (Int))->Bool->Int->Int->Int->(A3->Option (Int))->(Int->List (Nd)->(Nd->Option (Int))->Bool->(A3->Option (Int))->Prop)->Prop
def Z4(Zk:Up)(q6k:q0a)(q9m:H2)(X:Jq):Jq:=fun ns ids full f g h known K=>Cnd (f=(-2:Int)) (K g ns ids full known) (Cnd (g=h) (K g ns ids full known) (Cnd (f=(-1:Int)) (K h ns ids full known) (Cnd ((known (f,g,h)).isSome=true) (K ((known (f,g,h)).getD (0:Int)) ns ids full known) (Zk ns ids full f fun Qa (Qz:List (Int×Int×Int)) q3v q7i=>Zk Qz q3v q7i g fun Qc (Je:List (Int×Int×Int)) z79 j2n=>Zk Je z79 j2n h fun Qj (Zl:List (Int×Int×Int)) q77 w0b=>q6k Zl q77 w0b f (Min.min (Min.min Qa Qc) Qj) fun Ql Hy (u3g:List (Int×Int×Int)) u3h u3i=>q6k u3g u3h u3i g (Min.min (Min.min Qa Qc) Qj) fun Qu Wd (j2f:List (Int×Int×Int)) y8d u2g=>q6k j2f y8d u2g h (Min.min (Min.min Qa Qc) Qj) fun Qk z1a (u2h:List (Int×Int×Int)) y7x u3j=>X u2h y7x u3j Ql Qu Qk known fun Zu (z09:List (Int×Int×Int)) y0i w5y u3k=>X z09 y0i w5y Hy Wd z1a u3k fun Wk (z98:List (Int×Int×Int)) y4s y3m u3l=>Jn4 (fun Wr (w80:List (Int×Int×Int)) u3m u2i=>K Wr w80 u2i u3m (put u3l (f,g,h) Wr)) fun y3k=>Cnd (Zu=(-1002:Int)) (y3k (-1002:Int) z98 y3m y4s) (Cnd (Wk=(-1002:Int)) (y3k (-1002:Int) z98 y3m y4s) (q9m z98 y4s y3m (Min.min (Min.min Qa Qc) Qj) Zu Wk fun Wo (z18:List (Int×Int×Int)) v5t y4t=>y3k Wo z18 y4t v5t))))))
def Zo:Jq:=fun ns ids full f g h known K=> ∀X:Jq,(∀ns ids full f g h known K,Z4 Zj Zd Qv X ns ids full f g h known K->X ns ids full f g h known K)->X ns ids full f g h known K
abbrev Z5:Type:=List (Nd)->(Nd->Option (Int))->Bool->Int->Int->Int->(Int->List (Nd)->(Nd->Option (Int))->Bool->Prop)->Prop
def q3z(Qp:Zb)(Qx:Wg)(Bf:Jq):Z5:=fun ns ids full f g h K=>Qp ns ids full f fun Qa (Qz:List (Int×Int×Int)) q3v q7i=>Cnd (Qa=true) (Qx Qz q3v q7i g fun Qc (Je:List (Int×Int×Int)) z79 j2n=>Cnd (Qc=true) (Qx Je z79 j2n h fun Qj (Zl:List (Int×Int×Int)) q77 w0b=>Cnd (Qj=true) (Bf Zl q77 w0b f g h (fun _=>none) fun Ql (Hy:List (Int×Int×Int)) w1e y0h u3v=>K Ql Hy w1e y0h) (K (-1002:Int) Zl q77 w0b)) (K (-1002:Int) Je z79 j2n)) (K (-1002:Int) Qz q3v q7i)
def Jr:Z5:=q3z Zr W0 Zo
abbrev q4v:Type:=List (Nd)->(Nd->Option (Int))->Bool->Int->(Int->List (Nd)->(Nd->Option (Int))->Bool->Prop)->Prop
def z0p(Q0:Z5):q4v:=fun ns ids full f K=>Q0 ns ids full f (-1:Int) (-2:Int) fun Qa (Qz:List (Int×Int×Int)) q3v q7i=>K Qa Qz q3v q7i
def Jg:q4v:=z0p Jr
abbrev q4w:Type:=List (Nd)->(Nd->Option (Int))->Bool->Int->Int->(Int->List (Nd)->(Nd->Option (Int))->Bool->Prop)->Prop
def z0q(Qp:Zb)(Q0:Z5):q4w:=fun ns ids full f g K=>Qp ns ids full g fun Qa (Qz:List (Int×Int×Int)) q3v q7i=>Cnd (Qa=true) (Q0 Qz q3v q7i f g (-1:Int) fun Qc (Je:List (Int×Int×Int)) z79 j2n=>K Qc Je z79 j2n) (K (-1002:Int) Qz q3v q7i)
def Jh:q4w:=z0q Zr Jr
abbrev Ry:Type:=List (Nd)->(Nd->Option (Int))->Bool->Int->Int->(Int->List (Nd)->(Nd->Option (Int))->Bool->Prop)->Prop
def z2l(Qp:Zb)(Q0:Z5):Ry:=fun ns ids full f g K=>Qp ns ids full g fun Qa (Qz:List (Int×Int×Int)) q3v q7i=>Cnd (Qa=true) (Q0 Qz q3v q7i f (-2:Int) g fun Qc (Je:List (Int×Int×Int)) z79 j2n=>K Qc Je z79 j2n) (K (-1002:Int) Qz q3v q7i)
def Jn:Ry:=z2l Zr Jr
abbrev Wl:Type:=List (Nd)->(Nd->Option (Int))->Bool->List (Ex)->Ex->(Int->List (Nd)->(Nd->Option (Int))->Bool->Prop)->Prop
def Vk(w1f:q4v)(w1g:q4w)(Bg:Ry)(z36:q8e)(q9m:H2)(X:Wl):Wl:=fun ns ids full atoms e K=>Cnd (e.1=1) (K (-2:Int) ns ids full) (Cnd (e.1=4) (((0:Int)<=(0:Int)/\(0:Int)<(↑e.5.length:Int))/\ ∀y0,e.5[Int.toNat (0:Int)]? =some y0->X ns ids full atoms (Ex.mk y0.1 y0.2 y0.3 y0.4 y0.5) fun Qj (Zl:List (Int×Int×Int)) q77 w0b=>w1f Zl q77 w0b Qj fun Ql (Hy:List (Int×Int×Int)) w1e y0h=>K Ql Hy w1e y0h) (Jn1 (fun Qa=>Cnd (Qa=true) (((0:Int)<=(0:Int)/\(0:Int)<(↑e.5.length:Int))/\ ∀y1,e.5[Int.toNat (0:Int)]? =some y1->X ns ids full atoms (Ex.mk y1.1 y1.2 y1.3 y1.4 y1.5) fun Ql (Hy:List (Int×Int×Int)) w1e y0h=>Lp5 (fun Qu Wd (j2f:List (Int×Int×Int)) y0j u0x u0y=>Fits e.5->CAt e.5 Wd (fun y6=>X j2f u0x y0j atoms (Ex.mk y6.1 y6.2 y6.3 y6.4 y6.5) fun Wr (w80:List (Int×Int×Int)) u0z u29=>Cnd (e.1=2) (w1g w80 u0z u29 Qu Wr fun Wo (z18:List (Int×Int×Int)) v5t y4t=>InI (Wd+1)/\u0y Wo (Wd+1) z18 y4t v5t) (Bg w80 u0z u29 Qu Wr fun Wo (z18:List (Int×Int×Int)) v5t y4t=>InI (Wd+1)/\u0y Wo (Wd+1) z18 y4t v5t)) (K Qu j2f u0x y0j)) Ql (1:Int) Hy y0h w1e) (z36 atoms (Ex.mk e.1 e.2 e.3 e.4 e.5) fun Qc=>Cnd (Qc<0) (K (-1002:Int) ns ids full) (q9m ns ids full Qc (-2:Int) (-1:Int) fun Qj (Zl:List (Int×Int×Int)) q77 w0b=>K Qj Zl q77 w0b))) fun q48=>Cnd (e.1=2) (q48 (decide (e.1=2))) (q48 (decide (e.1=3)))))
def Ji:Wl:=fun ns ids full atoms e K=> ∀X:Wl,(∀ns ids full atoms e K,Vk Jg Jh Jn Zt Qv X ns ids full atoms e K->X ns ids full atoms e K)->X ns ids full atoms e K
abbrev J8:Type:=List (Rul)->(List (Int)->Int->Bool->Prop)->Prop
def Rz(j2g:j0x)(q3h:H1)(q3i:Wl)(Bg:Ry):J8:=fun l K=>j2g fun (Qa:List (Int×Int×Int)) q9l j0a=>q3h l fun Qc=>LpH (fun Qj j4l=>Fits l->CAt l Qj.2.2.1 (fun y4=>q3i Qj.2.2.2.1 Qj.2.2.2.2.2.1 Qj.2.2.2.2.1 Qc (Ex.mk y4.2.1 y4.2.2 y4.2.3 y4.2.4 y4.2.5) fun Zu (z09:List (Int×Int×Int)) y0i w5y=>Bg z09 y0i w5y Qj.1 Zu fun Wk (z98:List (Int×Int×Int)) y4s y3m=>Cnd (Wk=(-1002:Int)) (Fits z98->K [] (↑z98.length:Int) false) (Cnd (Wk=Qj.1) (InI (Qj.2.2.1+1)/\Sml (Qj.2.1++[Qj.2.2.1+1]).length/\InI (Qj.2.2.1+1)/\j4l (Wk,Qj.2.1++[Qj.2.2.1+1],Qj.2.2.1+1,z98,y3m,y4s,())) (InI (Qj.2.2.1+1)/\j4l (Wk,Qj.2.1,Qj.2.2.1+1,z98,y3m,y4s,())))) (Fits Qj.2.2.2.1->K Qj.2.1 (↑Qj.2.2.2.1.length:Int) true)) ((-1:Int),[],(0:Int),Qa,j0a,q9l,())
def Zp:J8:=Rz j0y Uz Ji Jn
abbrev z47:Type:=List (Int)->Int->ByteArray->(Lay_->Int->Prop)->Prop
def j70(Wq:q1p)(Qb:Zi)(W5:q6t):z47:=fun list at_ key K=>Wq list at_ fun Qa Qz=>Qb list Qz (3:Int) fun Qc Je=>InI (Qc*50)/\Jn2 (fun Qj Zl=>Jn2 (fun Ql Hy=>Lp4 (fun Qu Wd j2f y0j u0x=>Qb list y0j (3:Int) fun Qk z1a=>Cnd (Wd<Qk) (W5 list z1a (3000:Int) fun Zu z09=>InI (Qu+Zu)/\InI (Qu+Zu+1)/\W5 list z09 (2000:Int) fun Wk z98=>InI (Qu+Zu+1+Wk)/\Cnd ((10000:Int)<Qu+Zu+1+Wk) (K (Lay_.mk key Qj Qa Ql (Qc*50) j2f) z98) (Qb list z98 (200:Int) fun Wr w80=>Sml (j2f++[Col.mk (Qu+Zu) (Qu+Zu+1+Wk) Wr]).length/\InI (Wd+1)/\u0x (Qu+Zu+1+Wk) (Wd+1) (j2f++[Col.mk (Qu+Zu) (Qu+Zu+1+Wk) Wr]) w80)) (K (Lay_.mk key Qj Qa Ql (Qc*50) j2f) z1a)) (0:Int) (0:Int) [] Hy) fun v99=>Qb list Zl (2:Int) fun Qu Wd=>Cnd (Qu=1) (W5 list Wd (3000:Int) fun Qk z1a=>v99 Qk z1a) (v99 (0:Int) Wd)) fun w8z=>Qb list Je (4:Int) fun Ql Hy=>Cnd (Ql=1) (w8z (B8 [100,101,118,105,99,101]) Hy) (w8z (B8 [117,115,101,114]) Hy)
def j00:z47:=j70 z2i Wf z6y
abbrev z62:Type:=Int->(Bool->Prop)->Prop
def z63:z62:=fun now K=>Cnd ((0:Int)<=now) (K (decide (now<=1099511627776))) (K false)
abbrev V3:Type:=Envt->ByteArray->(Int->Prop)->Prop
def q1w:V3:=fun v key K=>Lp1 (fun Qa q9l=>Fits v.5->CAt v.5 Qa (fun y2=>Cnd (y2.1=key) (K Qa) (InI (Qa+1)/\q9l (Qa+1))) (K (-1:Int))) (0:Int)
abbrev q1x:Type:=List (Col)->Int->(List (Int)->Prop)->Prop
def q1y:q1x:=fun l now K=>((0:Int)<=(10000:Int)/\(10000:Int)<=(10000:Int)/\Sml (Int.toNat (10000:Int)))/\Lp2 (fun Qa Qz q3v=>Fits Qz->CAt Qz Qa (fun _=>InI (Qa+1)/\q3v (Qa+1) (Qz.set Qa.toNat now)) (Lp2 (fun Qj Zl q77=>Fits l->CAt l Qj (fun y4=>Lp2 (fun Zu z09 y0i=>At l Qj fun y7=>Cnd (Zu<Min.min y7.2 (10000:Int)) (At z09 Zu fun y9=>At l Qj fun y11=>At z09 Zu fun _=>InI (Zu+1)/\y0i (Zu+1) (z09.set Zu.toNat (Max.max y9 y11.3))) (InI (Qj+1)/\q77 (Qj+1) z09)) (Max.max y4.1 (0:Int)) Zl) (K Zl)) (0:Int) Qz)) (0:Int) (List.replicate (Int.toNat (10000:Int)) (0:Int))
abbrev Wv:Type:=List (Bool)->(List (Spn)->Prop)->Prop
def Uq:Wv:=fun set_ K=>Lp2 (fun Qa Qz q3v=>Fits set_->CAt set_ Qz (fun y2=>Cnd (y2=true) (Cnd ((0:Int)<Qz) (InI (Qz - 1)/\((0:Int)<=Qz - 1/\Qz - 1<(↑set_.length:Int))/\ ∀y4,set_[(Qz - 1).toNat]? =some y4->Cnd (y4=true) (Fits Qa->InI ((↑Qa.length:Int) - 1)/\InI (Qz+1)/\((0:Int)<=(↑Qa.length:Int) - 1/\(↑Qa.length:Int) - 1<(↑Qa.length:Int))/\ ∀y7,Qa[((↑Qa.length:Int) - 1).toNat]? =some y7->InI (Qz+1)/\q3v (Qa.set ((↑Qa.length:Int) - 1).toNat (Spn.mk y7.1 (Qz+1))) (Qz+1)) (InI (Qz+1)/\Sml (Qa++[Spn.mk Qz (Qz+1)]).length/\InI (Qz+1)/\q3v (Qa++[Spn.mk Qz (Qz+1)]) (Qz+1))) (InI (Qz+1)/\Sml (Qa++[Spn.mk Qz (Qz+1)]).length/\InI (Qz+1)/\q3v (Qa++[Spn.mk Qz (Qz+1)]) (Qz+1))) (InI (Qz+1)/\q3v Qa (Qz+1))) (K Qa)) [] (0:Int)
abbrev q8g:Type:=List (Int)->Int->(List (Spn)->Prop)->Prop
def z84(Q2:Wv):q8g:=fun until_ now K=>Fits until_->((0:Int)<=(↑until_.length:Int)/\(↑until_.length:Int)<=(↑until_.length:Int)/\Sml (↑until_.length:Int).toNat)/\Lp2 (fun Qc Je z79=>Fits until_->CAt until_ Qc (fun y3=>At Je Qc fun _=>InI (Qc+1)/\z79 (Qc+1) (Je.set Qc.toNat (decide (now<y3)))) (Q2 Je fun Ql=>K Ql)) (0:Int) (List.replicate (↑until_.length:Int).toNat false)
def z2m:q8g:=z84 Uq
abbrev B1:Type:=List (Spn)->(List (Bool)->Prop)->Prop
def q1z:B1:=fun l K=>((0:Int)<=(10000:Int)/\(10000:Int)<=(10000:Int)/\Sml (Int.toNat (10000:Int)))/\Lp2 (fun Qa Qz q3v=>Fits l->CAt l Qa (fun y2=>Lp2 (fun Qu Wd v3i=>At l Qa fun y5=>Cnd (Qu<Min.min y5.2 (10000:Int)) (At Wd Qu fun _=>InI (Qu+1)/\v3i (Qu+1) (Wd.set Qu.toNat true)) (InI (Qa+1)/\q3v (Qa+1) Wd)) (Max.max y2.1 (0:Int)) Qz) (K Qz)) (0:Int) (List.replicate (Int.toNat (10000:Int)) false)
abbrev q8h:Type:=List (Spn)->List (Spn)->(List (Spn)->Prop)->Prop
def z86(Jb:B1)(Q2:Wv):q8h:=fun a b K=>Jb a fun Qa=>Jb b fun Qc=>Lp2 (fun Qj Zl q77=>Fits Zl->CAt Zl Qj (fun y4=>Cnd (y4=true) (At Zl Qj fun _=>InI (Qj+1)/\q77 (Qj+1) (Zl.set Qj.toNat true)) (At Qc Qj fun y6=>At Zl Qj fun _=>InI (Qj+1)/\q77 (Qj+1) (Zl.set Qj.toNat y6))) (Q2 Zl fun Qu=>K Qu)) (0:Int) Qa
def z2n:q8h:=z86 q1z Uq
abbrev q8i:Type:=Envt->ByteArray->ByteArray->Int->(List (Spn)->Prop)->Prop
def z87(Zw:V3)(q09:q8h)(Rq:q1x)(q4s:q8g):q8i:=fun v layer but now K=>Zw (Envt.mk (Sett.mk v.1.1 v.1.2 v.1.3) v.2 v.3 v.4 v.5 v.6) layer fun Qa=>Cnd (Qa<0) (K []) (Jn1 (fun Qc=>Lp2 (fun Qj Zl q77=>Fits v.6->CAt v.6 Zl (fun y4=>Cnd (y4.2=layer) (Cnd (y4.1=but) (InI (Zl+1)/\q77 Qj (Zl+1)) (Cnd (y4.5=3) (InI (Zl+1)/\q77 Qj (Zl+1)) (q09 Qj y4.6 fun Zu=>InI (Zl+1)/\q77 Zu (Zl+1)))) (InI (Zl+1)/\q77 Qj (Zl+1))) (K Qj)) Qc (0:Int)) fun j6z=>At v.5 Qa fun y2=>At v.5 Qa fun y4=>(Rq y4.6 now fun Zu=>q4s Zu now fun Wk=>q09 [Spn.mk (0:Int) y2.4] Wk fun Wr=>j6z Wr)/\Rq y4.6 now fun Zu=>(q4s Zu now fun Wk=>q09 [Spn.mk (0:Int) y2.4] Wk fun Wr=>j6z Wr)/\q4s Zu now fun Wk=>q09 [Spn.mk (0:Int) y2.4] Wk fun Wr=>j6z Wr)
def z2o:q8i:=z87 q1w z2n q1y z2m
abbrev q0t:Type:=List (Spn)->List (Spn)->(List (Spn)->Prop)->Prop
def z88(Jb:B1)(Q2:Wv):q0t:=fun a b K=>Jb a fun Qa=>Jb b fun Qc=>Lp2 (fun Qj Zl q77=>Fits Zl->CAt Zl Qj (fun y4=>Cnd (y4=true) (At Qc Qj fun y6=>At Zl Qj fun _=>InI (Qj+1)/\q77 (Qj+1) (Zl.set Qj.toNat (match decide ((flC C.bool y6).1=true) with|true=>false|false=>true))) (At Zl Qj fun _=>InI (Qj+1)/\q77 (Qj+1) (Zl.set Qj.toNat false))) (Q2 Zl fun Qu=>K Qu)) (0:Int) Qa
def q8j:q0t:=z88 q1z Uq
abbrev z1j:Type:=Envt->ByteArray->Int->(List (Spn)->Int->Prop)->Prop
def j27(z7q:z62)(Zw:V3)(z38:q8i)(G3:q0t):z1j:=fun v layer now K=>z7q now fun Qa=>Cnd (Qa=true) (Zw (Envt.mk (Sett.mk v.1.1 v.1.2 v.1.3) v.2 v.3 v.4 v.5 v.6) layer fun Qc=>Cnd (Qc<0) (K [] (11:Int)) (z38 (Envt.mk (Sett.mk v.1.1 v.1.2 v.1.3) v.2 v.3 v.4 v.5 v.6) layer (B8 []) now fun Qj=>G3 [Spn.mk (0:Int) (10000:Int)] Qj fun Ql=>K Ql (0:Int))) (K [] (3:Int))
def z64:z1j:=j27 z63 q1w z2o q8j
abbrev q8k:Type:=List (Spn)->Int->(List (Spn)->Prop)->Prop
def z89(Jb:B1)(Q2:Wv):q8k:=fun l n K=>Jb l fun Qa=>Lp3 (fun Qc Je z99 v98=>Fits z99->CAt z99 Je (fun y3=>Cnd (y3=true) (Cnd (Qc<=0) (At z99 Je fun _=>InI (Je+1)/\v98 Qc (Je+1) (z99.set Je.toNat false)) (At z99 Je fun y5=>Cnd (y5=true) (InI (Qc - 1)/\InI (Je+1)/\v98 (Qc - 1) (Je+1) z99) (InI (Je+1)/\v98 Qc (Je+1) z99))) (At z99 Je fun y5=>Cnd (y5=true) (InI (Qc - 1)/\InI (Je+1)/\v98 (Qc - 1) (Je+1) z99) (InI (Je+1)/\v98 Qc (Je+1) z99))) (Q2 z99 fun Ql=>K Ql)) n (0:Int) Qa
def z2p:q8k:=z89 q1z Uq
abbrev V4:Type:=ByteArray->(Bool->Prop)->Prop
def Jy(s:ByteArray)(K:Bool->Prop):Prop:=s.size<=(9223372036854775807:Nat)/\K (Go.Lib.validD s.data.toList)
abbrev Js:Type:=ByteArray->(Bool->Prop)->Prop
def z65(Zx:V4):Js:=fun s K=>Cnd ((200:Int)<(↑s.size:Int)) (K false) (Zx s fun Qa=>Cnd (Qa=true) (Lp1 (fun Qc Bh=>Cnd (Qc<(↑s.size:Int)) (((0:Int)<=Qc/\Qc<(↑s.size:Int))/\ ∀b2,s[Qc.toNat]? =some b2->Cnd ((↑b2.toNat:Int)<32) (K false) (((0:Int)<=Qc/\Qc<(↑s.size:Int))/\ ∀b4,s[Qc.toNat]? =some b4->Cnd ((↑b4.toNat:Int)=127) (K false) (InI (Qc+1)/\Bh (Qc+1)))) (K true)) (0:Int)) (K false))
def Vw:Js:=z65 Jy
abbrev j01:Type:=ByteArray->(Bool->Prop)->Prop
def z1k:j01:=fun s K=>Lp1 (fun Qa q9l=>Cnd (Qa<(↑s.size:Int)) (((0:Int)<=Qa/\Qa<(↑s.size:Int))/\ ∀b1,s[Qa.toNat]? =some b1->Cnd ((97:Int)<=(↑b1.toNat:Int)) (Cnd ((↑b1.toNat:Int)<=122) (InI (Qa+1)/\q9l (Qa+1)) (Cnd (Qa=0) (K false) (Cnd ((48:Int)<=(↑b1.toNat:Int)) (Cnd ((↑b1.toNat:Int)<=57) (InI (Qa+1)/\q9l (Qa+1)) (Cnd ((↑b1.toNat:Int)=45) (InI (Qa+1)/\q9l (Qa+1)) (Cnd ((↑b1.toNat:Int)=95) (InI (Qa+1)/\q9l (Qa+1)) (K false)))) (Cnd ((↑b1.toNat:Int)=45) (InI (Qa+1)/\q9l (Qa+1)) (Cnd ((↑b1.toNat:Int)=95) (InI (Qa+1)/\q9l (Qa+1)) (K false)))))) (Cnd (Qa=0) (K false) (Cnd ((48:Int)<=(↑b1.toNat:Int)) (Cnd ((↑b1.toNat:Int)<=57) (InI (Qa+1)/\q9l (Qa+1)) (Cnd ((↑b1.toNat:Int)=45) (InI (Qa+1)/\q9l (Qa+1)) (Cnd ((↑b1.toNat:Int)=95) (InI (Qa+1)/\q9l (Qa+1)) (K false)))) (Cnd ((↑b1.toNat:Int)=45) (InI (Qa+1)/\q9l (Qa+1)) (Cnd ((↑b1.toNat:Int)=95) (InI (Qa+1)/\q9l (Qa+1)) (K false)))))) (K (decide ((0:Int)<(↑s.size:Int))))) (0:Int)
abbrev q6v:Type:=(List (ByteArray)->Prop)->Prop
def R0:q6v:=fun K=>K [B8 [97,110,100],B8 [97,114,109,115],B8 [97,116,116,114,105,98,117,116,101],B8 [98,111,111,108],B8 [99,108,97,105,109,115],B8 [99,111,110,116,97,105,110,115],B8 [99,111,111,108],B8 [99,111,111,108,105,110,103],B8 [100,101,102,97,117,108,116],B8 [100,114,97,102,116],B8 [101,110,100,115],B8 [101,120,99,108,117,100,101],B8 [101,120,105,115,116,115],B8 [101,120,112,101,114,105,109,101,110,116],B8 [102,97,108,115,101],B8 [102,108,97,103],B8 [104,111,108,100,111,117,116],B8 [105,110],B8 [105,110,99,108,117,100,101],B8 [105,115],B8 [108,97,121,101,114],B8 [108,105,115,116],B8 [109,101,109,98,101,114],B8 [110,101,101,100,115],B8 [110,111,116],B8 [110,117,109,98,101,114],B8 [111,102,102],B8 [111,110],B8 [111,114],B8 [114,117,108,101],B8 [114,117,110,110,105,110,103],B8 [115,97,108,116],B8 [115,101,103,109,101,110,116],B8 [115,101,114,118,101],B8 [115,101,116,116,105,110,103,115],B8 [115,112,108,105,116],B8 [115,116,97,114,116,115],B8 [115,116,111,112,112,101,100],B8 [116,97,114,103,101,116],B8 [116,101,120,116],B8 [116,111],B8 [116,114,117,101],B8 [117,110,116,105,108],B8 [118,97,114,105,97,116,105,111,110,115],B8 [118,101,114,115,105,111,110],B8 [119,104,101,110]]
abbrev Jo:Type:=ByteArray->(Bool->Prop)->Prop
def j6o(j2h:j01)(q7k:q6v):Jo:=fun s K=>j2h s fun Qa=>Cnd (Qa=true) (Cnd ((32:Int)<(↑s.size:Int)) (K false) (q7k fun Qc=>Lp1 (fun Qj j4l=>Fits Qc->CAt Qc Qj (fun y4=>Cnd (y4=s) (K false) (InI (Qj+1)/\j4l (Qj+1))) (K true)) (0:Int))) (K false)
def Ut:Jo:=j6o z1k R0
abbrev q13:Type:=Sett->(Int->Prop)->Prop
def q6w(Qr:Js)(Qh:Jo):q13:=fun s K=>Qr s.1 fun Qa=>Cnd (Qa=true) (Cnd (s.3<0) (K (3:Int)) (Cnd ((10000:Int)<s.3) (K (3:Int)) (Qh s.2 fun Qc=>Cnd (Qc=true) (K (0:Int)) (Cnd (s.2=B8 []) (Cnd (s.3=0) (K (0:Int)) (K (6:Int))) (K (6:Int)))))) (K (2:Int))
def V5:q13:=q6w Vw Ut
abbrev q14:Type:=List (Decl)->(Int->Prop)->Prop
def q6x(Qh:Jo):q14:=fun l K=>Fits l->Cnd ((30:Int)<(↑l.length:Int)) (K (5:Int)) (Lp1 (fun Qc Bh=>Fits l->CAt l Qc (fun y3=>Qh y3.1 fun Qk=>Cnd (Qk=true) (At l Qc fun y6=>Qh y6.2 fun Wr=>Cnd (Wr=true) (At l Qc fun y9=>Cnd (y9.2=B8 [107,101,121]) (K (6:Int)) (At l Qc fun y11=>Cnd (y11.3<1) (K (7:Int)) (At l Qc fun y13=>Cnd ((5:Int)<y13.3) (K (7:Int)) (Cnd ((0:Int)<Qc) (At l Qc fun y15=>InI (Qc - 1)/\((0:Int)<=Qc - 1/\Qc - 1<(↑l.length:Int))/\ ∀y17,l[(Qc - 1).toNat]? =some y17->Cnd (Lk.blt y15.1 y17.1) (K (9:Int)) (At l Qc fun y19=>InI (Qc - 1)/\((0:Int)<=Qc - 1/\Qc - 1<(↑l.length:Int))/\ ∀y21,l[(Qc - 1).toNat]? =some y21->Cnd (y19.1=y21.1) (At l Qc fun y23=>InI (Qc - 1)/\((0:Int)<=Qc - 1/\Qc - 1<(↑l.length:Int))/\ ∀y25,l[(Qc - 1).toNat]? =some y25->Cnd (Lk.blt y25.2 y23.2) (InI (Qc+1)/\Bh (Qc+1)) (K (9:Int))) (InI (Qc+1)/\Bh (Qc+1)))) (InI (Qc+1)/\Bh (Qc+1)))))) (K (6:Int))) (K (6:Int))) (K (0:Int))) (0:Int))
def V6:q14:=q6x Ut
abbrev H3:Type:=List (ByteArray)->(Int->Prop)->Prop
def q9u(Qr:Js):H3:=fun l K=>Fits l->Cnd ((40:Int)<(↑l.length:Int)) (K (5:Int)) (Lp1 (fun Qc Bh=>Fits l->CAt l Qc (fun y3=>Cnd (y3=B8 []) (K (2:Int)) (At l Qc fun y5=>Qr y5 fun Wk=>Cnd (Wk=true) (Cnd ((0:Int)<Qc) (At l Qc fun y8=>InI (Qc - 1)/\((0:Int)<=Qc - 1/\Qc - 1<(↑l.length:Int))/\ ∀y10,l[(Qc - 1).toNat]? =some y10->Cnd (Lk.blt y10 y8) (InI (Qc+1)/\Bh (Qc+1)) (K (9:Int))) (InI (Qc+1)/\Bh (Qc+1))) (K (2:Int)))) (K (0:Int))) (0:Int))
def H4:H3:=q9u Vw
abbrev j02:Type:=Ex->(Bool->Prop)->Prop
def z1l:j02:=fun e K=>Cnd (e.1=0) (Cnd (e.2=B8 []) (Cnd (e.3=B8 []) (Fits e.4->Cnd ((↑e.4.length:Int)=0) (Fits e.5->K (decide ((↑e.5.length:Int)=0))) (K false)) (K false)) (K false)) (K false)
abbrev q8l:Type:=Ex->(Bool->Prop)->Prop
def z2q(Z3:H0):q8l:=fun e K=>Fits e.5->Fits e.4->Jn2 (fun Qj Zl=>Z3 e.1 fun Ql=>Cnd (Qj=true) (Cnd (Zl=true) (Cnd (Ql=true) (Cnd (Ql=true) (K true) (Cnd (e.1=5) (K true) (K (decide (e.3=B8 []))))) (Cnd (e.2=B8 []) (Cnd (Ql=true) (K true) (Cnd (e.1=5) (K true) (K (decide (e.3=B8 []))))) (K false))) (K false)) (K false)) fun w8z=>Cnd (e.1=2) (Fits e.5->w8z (decide ((2:Int)<=(↑e.5.length:Int))) (decide ((↑e.4.length:Int)=0))) (Cnd (e.1=3) (Fits e.5->w8z (decide ((2:Int)<=(↑e.5.length:Int))) (decide ((↑e.4.length:Int)=0))) (Cnd (e.1=4) (Fits e.5->w8z (decide ((↑e.5.length:Int)=1)) (decide ((↑e.4.length:Int)=0))) (Cnd (e.1=8) (Fits e.4->w8z (decide ((↑e.5.length:Int)=0)) (decide ((0:Int)<(↑e.4.length:Int)))) (Z3 e.1 fun Ql=>Cnd (Ql=true) (Cnd (e.1=6) (w8z (decide ((↑e.5.length:Int)=0)) (decide ((↑e.4.length:Int)=0))) (Fits e.4->w8z (decide ((↑e.5.length:Int)=0)) (decide ((↑e.4.length:Int)=1)))) (w8z (decide ((↑e.5.length:Int)=0)) (decide ((↑e.4.length:Int)=0)))))))
def q30:q8l:=z2q Zg
abbrev z66:Type:=Val->(Bool->Prop)->Prop
def q7y:z66:=fun v K=>Cnd (v.1=1) (Cnd (v.1=3) (Cnd (v.1=5) (K true) (Fits v.4->K (decide ((↑v.4.length:Int)=0)))) (Cnd (v.1=4) (Cnd (v.1=5) (K true) (Fits v.4->K (decide ((↑v.4.length:Int)=0)))) (Cnd (v.3=B8 []) (Cnd (v.1=5) (K true) (Fits v.4->K (decide ((↑v.4.length:Int)=0)))) (K false)))) (Cnd (v.1=3) (Cnd (v.1=2) (Cnd (v.1=5) (K true) (Fits v.4->K (decide ((↑v.4.length:Int)=0)))) (Cnd (v.2=0) (Cnd (v.1=5) (K true) (Fits v.4->K (decide ((↑v.4.length:Int)=0)))) (K false))) (Cnd (v.1=2) (Cnd (v.1=4) (Cnd (v.1=5) (K true) (Fits v.4->K (decide ((↑v.4.length:Int)=0)))) (Cnd (v.3=B8 []) (Cnd (v.1=5) (K true) (Fits v.4->K (decide ((↑v.4.length:Int)=0)))) (K false))) (Cnd (v.2=0) (Cnd (v.1=4) (Cnd (v.1=5) (K true) (Fits v.4->K (decide ((↑v.4.length:Int)=0)))) (Cnd (v.3=B8 []) (Cnd (v.1=5) (K true) (Fits v.4->K (decide ((↑v.4.length:Int)=0)))) (K false))) (K false))))
abbrev q0b:Type:=ByteArray->(Int->Int->Prop)->Prop
def Vx:q0b:=fun s K=>Jn1 (fun Qa=>Lp1 (fun Qc Bh=>Cnd (Qc<(↑Qa.size:Int)) (((0:Int)<=Qc/\Qc<(↑Qa.size:Int))/\ ∀b2,Qa[Qc.toNat]? =some b2->Cnd ((↑b2.toNat:Int)<48) (K (0:Int) (1:Int)) (((0:Int)<=Qc/\Qc<(↑Qa.size:Int))/\ ∀b4,Qa[Qc.toNat]? =some b4->Cnd ((57:Int)<(↑b4.toNat:Int)) (K (0:Int) (1:Int)) (InI (Qc+1)/\Bh (Qc+1)))) (Cnd (Qa=B8 []) (K (0:Int) (1:Int)) (((0:Int)<=(0:Int)/\(0:Int)<(↑Qa.size:Int))/\ ∀b2,Qa[Int.toNat (0:Int)]? =some b2->Cnd ((↑b2.toNat:Int)=48) (Cnd (s=B8 [48]) (Cnd ((13:Int)<(↑Qa.size:Int)) (K (0:Int) (3:Int)) (Lp2 (fun Qu Wd v3i=>Cnd (Wd<(↑Qa.size:Int)) (InI ((10:Int)*Qu)/\((0:Int)<=Wd/\Wd<(↑Qa.size:Int))/\ ∀b5,Qa[Wd.toNat]? =some b5->InI (Go.IntKind.u8.wrap ((↑b5.toNat:Int) - 48))/\InI ((10:Int)*Qu+Go.IntKind.u8.wrap ((↑b5.toNat:Int) - 48))/\InI (Wd+1)/\v3i ((10:Int)*Qu+Go.IntKind.u8.wrap ((↑b5.toNat:Int) - 48)) (Wd+1)) (Cnd ((1099511627776:Int)<Qu) (K (0:Int) (3:Int)) (Cnd ((↑Qa.size:Int)<(↑s.size:Int)) (InI ((0:Int) - Qu)/\K ((0:Int) - Qu) (0:Int)) (K Qu (0:Int))))) (0:Int) (0:Int))) (K (0:Int) (1:Int))) (Cnd ((13:Int)<(↑Qa.size:Int)) (K (0:Int) (3:Int)) (Lp2 (fun Qu Wd v3i=>Cnd (Wd<(↑Qa.size:Int)) (InI ((10:Int)*Qu)/\((0:Int)<=Wd/\Wd<(↑Qa.size:Int))/\ ∀b5,Qa[Wd.toNat]? =some b5->InI (Go.IntKind.u8.wrap ((↑b5.toNat:Int) - 48))/\InI ((10:Int)*Qu+Go.IntKind.u8.wrap ((↑b5.toNat:Int) - 48))/\InI (Wd+1)/\v3i ((10:Int)*Qu+Go.IntKind.u8.wrap ((↑b5.toNat:Int) - 48)) (Wd+1)) (Cnd ((1099511627776:Int)<Qu) (K (0:Int) (3:Int)) (Cnd ((↑Qa.size:Int)<(↑s.size:Int)) (InI ((0:Int) - Qu)/\K ((0:Int) - Qu) (0:Int)) (K Qu (0:Int))))) (0:Int) (0:Int)))))) (0:Int)) fun q48=>Cnd ((0:Int)<(↑s.size:Int)) (((0:Int)<=(0:Int)/\(0:Int)<(↑s.size:Int))/\ ∀b1,s[Int.toNat (0:Int)]? =some b1->Cnd ((↑b1.toNat:Int)=45) (((0:Int)<=(1:Int)/\(1:Int)<=(↑s.size:Int)/\(↑s.size:Int)<=(↑s.size:Int))/\q48 (s.extract (Int.toNat (1:Int)) (↑s.size:Int).toNat)) (q48 s)) (q48 s)
abbrev z1m:Type:=ByteArray->(A3->Bool->Prop)->Prop
def z67(Hi:q0b):z1m:=fun s K=>LpH (fun (Qa:Int×Int×Int×Int×Int×Int×Int×Int×Unit) q9l=>Cnd (Qa.2.1<3) (Lp1 (fun Qc Bh=>Cnd (Qc<(↑s.size:Int)) (((0:Int)<=Qc/\Qc<(↑s.size:Int))/\ ∀b2,s[Qc.toNat]? =some b2->Cnd ((↑b2.toNat:Int)=46) (((0:Int)<=Qa.1/\Qa.1<=Qc/\Qc<=(↑s.size:Int))/\Hi (s.extract Qa.1.toNat Qc.toNat) fun Qu Wd=>Cnd (Wd=0) (Cnd (Qu<0) (K ((0:Int),(0:Int),(0:Int)) false) (Cnd ((999999:Int)<Qu) (K ((0:Int),(0:Int),(0:Int)) false) (Cnd (decide (Qa.2.1<2)=decide (Qc<(↑s.size:Int))) (((0:Int)<=Qa.2.1/\Qa.2.1<(↑(3:Nat):Int))/\((True/\(Qa.2.1=(↑(nat_lit 0):Int)->InI (Qc+1)/\InI (Qa.2.1+1)/\q9l (Qc+1,Qa.2.1+1,Qu,Qa.2.2.2.1,Qa.2.2.2.2.1,Qa.2.2.2.2.2.1,Qa.2.2.2.2.2.2.1,Qa.2.2.2.2.2.2.2.1,())))/\(Qa.2.1=(↑(nat_lit 1):Int)->InI (Qc+1)/\InI (Qa.2.1+1)/\q9l (Qc+1,Qa.2.1+1,Qa.2.2.1,Qu,Qa.2.2.2.2.1,Qa.2.2.2.2.2.1,Qa.2.2.2.2.2.2.1,Qa.2.2.2.2.2.2.2.1,())))/\(Qa.2.1=(↑(nat_lit 2):Int)->InI (Qc+1)/\InI (Qa.2.1+1)/\q9l (Qc+1,Qa.2.1+1,Qa.2.2.1,Qa.2.2.2.1,Qu,Qa.2.2.2.2.2.1,Qa.2.2.2.2.2.2.1,Qa.2.2.2.2.2.2.2.1,()))) (K ((0:Int),(0:Int),(0:Int)) false)))) (K ((0:Int),(0:Int),(0:Int)) false)) (InI (Qc+1)/\Bh (Qc+1))) (((0:Int)<=Qa.1/\Qa.1<=Qc/\Qc<=(↑s.size:Int))/\Hi (s.extract Qa.1.toNat Qc.toNat) fun Qj Zl=>Cnd (Zl=0) (Cnd (Qj<0) (K ((0:Int),(0:Int),(0:Int)) false) (Cnd ((999999:Int)<Qj) (K ((0:Int),(0:Int),(0:Int)) false) (Cnd (decide (Qa.2.1<2)=decide (Qc<(↑s.size:Int))) (((0:Int)<=Qa.2.1/\Qa.2.1<(↑(3:Nat):Int))/\((True/\(Qa.2.1=(↑(nat_lit 0):Int)->InI (Qc+1)/\InI (Qa.2.1+1)/\q9l (Qc+1,Qa.2.1+1,Qj,Qa.2.2.2.1,Qa.2.2.2.2.1,Qa.2.2.2.2.2.1,Qa.2.2.2.2.2.2.1,Qa.2.2.2.2.2.2.2.1,())))/\(Qa.2.1=(↑(nat_lit 1):Int)->InI (Qc+1)/\InI (Qa.2.1+1)/\q9l (Qc+1,Qa.2.1+1,Qa.2.2.1,Qj,Qa.2.2.2.2.1,Qa.2.2.2.2.2.1,Qa.2.2.2.2.2.2.1,Qa.2.2.2.2.2.2.2.1,())))/\(Qa.2.1=(↑(nat_lit 2):Int)->InI (Qc+1)/\InI (Qa.2.1+1)/\q9l (Qc+1,Qa.2.1+1,Qa.2.2.1,Qa.2.2.2.1,Qj,Qa.2.2.2.2.2.1,Qa.2.2.2.2.2.2.1,Qa.2.2.2.2.2.2.2.1,()))) (K ((0:Int),(0:Int),(0:Int)) false)))) (K ((0:Int),(0:Int),(0:Int)) false))) Qa.1) (K (Qa.2.2.1,Qa.2.2.2.1,Qa.2.2.2.2.1) true)) ((0:Int),(0:Int),(0:Int),(0:Int),(0:Int),(0:Int),(0:Int),(0:Int),())
def q7z:z1m:=z67 Vx
abbrev z48:Type:=List (ByteArray)->(Int->Prop)->Prop
def j03(Qr:Js):z48:=fun l K=>Fits l->Cnd ((20:Int)<(↑l.length:Int)) (K (5:Int)) (Lp1 (fun Qc Bh=>Fits l->CAt l Qc (fun y3=>Qr y3 fun Qk=>Cnd (Qk=true) (InI (Qc+1)/\Bh (Qc+1)) (K (2:Int))) (Lp1 (fun Ql j0b=>Fits l->CAt l Ql (fun y5=>InI (Ql - 1)/\((0:Int)<=Ql - 1/\Ql - 1<(↑l.length:Int))/\ ∀y7,l[(Ql - 1).toNat]? =some y7->Cnd (Lk.blt y7 y5) (InI (Ql+1)/\j0b (Ql+1)) (K (9:Int))) (K (0:Int))) (1:Int))) (0:Int))
def z1n:z48:=j03 Vw
abbrev q31:Type:=Val->(Int->Prop)->Prop
def z68(z7r:z66)(Qr:Js)(z7s:z1m)(j2i:z48):q31:=fun v K=>Cnd (v.1<1) (K (7:Int)) (Cnd ((5:Int)<v.1) (K (7:Int)) (z7r v fun Qa=>Cnd (Qa=true) (Cnd (v.1=1) (Cnd (v.2=0) (K (0:Int)) (Cnd (v.2=1) (K (0:Int)) (K (3:Int)))) (Cnd (v.1=2) (Cnd (v.2<(-1099511627776:Int)) (K (3:Int)) (Cnd ((1099511627776:Int)<v.2) (K (3:Int)) (K (0:Int)))) (Cnd (v.1=3) (Qr v.3 fun Qc=>Cnd (Qc=true) (K (0:Int)) (K (2:Int))) (Cnd (v.1=4) (z7s v.3 fun (Qc:Int×Int×Int) Je=>Cnd (Je=true) (K (0:Int)) (K (1:Int))) (Cnd (v.1=5) (j2i v.4 fun Qc=>K Qc) (K (0:Int))))))) (K (15:Int))))
def q32:q31:=z68 q7y Vw q7z z1n
abbrev j04:Type:=Ex->(Int->Prop)->Prop
def j05(z39:q8l)(Z3:H0)(Qh:Jo)(Ws:q31):j04:=fun e K=>Cnd (e.1<1) (K (7:Int)) (Cnd ((15:Int)<e.1) (K (7:Int)) (z39 (Ex.mk e.1 e.2 e.3 e.4 e.5) fun Qa=>Cnd (Qa=true) (Fits e.5->Cnd ((12:Int)<(↑e.5.length:Int)) (K (5:Int)) (Fits e.4->Cnd ((20:Int)<(↑e.4.length:Int)) (K (5:Int)) (Lp1 (fun Ql j0b=>Fits e.5->CAt e.5 Ql (fun y5=>Cnd (y5.1=e.1) (Cnd (e.1=4) (InI (Ql+1)/\j0b (Ql+1)) (K (15:Int))) (InI (Ql+1)/\j0b (Ql+1))) (Z3 e.1 fun Qk=>Cnd (Qk=true) (Qh e.2 fun Zu=>Cnd (Zu=true) (Z3 e.1 fun Wk=>Cnd (Wk=true) (Qh e.3 fun Wr=>Cnd (Wr=true) (Lp1 (fun Wo y0k=>Fits e.4->CAt e.4 Wo (fun y11=>Ws y11 fun Q5=>Cnd (Q5=0) (InI (Wo+1)/\y0k (Wo+1)) (K Q5)) (Cnd (e.1=9) (((0:Int)<=(0:Int)/\(0:Int)<(↑e.4.length:Int))/\ ∀y11,e.4[Int.toNat (0:Int)]? =some y11->Cnd (y11.1=3) (K (0:Int)) (K (8:Int))) (Cnd (e.1=10) (((0:Int)<=(0:Int)/\(0:Int)<(↑e.4.length:Int))/\ ∀y11,e.4[Int.toNat (0:Int)]? =some y11->Cnd (y11.1=3) (K (0:Int)) (K (8:Int))) (Cnd (e.1=11) (((0:Int)<=(0:Int)/\(0:Int)<(↑e.4.length:Int))/\ ∀y11,e.4[Int.toNat (0:Int)]? =some y11->Cnd (y11.1=3) (K (0:Int)) (K (8:Int))) (K (0:Int)))))) (0:Int)) (K (6:Int))) (Cnd (e.1=5) (Qh e.3 fun Wr=>Cnd (Wr=true) (Lp1 (fun Wo y0k=>Fits e.4->CAt e.4 Wo (fun y11=>Ws y11 fun Q5=>Cnd (Q5=0) (InI (Wo+1)/\y0k (Wo+1)) (K Q5)) (Cnd (e.1=9) (((0:Int)<=(0:Int)/\(0:Int)<(↑e.4.length:Int))/\ ∀y11,e.4[Int.toNat (0:Int)]? =some y11->Cnd (y11.1=3) (K (0:Int)) (K (8:Int))) (Cnd (e.1=10) (((0:Int)<=(0:Int)/\(0:Int)<(↑e.4.length:Int))/\ ∀y11,e.4[Int.toNat (0:Int)]? =some y11->Cnd (y11.1=3) (K (0:Int)) (K (8:Int))) (Cnd (e.1=11) (((0:Int)<=(0:Int)/\(0:Int)<(↑e.4.length:Int))/\ ∀y11,e.4[Int.toNat (0:Int)]? =some y11->Cnd (y11.1=3) (K (0:Int)) (K (8:Int))) (K (0:Int)))))) (0:Int)) (K (6:Int))) (Lp1 (fun Wr u0g=>Fits e.4->CAt e.4 Wr (fun y10=>Ws y10 fun Gc=>Cnd (Gc=0) (InI (Wr+1)/\u0g (Wr+1)) (K Gc)) (Cnd (e.1=9) (((0:Int)<=(0:Int)/\(0:Int)<(↑e.4.length:Int))/\ ∀y10,e.4[Int.toNat (0:Int)]? =some y10->Cnd (y10.1=3) (K (0:Int)) (K (8:Int))) (Cnd (e.1=10) (((0:Int)<=(0:Int)/\(0:Int)<(↑e.4.length:Int))/\ ∀y10,e.4[Int.toNat (0:Int)]? =some y10->Cnd (y10.1=3) (K (0:Int)) (K (8:Int))) (Cnd (e.1=11) (((0:Int)<=(0:Int)/\(0:Int)<(↑e.4.length:Int))/\ ∀y10,e.4[Int.toNat (0:Int)]? =some y10->Cnd (y10.1=3) (K (0:Int)) (K (8:Int))) (K (0:Int)))))) (0:Int)))) (K (6:Int))) (Z3 e.1 fun Zu=>Cnd (Zu=true) (Qh e.3 fun Wk=>Cnd (Wk=true) (Lp1 (fun Wr u0g=>Fits e.4->CAt e.4 Wr (fun y10=>Ws y10 fun Gc=>Cnd (Gc=0) (InI (Wr+1)/\u0g (Wr+1)) (K Gc)) (Cnd (e.1=9) (((0:Int)<=(0:Int)/\(0:Int)<(↑e.4.length:Int))/\ ∀y10,e.4[Int.toNat (0:Int)]? =some y10->Cnd (y10.1=3) (K (0:Int)) (K (8:Int))) (Cnd (e.1=10) (((0:Int)<=(0:Int)/\(0:Int)<(↑e.4.length:Int))/\ ∀y10,e.4[Int.toNat (0:Int)]? =some y10->Cnd (y10.1=3) (K (0:Int)) (K (8:Int))) (Cnd (e.1=11) (((0:Int)<=(0:Int)/\(0:Int)<(↑e.4.length:Int))/\ ∀y10,e.4[Int.toNat (0:Int)]? =some y10->Cnd (y10.1=3) (K (0:Int)) (K (8:Int))) (K (0:Int)))))) (0:Int)) (K (6:Int))) (Cnd (e.1=5) (Qh e.3 fun Wk=>Cnd (Wk=true) (Lp1 (fun Wr u0g=>Fits e.4->CAt e.4 Wr (fun y10=>Ws y10 fun Gc=>Cnd (Gc=0) (InI (Wr+1)/\u0g (Wr+1)) (K Gc)) (Cnd (e.1=9) (((0:Int)<=(0:Int)/\(0:Int)<(↑e.4.length:Int))/\ ∀y10,e.4[Int.toNat (0:Int)]? =some y10->Cnd (y10.1=3) (K (0:Int)) (K (8:Int))) (Cnd (e.1=10) (((0:Int)<=(0:Int)/\(0:Int)<(↑e.4.length:Int))/\ ∀y10,e.4[Int.toNat (0:Int)]? =some y10->Cnd (y10.1=3) (K (0:Int)) (K (8:Int))) (Cnd (e.1=11) (((0:Int)<=(0:Int)/\(0:Int)<(↑e.4.length:Int))/\ ∀y10,e.4[Int.toNat (0:Int)]? =some y10->Cnd (y10.1=3) (K (0:Int)) (K (8:Int))) (K (0:Int)))))) (0:Int)) (K (6:Int))) (Lp1 (fun Wk y0a=>Fits e.4->CAt e.4 Wk (fun y9=>Ws y9 fun Wi=>Cnd (Wi=0) (InI (Wk+1)/\y0a (Wk+1)) (K Wi)) (Cnd (e.1=9) (((0:Int)<=(0:Int)/\(0:Int)<(↑e.4.length:Int))/\ ∀y9,e.4[Int.toNat (0:Int)]? =some y9->Cnd (y9.1=3) (K (0:Int)) (K (8:Int))) (Cnd (e.1=10) (((0:Int)<=(0:Int)/\(0:Int)<(↑e.4.length:Int))/\ ∀y9,e.4[Int.toNat (0:Int)]? =some y9->Cnd (y9.1=3) (K (0:Int)) (K (8:Int))) (Cnd (e.1=11) (((0:Int)<=(0:Int)/\(0:Int)<(↑e.4.length:Int))/\ ∀y9,e.4[Int.toNat (0:Int)]? =some y9->Cnd (y9.1=3) (K (0:Int)) (K (8:Int))) (K (0:Int)))))) (0:Int)))))) (0:Int)))) (K (15:Int))))
def H5:j04:=j05 q30 Zg Ut q32
abbrev q5j:Type:=Ex->Int->Int->(Int->Int->Prop)->Prop
def q8m(y0b:j04)(X:q5j):q5j:=fun e depth n K=>Cnd ((60:Int)<=n) (K (5:Int) n) (InI (n+1)/\Cnd ((10:Int)<depth) (K (18:Int) (n+1)) (y0b (Ex.mk e.1 e.2 e.3 e.4 e.5) fun Qa=>Cnd (Qa=0) (Lp2 (fun Qc Je z79=>Fits e.5->CAt e.5 Qc (fun y3=>InI (depth+1)/\X (Ex.mk y3.1 y3.2 y3.3 y3.4 y3.5) (depth+1) Je fun Qk z1a=>Cnd (Qk=0) (InI (Qc+1)/\z79 (Qc+1) z1a) (K Qk z1a)) (K (0:Int) Je)) (0:Int) (n+1)) (K Qa (n+1))))
def B2:q5j:=fun e depth n K=> ∀X:q5j,(∀e depth n K,q8m H5 X e depth n K->X e depth n K)->X e depth n K
abbrev q15:Type:=Ex->(Int->Prop)->Prop
def j06(j2j:q5j):q15:=fun e K=>j2j (Ex.mk e.1 e.2 e.3 e.4 e.5) (1:Int) (0:Int) fun Qa _=>K Qa
def q5k:q15:=j06 B2
abbrev q5l:Type:=Seg->(Int->Prop)->Prop
def q9v(Qh:Jo)(Vd:H3)(j2k:j02)(Uj:q15):q5l:=fun g K=>Qh g.1 fun Qa=>Cnd (Qa=true) (Qh g.2 fun Qc=>Cnd (Qc=true) (Vd g.3 fun Qj=>Cnd (Qj=0) (Vd g.4 fun Ql=>Cnd (Ql=0) (j2k (Ex.mk g.5.1 g.5.2 g.5.3 g.5.4 g.5.5) fun Qu=>Cnd (Qu=true) (K (0:Int)) (Uj (Ex.mk g.5.1 g.5.2 g.5.3 g.5.4 g.5.5) fun Qk=>K Qk)) (K Ql)) (K Qj)) (K (6:Int))) (K (6:Int))
def q1c:q5l:=q9v Ut H4 z1l q5k
abbrev q16:Type:=List (Seg)->(Int->Prop)->Prop
def q6y(z0e:q5l):q16:=fun l K=>Fits l->Cnd ((20:Int)<(↑l.length:Int)) (K (5:Int)) (Lp1 (fun Qc Bh=>Fits l->CAt l Qc (fun y3=>z0e (Seg.mk y3.1 y3.2 y3.3 y3.4 (Ex.mk y3.5.1 y3.5.2 y3.5.3 y3.5.4 y3.5.5)) fun Qk=>Cnd (Qk=0) (Cnd ((0:Int)<Qc) (At l Qc fun y6=>InI (Qc - 1)/\((0:Int)<=Qc - 1/\Qc - 1<(↑l.length:Int))/\ ∀y8,l[(Qc - 1).toNat]? =some y8->Cnd (Lk.blt y8.1 y6.1) (InI (Qc+1)/\Bh (Qc+1)) (K (9:Int))) (InI (Qc+1)/\Bh (Qc+1))) (K Qk)) (K (0:Int))) (0:Int))
def V7:q16:=q6y q1c
abbrev H6:Type:=Flg->(Int->Prop)->Prop
def q17(Ws:q31):H6:=fun f K=>Fits f.3->Cnd ((8:Int)<(↑f.3.length:Int)) (K (5:Int)) (Cnd ((↑f.3.length:Int)=0) (K (3:Int)) (Lp1 (fun Qc Bh=>CAt f.3 Qc (fun y2=>Ws y2 fun Qu=>Cnd (Qu=0) (At f.3 Qc fun y5=>Cnd (y5.1=f.2) (InI (Qc+1)/\Bh (Qc+1)) (K (8:Int))) (K Qu)) (Cnd (f.5<1) (K (3:Int)) (Cnd ((↑f.3.length:Int)<f.5) (K (3:Int)) (K (0:Int))))) (0:Int)))
def U1:H6:=q17 q32
abbrev V8:Type:=List (Prq)->(Int->Prop)->Prop
def Ho(Qh:Jo):V8:=fun l K=>Fits l->Cnd ((4:Int)<(↑l.length:Int)) (K (5:Int)) (Lp1 (fun Qc Bh=>Fits l->CAt l Qc (fun y3=>Qh y3.1 fun Qk=>Cnd (Qk=true) (Cnd ((0:Int)<Qc) (At l Qc fun y6=>InI (Qc - 1)/\((0:Int)<=Qc - 1/\Qc - 1<(↑l.length:Int))/\ ∀y8,l[(Qc - 1).toNat]? =some y8->Cnd (Lk.blt y8.1 y6.1) (At l Qc fun y10=>Cnd (y10.2<1) (K (3:Int)) (At l Qc fun y12=>Cnd ((8:Int)<y12.2) (K (3:Int)) (InI (Qc+1)/\Bh (Qc+1)))) (K (9:Int))) (At l Qc fun y6=>Cnd (y6.2<1) (K (3:Int)) (At l Qc fun y8=>Cnd ((8:Int)<y8.2) (K (3:Int)) (InI (Qc+1)/\Bh (Qc+1))))) (K (6:Int))) (K (0:Int))) (0:Int))
def Wp:V8:=Ho Ut
abbrev q5m:Type:=List (Tgt)->Int->(Int->Prop)->Prop
def q9w(Qh:Jo)(Vd:H3):q5m:=fun l n K=>Fits l->Cnd ((8:Int)<(↑l.length:Int)) (K (5:Int)) (Lp1 (fun Qc Bh=>Fits l->CAt l Qc (fun y3=>Qh y3.1 fun Qk=>Cnd (Qk=true) (At l Qc fun y6=>Cnd (y6.2<1) (K (3:Int)) (At l Qc fun y8=>Cnd (n<y8.2) (K (3:Int)) (At l Qc fun y10=>Fits y10.3->Cnd ((↑y10.3.length:Int)=0) (K (3:Int)) (At l Qc fun y13=>Vd y13.3 fun z15=>Cnd (z15=0) (InI (Qc+1)/\Bh (Qc+1)) (K z15))))) (K (6:Int))) (K (0:Int))) (0:Int))
def q1d:q5m:=q9w Ut H4
abbrev q70:Type:=List (Rng)->Int->(Int->Prop)->Prop
def q33:q70:=fun l variations K=>Fits l->Cnd ((16:Int)<(↑l.length:Int)) (K (5:Int)) (Lp2 (fun Qc Je z79=>Fits l->CAt l Je (fun y3=>Cnd (y3.3<1) (K (3:Int)) (At l Je fun y5=>Cnd (variations<y5.3) (K (3:Int)) (At l Je fun y7=>Cnd (y7.1=Qc) (At l Je fun y9=>Cnd (y9.2<=Qc) (K (9:Int)) (Cnd ((0:Int)<Je) (At l Je fun y11=>InI (Je - 1)/\((0:Int)<=Je - 1/\Je - 1<(↑l.length:Int))/\ ∀y13,l[(Je - 1).toNat]? =some y13->Cnd (y11.3=y13.3) (K (9:Int)) (At l Je fun y15=>InI (Je+1)/\z79 y15.2 (Je+1))) (At l Je fun y11=>InI (Je+1)/\z79 y11.2 (Je+1)))) (K (9:Int))))) (Cnd (Qc=10000) (K (0:Int)) (K (3:Int)))) (0:Int) (0:Int))
abbrev q34:Type:=Srv->Int->(Int->Prop)->Prop
def z69(Qh:Jo)(Qr:Js)(Bi:q70):q34:=fun v variations K=>Cnd (v.1=0) (Qh v.2 fun Qa=>Cnd (Qa=true) (Qh v.3 fun Qc=>Cnd (Qc=true) (Qr v.4 fun Qj=>Cnd (Qj=true) (Bi v.5 variations fun Ql=>K Ql) (K (2:Int))) (K (6:Int))) (K (6:Int))) (Cnd (v.1<1) (K (3:Int)) (Cnd (variations<v.1) (K (3:Int)) (Cnd (v.2=B8 []) (Cnd (v.3=B8 []) (Cnd (v.4=B8 []) (Fits v.5->Cnd ((0:Int)<(↑v.5.length:Int)) (K (15:Int)) (K (0:Int))) (K (15:Int))) (K (15:Int))) (K (15:Int)))))
def q35:q34:=z69 Ut Vw q33
abbrev z1o:Type:=List (Rul)->Int->(Int->Prop)->Prop
def z7a(Qh:Jo)(Uj:q15)(Bj:q34):z1o:=fun l n K=>Fits l->Cnd ((12:Int)<(↑l.length:Int)) (K (5:Int)) (Lp1 (fun Qc Bh=>Fits l->CAt l Qc (fun y3=>Qh y3.1 fun Qk=>Cnd (Qk=true) (Lp1 (fun Zu v5z=>Cnd (Zu<Qc) (At l Zu fun y7=>At l Qc fun y9=>Cnd (y7.1=y9.1) (K (10:Int)) (InI (Zu+1)/\v5z (Zu+1))) (At l Qc fun y7=>Uj (Ex.mk y7.2.1 y7.2.2 y7.2.3 y7.2.4 y7.2.5) fun Wo=>Cnd (Wo=0) (At l Qc fun y10=>Bj (Srv.mk y10.3.1 y10.3.2 y10.3.3 y10.3.4 y10.3.5) n fun Gc=>Cnd (Gc=0) (InI (Qc+1)/\Bh (Qc+1)) (K Gc)) (K Wo))) (0:Int)) (K (6:Int))) (K (0:Int))) (0:Int))
def q71:z1o:=z7a Ut q5k q35
abbrev z49:Type:=Flg->(Int->Prop)->Prop
def j07(Qh:Jo)(q3j:H6)(Ht:V8)(z0f:q5m)(z7t:z1o)(Bj:q34):z49:=fun f K=>Fits f.3->Qh f.1 fun Qc=>Cnd (Qc=true) (Cnd (f.2<1) (K (7:Int)) (Cnd ((5:Int)<f.2) (K (7:Int)) (q3j (Flg.mk f.1 f.2 f.3 f.4 f.5 f.6 f.7 f.8 (Srv.mk f.9.1 f.9.2 f.9.3 f.9.4 f.9.5)) fun Qj=>Cnd (Qj=0) (Ht f.6 fun Ql=>Cnd (Ql=0) (z0f f.7 (↑f.3.length:Int) fun Qu=>Cnd (Qu=0) (z7t f.8 (↑f.3.length:Int) fun Qk=>Cnd (Qk=0) (Bj (Srv.mk f.9.1 f.9.2 f.9.3 f.9.4 f.9.5) (↑f.3.length:Int) fun Zu=>K Zu) (K Qk)) (K Qu)) (K Ql)) (K Qj)))) (K (6:Int))
def q5n:z49:=j07 Ut U1 Wp q1d q71 q35
abbrev z1p:Type:=List (Flg)->(Int->Prop)->Prop
def z7b(j2l:z49):z1p:=fun l K=>Fits l->Cnd ((30:Int)<(↑l.length:Int)) (K (5:Int)) (Lp1 (fun Qc Bh=>Fits l->CAt l Qc (fun y3=>j2l (Flg.mk y3.1 y3.2 y3.3 y3.4 y3.5 y3.6 y3.7 y3.8 (Srv.mk y3.9.1 y3.9.2 y3.9.3 y3.9.4 y3.9.5)) fun Qk=>Cnd (Qk=0) (Cnd ((0:Int)<Qc) (At l Qc fun y6=>InI (Qc - 1)/\((0:Int)<=Qc - 1/\Qc - 1<(↑l.length:Int))/\ ∀y8,l[(Qc - 1).toNat]? =some y8->Cnd (Lk.blt y8.1 y6.1) (InI (Qc+1)/\Bh (Qc+1)) (K (9:Int))) (InI (Qc+1)/\Bh (Qc+1))) (K Qk)) (K (0:Int))) (0:Int))
def q72:z1p:=z7b q5n
abbrev z1q:Type:=Lay_->(Int->Prop)->Prop
def z7c(Qh:Jo)(Qr:Js):z1q:=fun l K=>Qh l.1 fun Qa=>Cnd (Qa=true) (Qh l.2 fun Qc=>Cnd (Qc=true) (Qr l.3 fun Qj=>Cnd (Qj=true) (Cnd (l.4<0) (K (3:Int)) (Cnd ((10000:Int)<l.4) (K (3:Int)) (Cnd (l.5<0) (K (3:Int)) (Cnd ((1099511627776:Int)<l.5) (K (3:Int)) (Fits l.6->Cnd ((32:Int)<(↑l.6.length:Int)) (K (5:Int)) (Lp1 (fun Qu y8e=>Fits l.6->CAt l.6 Qu (fun y6=>Cnd (y6.1<0) (K (3:Int)) (Cnd (y6.2<=y6.1) (K (3:Int)) (Cnd ((10000:Int)<y6.2) (K (3:Int)) (Cnd (y6.3<0) (K (3:Int)) (Cnd ((1099511627776:Int)<y6.3) (K (3:Int)) (Cnd ((0:Int)<Qu) (InI (Qu - 1)/\((0:Int)<=Qu - 1/\Qu - 1<(↑l.6.length:Int))/\ ∀y8,l.6[(Qu - 1).toNat]? =some y8->Cnd (y6.1<y8.2) (K (9:Int)) (InI (Qu+1)/\y8e (Qu+1))) (InI (Qu+1)/\y8e (Qu+1)))))))) (K (0:Int))) (0:Int))))))) (K (2:Int))) (K (6:Int))) (K (6:Int))
def q73:z1q:=z7c Ut Vw
abbrev q8n:Type:=List (Lay_)->(Int->Prop)->Prop
def z2r(z7u:z1q):q8n:=fun l K=>Fits l->Cnd ((6:Int)<(↑l.length:Int)) (K (5:Int)) (Lp1 (fun Qc Bh=>Fits l->CAt l Qc (fun y3=>z7u y3 fun Qk=>Cnd (Qk=0) (Cnd ((0:Int)<Qc) (At l Qc fun y6=>InI (Qc - 1)/\((0:Int)<=Qc - 1/\Qc - 1<(↑l.length:Int))/\ ∀y8,l[(Qc - 1).toNat]? =some y8->Cnd (Lk.blt y8.1 y6.1) (InI (Qc+1)/\Bh (Qc+1)) (K (9:Int))) (InI (Qc+1)/\Bh (Qc+1))) (K Qk)) (K (0:Int))) (0:Int))
def H7:q8n:=z2r q73
abbrev z7d:Type:=List (Spn)->(Int->Prop)->Prop
def q74:z7d:=fun l K=>Fits l->Cnd ((16:Int)<(↑l.length:Int)) (K (5:Int)) (Lp1 (fun Qc Bh=>Fits l->CAt l Qc (fun y3=>Cnd (y3.1<0) (K (3:Int)) (At l Qc fun y5=>At l Qc fun y7=>Cnd (y7.2<=y5.1) (K (3:Int)) (At l Qc fun y9=>Cnd ((10000:Int)<y9.2) (K (3:Int)) (Cnd ((0:Int)<Qc) (At l Qc fun y11=>InI (Qc - 1)/\((0:Int)<=Qc - 1/\Qc - 1<(↑l.length:Int))/\ ∀y13,l[(Qc - 1).toNat]? =some y13->Cnd (y11.1<=y13.2) (K (9:Int)) (InI (Qc+1)/\Bh (Qc+1))) (InI (Qc+1)/\Bh (Qc+1)))))) (K (0:Int))) (0:Int))
abbrev H8:Type:=Exper->(Int->Prop)->Prop
def q18(Qh:Jo)(Qr:Js)(z7v:z7d)(Bi:q70)(Uj:q15):H8:=fun x K=>Qh x.1 fun Qa=>Cnd (Qa=true) (Qh x.2 fun Qc=>Cnd (Qc=true) (Qh x.3 fun Qj=>Cnd (Qj=true) (Qr x.4 fun Ql=>Cnd (Ql=true) (Cnd (x.5<1) (K (7:Int)) (Cnd ((3:Int)<x.5) (K (7:Int)) (z7v x.6 fun Qu=>Cnd (Qu=0) (Bi x.7 (8:Int) fun Qk=>Cnd (Qk=0) (Uj (Ex.mk x.8.1 x.8.2 x.8.3 x.8.4 x.8.5) fun Zu=>K Zu) (K Qk)) (K Qu)))) (K (2:Int))) (K (6:Int))) (K (6:Int))) (K (6:Int))
def Wm:H8:=q18 Ut Vw q74 q33 q5k
abbrev G7:Type:=List (Exper)->(Int->Prop)->Prop
def q0c(q3k:H8):G7:=fun l K=>Fits l->Cnd ((16:Int)<(↑l.length:Int)) (K (5:Int)) (Lp1 (fun Qc Bh=>Fits l->CAt l Qc (fun y3=>q3k (Exper.mk y3.1 y3.2 y3.3 y3.4 y3.5 y3.6 y3.7 (Ex.mk y3.8.1 y3.8.2 y3.8.3 y3.8.4 y3.8.5)) fun Qk=>Cnd (Qk=0) (Cnd ((0:Int)<Qc) (At l Qc fun y6=>InI (Qc - 1)/\((0:Int)<=Qc - 1/\Qc - 1<(↑l.length:Int))/\ ∀y8,l[(Qc - 1).toNat]? =some y8->Cnd (Lk.blt y8.1 y6.1) (InI (Qc+1)/\Bh (Qc+1)) (K (9:Int))) (InI (Qc+1)/\Bh (Qc+1))) (K Qk)) (K (0:Int))) (0:Int))
def Vy:G7:=q0c Wm
abbrev G8:Type:=Envt->(Int->Prop)->Prop
def q0d(q7l:q13)(q7m:q14)(q7n:q16)(z7w:z1p)(z4a:q8n)(q0l:G7):G8:=fun v K=>q7l (Sett.mk v.1.1 v.1.2 v.1.3) fun Qa=>Cnd (Qa=0) (q7m v.2 fun Qc=>Cnd (Qc=0) (q7n v.3 fun Qj=>Cnd (Qj=0) (z7w v.4 fun Ql=>Cnd (Ql=0) (z4a v.5 fun Qu=>Cnd (Qu=0) (q0l v.6 fun Qk=>K Qk) (K Qu)) (K Ql)) (K Qj)) (K Qc)) (K Qa)
def Vz:G8:=q0d V5 V6 V7 q72 H7 Vy
abbrev q1e:Type:=List (Seg)->(List (ByteArray)->Prop)->Prop
def z1r:q1e:=fun l K=>Lp2 (fun Qa Qz q3v=>Fits l->CAt l Qz (fun y2=>Sml (Qa++[y2.1]).length/\InI (Qz+1)/\q3v (Qa++[y2.1]) (Qz+1)) (K Qa)) [] (0:Int)
abbrev z2s:Type:=List (ByteArray)->ByteArray->(Bool->Prop)->Prop
def R1:z2s:=fun l s K=>Lp1 (fun Qa q9l=>Fits l->CAt l Qa (fun y2=>Cnd (y2=s) (K true) (InI (Qa+1)/\q9l (Qa+1))) (K false)) (0:Int)
abbrev z5a:Type:=List (Decl)->ByteArray->ByteArray->(Int->Prop)->Prop
def U2:z5a:=fun l kind name K=>Lp1 (fun Qa q9l=>Fits l->CAt l Qa (fun y2=>Cnd (y2.1=kind) (At l Qa fun y4=>Cnd (y4.2=name) (At l Qa fun y6=>K y6.3) (InI (Qa+1)/\q9l (Qa+1))) (InI (Qa+1)/\q9l (Qa+1))) (Cnd (name=B8 [107,101,121]) (K (3:Int)) (K (0:Int)))) (0:Int)
abbrev j71:Type:=Int->Ex->(Bool->Prop)->Prop
def G9:j71:=fun t e K=>Cnd (e.1=6) (K true) (Cnd (e.1=8) (Lp1 (fun Qa q9l=>Fits e.4->CAt e.4 Qa (fun y2=>Cnd (y2.1=t) (InI (Qa+1)/\q9l (Qa+1)) (K false)) (K (match decide ((t,e,()).1=5) with|true=>false|false=>true))) (0:Int)) (Fits e.4->Cnd ((↑e.4.length:Int)=0) (K false) (((0:Int)<=(0:Int)/\(0:Int)<(↑e.4.length:Int))/\ ∀y1,e.4[Int.toNat (0:Int)]? =some y1->Cnd (e.1=7) (K (decide (y1.1=t))) (Jn1 (fun Ql=>Cnd (Ql=true) (Cnd (t=3) (K (decide (y1.1=3))) (K false)) (Cnd (e.1=11) (Cnd (t=3) (K (decide (y1.1=3))) (Cnd (t=5) (K (decide (y1.1=3))) (K false))) (Cnd (t=2) (K (decide (y1.1=t))) (Cnd (t=3) (K (decide (y1.1=t))) (Cnd (t=4) (K (decide (y1.1=t))) (K false)))))) fun v99=>Cnd (e.1=9) (v99 (decide (e.1=9))) (v99 (decide (e.1=10)))))))
abbrev Ha:Type:=List (Decl)->List (ByteArray)->Ex->(Int->Prop)->Prop
def q8o(q3l:z2s)(Z3:H0)(q9n:z5a)(w8x:j71)(X:Ha):Ha:=fun l segments e K=>Cnd (e.1=5) (q3l segments e.3 fun Qa=>Cnd (Qa=true) (Jn0 (Lp1 (fun Qc Bh=>Fits e.5->CAt e.5 Qc (fun y3=>X l segments (Ex.mk y3.1 y3.2 y3.3 y3.4 y3.5) fun Qk=>Cnd (Qk=0) (InI (Qc+1)/\Bh (Qc+1)) (K Qk)) (K (0:Int))) (0:Int)) fun Qc=>Z3 e.1 fun Qj=>Cnd (Qj=true) (q9n l e.2 e.3 fun Ql=>Cnd (Ql=0) (K (11:Int)) (w8x Ql (Ex.mk e.1 e.2 e.3 e.4 e.5) fun Qu=>Cnd (Qu=true) Qc (K (8:Int)))) Qc) (K (11:Int))) (Jn0 (Lp1 (fun Qa q9l=>Fits e.5->CAt e.5 Qa (fun y2=>X l segments (Ex.mk y2.1 y2.2 y2.3 y2.4 y2.5) fun Qu=>Cnd (Qu=0) (InI (Qa+1)/\q9l (Qa+1)) (K Qu)) (K (0:Int))) (0:Int)) fun Qa=>Z3 e.1 fun Qc=>Cnd (Qc=true) (q9n l e.2 e.3 fun Qj=>Cnd (Qj=0) (K (11:Int)) (w8x Qj (Ex.mk e.1 e.2 e.3 e.4 e.5) fun Ql=>Cnd (Ql=true) Qa (K (8:Int)))) Qa)
def V9:Ha:=fun l segments e K=> ∀X:Ha,(∀l segments e K,q8o R1 Zg U2 G9 X l segments e K->X l segments e K)->X l segments e K
abbrev z2t:Type:=List (ByteArray)->ByteArray->(List (ByteArray)->Prop)->Prop
def R2:z2t:=fun l s K=>Lp1 (fun Qa q9l=>Fits l->CAt l Qa (fun y2=>Cnd (Lk.blt y2 s) (InI (Qa+1)/\q9l (Qa+1)) (Fits l->CAt l Qa (fun y5=>Cnd (y5=s) (K l) (((0:Int)<=(0:Int)/\(0:Int)<=Qa/\Qa<=(↑l.length:Int))/\Sml ([]++List.drop (Int.toNat (0:Int)) (List.take Qa.toNat l)).length/\((0:Int)<=Qa/\Qa<=(↑l.length:Int)/\(↑l.length:Int)<=(↑l.length:Int))/\Sml ([]++List.drop (Int.toNat (0:Int)) (List.take Qa.toNat l)++[s]).length/\Sml ([]++List.drop (Int.toNat (0:Int)) (List.take Qa.toNat l)++[s]++List.drop Qa.toNat (List.take (↑l.length:Int).toNat l)).length/\K ([]++List.drop (Int.toNat (0:Int)) (List.take Qa.toNat l)++[s]++List.drop Qa.toNat (List.take (↑l.length:Int).toNat l)))) (((0:Int)<=(0:Int)/\(0:Int)<=Qa/\Qa<=(↑l.length:Int))/\Sml ([]++List.drop (Int.toNat (0:Int)) (List.take Qa.toNat l)).length/\((0:Int)<=Qa/\Qa<=(↑l.length:Int)/\(↑l.length:Int)<=(↑l.length:Int))/\Sml ([]++List.drop (Int.toNat (0:Int)) (List.take Qa.toNat l)++[s]).length/\Sml ([]++List.drop (Int.toNat (0:Int)) (List.take Qa.toNat l)++[s]++List.drop Qa.toNat (List.take (↑l.length:Int).toNat l)).length/\K ([]++List.drop (Int.toNat (0:Int)) (List.take Qa.toNat l)++[s]++List.drop Qa.toNat (List.take (↑l.length:Int).toNat l))))) (Fits l->CAt l Qa (fun y3=>Cnd (y3=s) (K l) (((0:Int)<=(0:Int)/\(0:Int)<=Qa/\Qa<=(↑l.length:Int))/\Sml ([]++List.drop (Int.toNat (0:Int)) (List.take Qa.toNat l)).length/\((0:Int)<=Qa/\Qa<=(↑l.length:Int)/\(↑l.length:Int)<=(↑l.length:Int))/\Sml ([]++List.drop (Int.toNat (0:Int)) (List.take Qa.toNat l)++[s]).length/\Sml ([]++List.drop (Int.toNat (0:Int)) (List.take Qa.toNat l)++[s]++List.drop Qa.toNat (List.take (↑l.length:Int).toNat l)).length/\K ([]++List.drop (Int.toNat (0:Int)) (List.take Qa.toNat l)++[s]++List.drop Qa.toNat (List.take (↑l.length:Int).toNat l)))) (((0:Int)<=(0:Int)/\(0:Int)<=Qa/\Qa<=(↑l.length:Int))/\Sml ([]++List.drop (Int.toNat (0:Int)) (List.take Qa.toNat l)).length/\((0:Int)<=Qa/\Qa<=(↑l.length:Int)/\(↑l.length:Int)<=(↑l.length:Int))/\Sml ([]++List.drop (Int.toNat (0:Int)) (List.take Qa.toNat l)++[s]).length/\Sml ([]++List.drop (Int.toNat (0:Int)) (List.take Qa.toNat l)++[s]++List.drop Qa.toNat (List.take (↑l.length:Int).toNat l)).length/\K ([]++List.drop (Int.toNat (0:Int)) (List.take Qa.toNat l)++[s]++List.drop Qa.toNat (List.take (↑l.length:Int).toNat l))))) (0:Int)
abbrev Gf:Type:=List (ByteArray)->Ex->(List (ByteArray)->Prop)->Prop
def H9(q3m:z2t)(X:Gf):Gf:=fun l e K=>Jn1 (fun Qa=>Lp2 (fun Qc Je z79=>Fits e.5->CAt e.5 Je (fun y3=>X Qc (Ex.mk y3.1 y3.2 y3.3 y3.4 y3.5) fun Qk=>InI (Je+1)/\z79 Qk (Je+1)) (K Qc)) Qa (0:Int)) fun q48=>Cnd (e.1=5) (q3m l e.3 fun Qc=>q48 Qc) (q48 l)
def Vb:Gf:=fun l e K=> ∀X:Gf,(∀l e K,H9 R2 X l e K->X l e K)->X l e K
abbrev q5o:Type:=Ex->(List (ByteArray)->Prop)->Prop
def q9x(z0g:Gf):q5o:=fun e K=>z0g [] (Ex.mk e.1 e.2 e.3 e.4 e.5) fun Qa=>K Qa
def q1f:q5o:=q9x Vb
abbrev q8p:Type:=List (Seg)->(List (Edg)->Prop)->Prop
def z2u(z0h:q5o):q8p:=fun l K=>Lp2 (fun Qa Qz q3v=>Fits l->CAt l Qz (fun y2=>z0h (Ex.mk y2.5.1 y2.5.2 y2.5.3 y2.5.4 y2.5.5) fun Qu=>Lp2 (fun Qk z1a y0l=>Fits Qu->Cnd (z1a<(↑Qu.length:Int)) (At l Qz fun y7=>At Qu z1a fun y9=>Sml (Qk++[Edg.mk y7.1 y9]).length/\InI (z1a+1)/\y0l (Qk++[Edg.mk y7.1 y9]) (z1a+1)) (InI (Qz+1)/\q3v Qk (Qz+1))) Qa (0:Int)) (K Qa)) [] (0:Int)
def Vl:q8p:=z2u q1f
abbrev z1s:Type:=List (Edg)->ByteArray->(List (ByteArray)->Prop)->Prop
def z1t(q3l:z2s)(q3m:z2t):z1s:=fun edges node K=>Lp2 (fun Qa Qz q3v=>Fits Qz->Cnd ((0:Int)<(↑Qz.length:Int)) (((0:Int)<=(0:Int)/\(0:Int)<(↑Qz.length:Int))/\ ∀y2,Qz[Int.toNat (0:Int)]? =some y2->((0:Int)<=(1:Int)/\(1:Int)<=(↑Qz.length:Int)/\(↑Qz.length:Int)<=(↑Qz.length:Int))/\Lp3 (fun Qu Wd j2f y8d=>Fits edges->CAt edges j2f (fun y6=>Cnd (y6.1=y2) (At edges j2f fun y8=>q3l Qu y8.2 fun Gb=>Cnd (Gb=true) (InI (j2f+1)/\y8d Qu Wd (j2f+1)) (At edges j2f fun y11=>q3m Qu y11.2 fun Q5=>At edges j2f fun y14=>(Sml ([]++Wd).length/\Sml ([]++Wd++[y14.2]).length/\InI (j2f+1)/\y8d Q5 ([]++Wd++[y14.2]) (j2f+1))/\Sml ([]++Wd).length/\Sml ([]++Wd++[y14.2]).length/\InI (j2f+1)/\y8d Q5 ([]++Wd++[y14.2]) (j2f+1))) (InI (j2f+1)/\y8d Qu Wd (j2f+1))) (q3v Qu Wd)) Qa (List.drop (Int.toNat (1:Int)) (List.take (↑Qz.length:Int).toNat Qz)) (0:Int)) (K Qa)) [] [node]
def q1g:z1s:=z1t R1 R2
abbrev q8q:Type:=List (ByteArray)->List (Edg)->(List (ByteArray)->Prop)->Prop
def q8r(z7x:z1s)(q3l:z2s)(q3m:z2t):q8q:=fun nodes edges K=>Lp2 (fun Qa Qz q3v=>Fits nodes->CAt nodes Qz (fun y2=>At nodes Qz fun y4=>z7x edges y2 fun Zu=>q3l Zu y4 fun Wk=>Cnd (Wk=true) (At nodes Qz fun y8=>q3m Qa y8 fun Gb=>InI (Qz+1)/\q3v Gb (Qz+1)) (InI (Qz+1)/\q3v Qa (Qz+1))) (K Qa)) [] (0:Int)
def q0u:q8q:=q8r q1g R1 R2
abbrev q8s:Type:=List (ByteArray)->List (Edg)->(ByteArray->Bool->Prop)->Prop
def q8t(z4b:q8q):q8s:=fun nodes edges K=>z4b nodes edges fun Qa=>Fits Qa->Cnd ((↑Qa.length:Int)=0) (K (B8 []) false) (((0:Int)<=(0:Int)/\(0:Int)<(↑Qa.length:Int))/\ ∀y2,Qa[Int.toNat (0:Int)]? =some y2->K y2 true)
def Z1:q8s:=q8t q0u
abbrev q1h:Type:=Envt->ByteArray->(Int->Prop)->Prop
def q9y:q1h:=fun v key K=>Lp1 (fun Qa q9l=>Fits v.4->CAt v.4 Qa (fun y2=>Cnd (y2.1=key) (K Qa) (InI (Qa+1)/\q9l (Qa+1))) (K (-1:Int))) (0:Int)
abbrev z1u:Type:=List (Decl)->Srv->(Int->Prop)->Prop
def z7e(q9n:z5a):z1u:=fun l v K=>Cnd (v.1=0) (q9n l v.2 v.3 fun Qa=>Cnd (Qa=0) (K (11:Int)) (Cnd (Qa=5) (K (8:Int)) (K (0:Int)))) (K (0:Int))
def q1i:z1u:=z7e U2
abbrev Ra:Type:=Envt->Flg->(Int->Prop)->Prop
def q19(Wt:q1e)(Uk:q1h)(Ul:Ha)(z16:z1u)(Z7:J8):Ra:=fun v f K=>Wt v.3 fun Qa=>Lp2 (fun Qc Je z79=>Fits f.6->CAt f.6 Qc (fun y3=>Uk (Envt.mk (Sett.mk v.1.1 v.1.2 v.1.3) v.2 v.3 v.4 v.5 v.6) y3.1 fun Qk=>Cnd (Qk<0) (K (11:Int)) (At f.6 Qc fun y6=>At v.4 Qk fun y8=>Fits y8.3->Cnd ((↑y8.3.length:Int)<y6.2) (K (3:Int)) (InI (Qc+1)/\z79 (Qc+1) Je))) (Lp2 (fun Ql Hy w1e=>Fits f.8->CAt f.8 Ql (fun y5=>Ul v.2 Hy (Ex.mk y5.2.1 y5.2.2 y5.2.3 y5.2.4 y5.2.5) fun Wk=>Cnd (Wk=0) (At f.8 Ql fun y8=>z16 v.2 (Srv.mk y8.3.1 y8.3.2 y8.3.3 y8.3.4 y8.3.5) fun Gb=>Cnd (Gb=0) (InI (Ql+1)/\w1e (Ql+1) Hy) (K Gb)) (K Wk)) (z16 v.2 (Srv.mk f.9.1 f.9.2 f.9.3 f.9.4 f.9.5) fun Qk=>Cnd (Qk=0) (Z7 f.8 fun Zu _ w2v=>Cnd (w2v=true) (Fits Zu->Cnd ((0:Int)<(↑Zu.length:Int)) (K (13:Int)) (K (0:Int))) (K (19:Int))) (K Qk))) (0:Int) Je)) (0:Int) Qa
def U3:Ra:=q19 z1r q9y V9 q1i Zp
abbrev q4x:Type:=Envt->(List (ByteArray)->Prop)->Prop
def z0r:q4x:=fun v K=>Lp2 (fun Qa Qz q3v=>Fits v.4->CAt v.4 Qz (fun y2=>Sml (Qa++[y2.1]).length/\InI (Qz+1)/\q3v (Qa++[y2.1]) (Qz+1)) (K Qa)) [] (0:Int)
abbrev q2a:Type:=Envt->(List (Edg)->Prop)->Prop
def q2b:q2a:=fun v K=>Lp2 (fun Qa Qz q3v=>Fits v.4->Cnd (Qz<(↑v.4.length:Int)) (Lp2 (fun Qj Zl q77=>At v.4 Qz fun y3=>Fits y3.6->Cnd (Zl<(↑y3.6.length:Int)) (At v.4 Qz fun y6=>At v.4 Qz fun y8=>At y8.6 Zl fun y10=>Sml (Qj++[Edg.mk y6.1 y10.1]).length/\InI (Zl+1)/\q77 (Qj++[Edg.mk y6.1 y10.1]) (Zl+1)) (InI (Qz+1)/\q3v Qj (Qz+1))) Qa (0:Int)) (K Qa)) [] (0:Int)
abbrev q5p:Type:=List (Spn)->List (Spn)->(List (Spn)->Prop)->Prop
def q9z(Jb:B1)(Q2:Wv):q5p:=fun a b K=>Jb a fun Qa=>Jb b fun Qc=>Lp2 (fun Qj Zl q77=>Fits Zl->CAt Zl Qj (fun y4=>Cnd (y4=true) (At Qc Qj fun y6=>At Zl Qj fun _=>InI (Qj+1)/\q77 (Qj+1) (Zl.set Qj.toNat y6)) (At Zl Qj fun _=>InI (Qj+1)/\q77 (Qj+1) (Zl.set Qj.toNat false))) (Q2 Zl fun Qu=>K Qu)) (0:Int) Qa
def q1j:q5p:=q9z q1z Uq
abbrev Wn:Type:=Envt->Int->(Int->Prop)->Prop
def Ua(Zw:V3)(Uk:q1h)(Wt:q1e)(Ul:Ha)(z0i:q5p):Wn:=fun v i K=>At v.6 i fun y0=>Zw (Envt.mk (Sett.mk v.1.1 v.1.2 v.1.3) v.2 v.3 v.4 v.5 v.6) y0.2 fun Qj=>Uk (Envt.mk (Sett.mk v.1.1 v.1.2 v.1.3) v.2 v.3 v.4 v.5 v.6) y0.3 fun Ql=>Cnd (Qj<0) (K (11:Int)) (Cnd (Ql<0) (K (11:Int)) (Lp1 (fun Qu y8e=>Fits y0.7->CAt y0.7 Qu (fun y6=>At v.4 Ql fun y8=>Fits y8.3->Cnd ((↑y8.3.length:Int)<y6.3) (K (3:Int)) (InI (Qu+1)/\y8e (Qu+1))) (Wt v.3 fun Zu=>Ul v.2 Zu (Ex.mk y0.8.1 y0.8.2 y0.8.3 y0.8.4 y0.8.5) fun Wk=>Cnd (Wk=0) (Cnd (y0.5=3) (K (0:Int)) (At v.5 Qj fun y8=>Lp3 (fun Gb B5 v1l y7y=>Cnd (B5<i) (At v.6 B5 fun y11=>Cnd (y11.2=y0.2) (Cnd (y11.5=3) (InI (B5+1)/\y7y Gb (B5+1) v1l) (Sml (Gb++y11.6).length/\InI (B5+1)/\y7y (Gb++y11.6) (B5+1) v1l)) (InI (B5+1)/\y7y Gb (B5+1) v1l)) (z0i y0.6 Gb fun Wi=>Fits Wi->Cnd ((0:Int)<(↑Wi.length:Int)) (K (14:Int)) (Lp4 (fun Q5 w5z y7z y70 y71=>Cnd (Q5<i) (Cnd (y0.5=2) (At v.6 Q5 fun y14=>Cnd (y14.5=2) (Cnd (y14.3=y0.3) (Cnd (y14.2=y0.2) (InI (Q5+1)/\y71 (Q5+1) w5z y7z y70) (K (14:Int))) (InI (Q5+1)/\y71 (Q5+1) w5z y7z y70)) (InI (Q5+1)/\y71 (Q5+1) w5z y7z y70)) (K (0:Int))) (K (0:Int))) (0:Int) Wi Gb v1l))) [Spn.mk (0:Int) y8.4] (0:Int) Zu)) (K Wk))) (0:Int)))
def Jt:Wn:=Ua q1w q9y z1r V9 q1j
abbrev U4:Type:=Envt->(ByteArray->Int->Prop)->Prop
def R3(q0m:G8)(Wt:q1e)(Ul:Ha)(z4c:q8p)(q9o:q8s)(q3n:Ra)(q5a:q4x)(q3o:q2a)(Um:Wn):U4:=fun v K=>q0m (Envt.mk (Sett.mk v.1.1 v.1.2 v.1.3) v.2 v.3 v.4 v.5 v.6) fun Qa=>Cnd (Qa=0) (Wt v.3 fun Qc=>Lp2 (fun Qj Zl q77=>Fits v.3->CAt v.3 Qj (fun y4=>Cnd (y4.5.1=0) (InI (Qj+1)/\q77 (Qj+1) Zl) (At v.3 Qj fun y6=>Ul v.2 Zl (Ex.mk y6.5.1 y6.5.2 y6.5.3 y6.5.4 y6.5.5) fun Wr=>Cnd (Wr=0) (InI (Qj+1)/\q77 (Qj+1) Zl) (At v.3 Qj fun y9=>(↑((B8 [115,101,103,109,101,110,116,32]).size+y9.1.size):Int)<=(9223372036854775807:Int)/\K (B8 [115,101,103,109,101,110,116,32]++y9.1) Wr))) (z4c v.3 fun Qu=>q9o Zl Qu fun Qk z1a=>Cnd (z1a=true) ((↑((B8 [115,101,103,109,101,110,116,32]).size+Qk.size):Int)<=(9223372036854775807:Int)/\K (B8 [115,101,103,109,101,110,116,32]++Qk) (12:Int)) (Lp3 (fun Zu z09 w2v u3n=>Fits v.4->CAt v.4 Zu (fun y8=>q3n (Envt.mk (Sett.mk v.1.1 v.1.2 v.1.3) v.2 v.3 v.4 v.5 v.6) (Flg.mk y8.1 y8.2 y8.3 y8.4 y8.5 y8.6 y8.7 y8.8 (Srv.mk y8.9.1 y8.9.2 y8.9.3 y8.9.4 y8.9.5)) fun Gb=>Cnd (Gb=0) (InI (Zu+1)/\u3n (Zu+1) z09 w2v) (At v.4 Zu fun y11=>(↑((B8 [102,108,97,103,32]).size+y11.1.size):Int)<=(9223372036854775807:Int)/\K (B8 [102,108,97,103,32]++y11.1) Gb)) (q5a (Envt.mk (Sett.mk v.1.1 v.1.2 v.1.3) v.2 v.3 v.4 v.5 v.6) fun Wr=>q3o (Envt.mk (Sett.mk v.1.1 v.1.2 v.1.3) v.2 v.3 v.4 v.5 v.6) fun Wo=>q9o Wr Wo fun Gb B5=>Cnd (B5=true) ((↑((B8 [102,108,97,103,32]).size+Gb.size):Int)<=(9223372036854775807:Int)/\K (B8 [102,108,97,103,32]++Gb) (12:Int)) (Lp5 (fun Wi q9k u2j u2k u2l u2m=>Fits v.6->Cnd (Wi<(↑v.6.length:Int)) (Um (Envt.mk (Sett.mk v.1.1 v.1.2 v.1.3) v.2 v.3 v.4 v.5 v.6) Wi fun Q5=>Cnd (Q5=0) (InI (Wi+1)/\u2m (Wi+1) q9k u2j u2k u2l) (At v.6 Wi fun y14=>(↑((B8 [101,120,112,101,114,105,109,101,110,116,32]).size+y14.1.size):Int)<=(9223372036854775807:Int)/\K (B8 [101,120,112,101,114,105,109,101,110,116,32]++y14.1) Q5)) (K (B8 []) (0:Int))) (0:Int) Wr Wo w2v z09))) (0:Int) Zl Qu))) (0:Int) Qc) (K (B8 []) Qa)
def Vf:U4:=R3 Vz z1r V9 Vl Z1 U3 z0r q2b Jt
abbrev q0v:Type:=Envt->(Bool->Prop)->Prop
def z2v(Bk:U4):q0v:=fun v K=>Bk (Envt.mk (Sett.mk v.1.1 v.1.2 v.1.3) v.2 v.3 v.4 v.5 v.6) fun _ Qz=>K (decide (Qz=0))
def Vm:q0v:=z2v Vf
abbrev Rb:Type:=List (Int)->Int->Int->(Envt->Int->Prop)->Prop
def q8u(Q1:W9)(z0j:q5i)(Qb:Zi)(q3f:z6z)(Jk:q1q)(q46:z2j)(z6n:z45)(Rr:q1r)(q47:q6u)(Z7:J8)(j2m:z47)(Wq:q1p)(q3g:q8d)(z7y:z1j)(W5:q6t)(G3:q0t)(z4d:q8k)(Wy:q0v):Rb:=fun list at_ now K=>Q1 fun Qa=>Jn1 (fun (Qc:ByteArray×ByteArray×Int×Int×List Decl×Unit)=>z0j list Qc.2.2.2.1 Qc.1 Qc.2.1 Qc.2.2.1 Qc.2.2.2.2.1 [] [] [] [] fun Qj Zl w52 w0b y0m u3o u3p u3q u3r=>Qb list Qj (5:Int) fun Ql Hy=>q3f Ql [B8 [102,97],B8 [102,98],B8 [102,99],B8 [102,100]] fun Qu=>LpH (fun (Qk:Int×Int×List Flg×List Seg×List Lay_×List Exper×Unit) w2u=>Fits Qu->CAt Qu Qk.1 (fun y7=>Qb list Qk.2.1 (5:Int) fun Wo z18=>InI ((1:Int)+Wo)/\Qb list z18 (6:Int) fun Gb B5=>Qb list B5 (4:Int) fun Wi q9k=>InI ((1:Int)+Wi)/\LpH (fun (Gc:Int×Int×List Val×List Exper×List Lay_×List Flg×List Seg×Unit) (u2n:Int×Int×List Val×List Exper×List Lay_×List Flg×List Seg×Unit->Prop)=>Cnd (Gc.1<1+Wi) (Jk list Gc.2.1 ((1:Int)+Wo) fun Q5 w5z=>Sml (Gc.2.2.1++[Q5]).length/\InI (Gc.1+1)/\u2n (Gc.1+1,w5z,Gc.2.2.1++[Q5],Gc.2.2.2.1,Gc.2.2.2.2.1,Gc.2.2.2.2.2.1,Gc.2.2.2.2.2.2.1,())) (Qb list Gc.2.1 ((1:Int)+Wi) fun Q5 w5z=>InI ((1:Int)+Q5)/\LpH (fun (We:Int×List Prq×Int×List Seg×List Flg×List Lay_×List Exper×List Val×Unit) (y0c:Int×List Prq×Int×List Seg×List Flg×List Lay_×List Exper×List Val×Unit->Prop)=>Fits We.2.2.2.2.1->Cnd (We.1<(↑We.2.2.2.2.1.length:Int)) (Qb list We.2.2.1 (4:Int) fun Rs u0h=>Cnd (Rs=1) (At We.2.2.2.2.1 We.1 fun y17=>At We.2.2.2.2.1 We.1 fun y19=>Fits y19.3->Qb list u0h (↑y19.3.length:Int) fun y72 u2o=>InI ((1:Int)+y72)/\Sml (We.2.1++[Prq.mk y17.1 ((1:Int)+y72)]).length/\InI (We.1+1)/\y0c (We.1+1,We.2.1++[Prq.mk y17.1 ((1:Int)+y72)],u2o,We.2.2.2.1,We.2.2.2.2.1,We.2.2.2.2.2.1,We.2.2.2.2.2.2.1,We.2.2.2.2.2.2.2.1,())) (InI (We.1+1)/\y0c (We.1+1,We.2.1,u0h,We.2.2.2.1,We.2.2.2.2.1,We.2.2.2.2.2.1,We.2.2.2.2.2.2.1,We.2.2.2.2.2.2.2.1,()))) (LpH (fun (Rs:Int×List Tgt×Int×List Val×List Exper×List Lay_×List Flg×List Seg×List Prq×Unit) (u0i:Int×List Tgt×Int×List Val×List Exper×List Lay_×List Flg×List Seg×List Prq×Unit->Prop)=>Qb list Rs.2.2.1 (3:Int) fun y0d u0j=>Cnd (Rs.1<y0d) (Qb list u0j ((1:Int)+Wi) fun z17 u2p=>InI ((1:Int)+z17)/\q46 list u2p fun Jf y73=>Jn1 (fun (q4t:ByteArray×Int×List ByteArray×List Prq×List Seg×List Flg×List Lay_×List Exper×List Val×List Tgt×Unit)=>Fits q4t.2.2.1->Cnd ((0:Int)<(↑q4t.2.2.1.length:Int)) (Sml (q4t.2.2.2.2.2.2.2.2.2.1++[Tgt.mk q4t.1 ((1:Int)+z17) q4t.2.2.1]).length/\InI (Rs.1+1)/\u0i (Rs.1+1,q4t.2.2.2.2.2.2.2.2.2.1++[Tgt.mk q4t.1 ((1:Int)+z17) q4t.2.2.1],q4t.2.1,q4t.2.2.2.2.2.2.2.2.1,q4t.2.2.2.2.2.2.2.1,q4t.2.2.2.2.2.2.1,q4t.2.2.2.2.2.1,q4t.2.2.2.2.1,q4t.2.2.2.1,())) (InI (Rs.1+1)/\u0i (Rs.1+1,q4t.2.2.2.2.2.2.2.2.2.1,q4t.2.1,q4t.2.2.2.2.2.2.2.2.1,q4t.2.2.2.2.2.2.2.1,q4t.2.2.2.2.2.2.1,q4t.2.2.2.2.2.1,q4t.2.2.2.2.1,q4t.2.2.2.1,()))) fun (u0k:ByteArray×Int×List ByteArray×List Prq×List Seg×List Flg×List Lay_×List Exper×List Val×List Tgt×Unit->Prop)=>Qb list y73 (4:Int) fun u2q u0l=>Cnd (u2q=1) (u0k (B8 [100,101,118,105,99,101],u0l,Jf,Rs.2.2.2.2.2.2.2.2.1,Rs.2.2.2.2.2.2.2.1,Rs.2.2.2.2.2.2.1,Rs.2.2.2.2.2.1,Rs.2.2.2.2.1,Rs.2.2.2.1,Rs.2.1,())) (u0k (B8 [117,115,101,114],u0l,Jf,Rs.2.2.2.2.2.2.2.2.1,Rs.2.2.2.2.2.2.2.1,Rs.2.2.2.2.2.2.1,Rs.2.2.2.2.2.1,Rs.2.2.2.2.1,Rs.2.2.2.1,Rs.2.1,()))) (Jn1 (fun (z17:Int×List Rul×List ByteArray×List Prq×List Seg×List Flg×List Lay_×List Exper×List Val×List Tgt×Unit)=>z6n list z17.1 ((1:Int)+Wi) fun Jf y73=>Sml (z17.2.2.2.2.2.1++[Flg.mk y7 ((1:Int)+Wo) z17.2.2.2.2.2.2.2.2.1 (decide (Gb<5)) ((1:Int)+Q5) z17.2.2.2.1 z17.2.2.2.2.2.2.2.2.2.1 z17.2.1 Jf]).length/\InI (Qk.1+1)/\w2u (Qk.1+1,y73,z17.2.2.2.2.2.1++[Flg.mk y7 ((1:Int)+Wo) z17.2.2.2.2.2.2.2.2.1 (decide (Gb<5)) ((1:Int)+Q5) z17.2.2.2.1 z17.2.2.2.2.2.2.2.2.2.1 z17.2.1 Jf],z17.2.2.2.2.1,z17.2.2.2.2.2.2.1,z17.2.2.2.2.2.2.2.1,())) fun (y74:Int×List Rul×List ByteArray×List Prq×List Seg×List Flg×List Lay_×List Exper×List Val×List Tgt×Unit->Prop)=>LpH (fun (Jf:Int×Int×List Rul×List ByteArray×List Prq×List Seg×List Flg×List Lay_×List Exper×List Val×List Tgt×Unit) (u2r:Int×Int×List Rul×List ByteArray×List Prq×List Seg×List Flg×List Lay_×List Exper×List Val×List Tgt×Unit->Prop)=>Qb list Jf.2.1 (5:Int) fun q4t y3n=>Cnd (Jf.1<q4t) (At Jf.2.2.2.1 Jf.1 fun y21=>Rr (Envt.mk (Sett.mk Zl w52 w0b) y0m Jf.2.2.2.2.2.1 Jf.2.2.2.2.2.2.1 Jf.2.2.2.2.2.2.2.1 Jf.2.2.2.2.2.2.2.2.1) fun u2s=>q47 list y3n u2s (3:Int) fun Za u2t=>z6n list u2t ((1:Int)+Wi) fun z4e y0e=>Sml (Jf.2.2.1++[Rul.mk y21 (Ex.mk Za.1 Za.2 Za.3 Za.4 Za.5) z4e]).length/\Z7 (Jf.2.2.1++[Rul.mk y21 (Ex.mk Za.1 Za.2 Za.3 Za.4 Za.5) z4e]) fun u0m _ u2u=>Cnd (u2u=true) (Fits u0m->Cnd ((0:Int)<(↑u0m.length:Int)) ((Jf.2.2.1++[Rul.mk y21 (Ex.mk Za.1 Za.2 Za.3 Za.4 Za.5) z4e]).length<=(9223372036854775807:Nat)->InI ((↑(Jf.2.2.1++[Rul.mk y21 (Ex.mk Za.1 Za.2 Za.3 Za.4 Za.5) z4e]).length:Int) - 1)/\((0:Int)<=(↑(Jf.2.2.1++[Rul.mk y21 (Ex.mk Za.1 Za.2 Za.3 Za.4 Za.5) z4e]).length:Int) - 1/\(↑(Jf.2.2.1++[Rul.mk y21 (Ex.mk Za.1 Za.2 Za.3 Za.4 Za.5) z4e]).length:Int) - 1<=(↑(Jf.2.2.1++[Rul.mk y21 (Ex.mk Za.1 Za.2 Za.3 Za.4 Za.5) z4e]).length:Int))/\y74 (y0e,List.take ((↑(Jf.2.2.1++[Rul.mk y21 (Ex.mk Za.1 Za.2 Za.3 Za.4 Za.5) z4e]).length:Int) - 1).toNat (Jf.2.2.1++[Rul.mk y21 (Ex.mk Za.1 Za.2 Za.3 Za.4 Za.5) z4e]),Jf.2.2.2.1,Jf.2.2.2.2.1,Jf.2.2.2.2.2.1,Jf.2.2.2.2.2.2.1,Jf.2.2.2.2.2.2.2.1,Jf.2.2.2.2.2.2.2.2.1,Jf.2.2.2.2.2.2.2.2.2.1,Jf.2.2.2.2.2.2.2.2.2.2.1,())) (InI (Jf.1+1)/\u2r (Jf.1+1,y0e,Jf.2.2.1++[Rul.mk y21 (Ex.mk Za.1 Za.2 Za.3 Za.4 Za.5) z4e],Jf.2.2.2.1,Jf.2.2.2.2.1,Jf.2.2.2.2.2.1,Jf.2.2.2.2.2.2.1,Jf.2.2.2.2.2.2.2.1,Jf.2.2.2.2.2.2.2.2.1,Jf.2.2.2.2.2.2.2.2.2.1,Jf.2.2.2.2.2.2.2.2.2.2.1,()))) ((Jf.2.2.1++[Rul.mk y21 (Ex.mk Za.1 Za.2 Za.3 Za.4 Za.5) z4e]).length<=(9223372036854775807:Nat)->InI ((↑(Jf.2.2.1++[Rul.mk y21 (Ex.mk Za.1 Za.2 Za.3 Za.4 Za.5) z4e]).length:Int) - 1)/\((0:Int)<=(↑(Jf.2.2.1++[Rul.mk y21 (Ex.mk Za.1 Za.2 Za.3 Za.4 Za.5) z4e]).length:Int) - 1/\(↑(Jf.2.2.1++[Rul.mk y21 (Ex.mk Za.1 Za.2 Za.3 Za.4 Za.5) z4e]).length:Int) - 1<=(↑(Jf.2.2.1++[Rul.mk y21 (Ex.mk Za.1 Za.2 Za.3 Za.4 Za.5) z4e]).length:Int))/\y74 (y0e,List.take ((↑(Jf.2.2.1++[Rul.mk y21 (Ex.mk Za.1 Za.2 Za.3 Za.4 Za.5) z4e]).length:Int) - 1).toNat (Jf.2.2.1++[Rul.mk y21 (Ex.mk Za.1 Za.2 Za.3 Za.4 Za.5) z4e]),Jf.2.2.2.1,Jf.2.2.2.2.1,Jf.2.2.2.2.2.1,Jf.2.2.2.2.2.2.1,Jf.2.2.2.2.2.2.2.1,Jf.2.2.2.2.2.2.2.2.1,Jf.2.2.2.2.2.2.2.2.2.1,Jf.2.2.2.2.2.2.2.2.2.2.1,()))) (y74 (y3n,Jf.2.2.1,Jf.2.2.2.1,Jf.2.2.2.2.1,Jf.2.2.2.2.2.1,Jf.2.2.2.2.2.2.1,Jf.2.2.2.2.2.2.2.1,Jf.2.2.2.2.2.2.2.2.1,Jf.2.2.2.2.2.2.2.2.2.1,Jf.2.2.2.2.2.2.2.2.2.2.1,()))) ((0:Int),u0j,[],[B8 [102,105,114,115,116],B8 [115,101,99,111,110,100],B8 [116,104,105,114,100],B8 [102,111,117,114,116,104]],Rs.2.2.2.2.2.2.2.2.1,Rs.2.2.2.2.2.2.2.1,Rs.2.2.2.2.2.2.1,Rs.2.2.2.2.2.1,Rs.2.2.2.2.1,Rs.2.2.2.1,Rs.2.1,()))) ((0:Int),[],We.2.2.1,We.2.2.2.2.2.2.2.1,We.2.2.2.2.2.2.1,We.2.2.2.2.2.1,We.2.2.2.2.1,We.2.2.2.1,We.2.1,()))) ((0:Int),[],w5z,Gc.2.2.2.2.2.2.1,Gc.2.2.2.2.2.1,Gc.2.2.2.2.1,Gc.2.2.2.1,Gc.2.2.1,()))) ((0:Int),q9k,[],Qk.2.2.2.2.2.1,Qk.2.2.2.2.1,Qk.2.2.1,Qk.2.2.2.1,())) (Qb list Qk.2.1 (3:Int) fun Wk z98=>q3f Wk [B8 [108,97],B8 [108,98]] fun Wr=>LpH (fun (Wo:Int×Int×List Lay_×List Exper×List Seg×List Flg×Unit) (y0k:Int×Int×List Lay_×List Exper×List Seg×List Flg×Unit->Prop)=>Fits Wr->CAt Wr Wo.1 (fun y11=>j2m list Wo.2.1 y11 fun Q5 w5z=>Sml (Wo.2.2.1++[Q5]).length/\InI (Wo.1+1)/\y0k (Wo.1+1,w5z,Wo.2.2.1++[Q5],Wo.2.2.2.1,Wo.2.2.2.2.1,Wo.2.2.2.2.2.1,())) (Qb list Wo.2.1 (4:Int) fun Wi q9k=>q3f Wi [B8 [120,97],B8 [120,98],B8 [120,99]] fun Gc=>LpH (fun (Q5:Int×Int×List Exper×List Flg×List Seg×List Lay_×Unit) (u0n:Int×Int×List Exper×List Flg×List Seg×List Lay_×Unit->Prop)=>Fits Gc->Cnd (Q5.1<(↑Gc.length:Int)) (Fits Q5.2.2.2.1->Cnd ((0:Int)<(↑Q5.2.2.2.1.length:Int)) (Fits Q5.2.2.2.2.2.1->Cnd ((0:Int)<(↑Q5.2.2.2.2.2.1.length:Int)) (At Gc Q5.1 fun y17=>Fits Q5.2.2.2.1->Qb list Q5.2.1 (↑Q5.2.2.2.1.length:Int) fun q4t y3n=>At Q5.2.2.2.1 q4t fun y21=>Fits Q5.2.2.2.2.2.1->Fits y21.3->Qb list y3n (↑Q5.2.2.2.2.2.1.length:Int) fun z4e y0e=>At Q5.2.2.2.2.2.1 z4e fun y26=>Wq list y0e fun w1h u2v=>Qb list u2v (3:Int) fun y3o u2w=>InI ((1:Int)+y3o)/\q3g list u2w (↑y21.3.length:Int) fun y75 u0o=>Jn1 (fun (q6l:Int×Int×List Rng×List Exper×List Lay_×List Flg×List Seg×Unit)=>Jn1 (fun (Q9:Int×ByteArray×ByteArray×List Val×List Ex×Int×List Seg×List Flg×List Lay_×List Exper×List Rng×Unit)=>z7y (Envt.mk (Sett.mk Zl w52 w0b) y0m Q9.2.2.2.2.2.2.1 Q9.2.2.2.2.2.2.2.1 Q9.2.2.2.2.2.2.2.2.1 Q9.2.2.2.2.2.2.2.2.2.1) y26.1 now fun (y76:List Spn) (y77:Int)=>W5 list Q9.2.2.2.2.2.1 (8000:Int) fun (y78 u2x:Int)=>W5 list u2x (8000:Int) fun (v1m y79:Int)=>G3 y76 [Spn.mk y78 v1m] fun (u2y:List Spn)=>W5 list y79 (7000:Int) fun (u2z u0p:Int)=>z4d u2y u2z fun (w1i:List Spn)=>Sml (Q9.2.2.2.2.2.2.2.2.2.1++[Exper.mk y17 y26.1 y21.1 w1h q6l.1 w1i Q9.2.2.2.2.2.2.2.2.2.2.1 (Ex.mk Q9.1 Q9.2.1 Q9.2.2.1 Q9.2.2.2.1 Q9.2.2.2.2.1)]).length/\Wy (Envt.mk (Sett.mk Zl w52 w0b) y0m Q9.2.2.2.2.2.2.1 Q9.2.2.2.2.2.2.2.1 Q9.2.2.2.2.2.2.2.2.1 (Q9.2.2.2.2.2.2.2.2.2.1++[Exper.mk y17 y26.1 y21.1 w1h q6l.1 w1i Q9.2.2.2.2.2.2.2.2.2.2.1 (Ex.mk Q9.1 Q9.2.1 Q9.2.2.1 Q9.2.2.2.1 Q9.2.2.2.2.1)])) fun (u20:Bool)=>Cnd (u20=true) (InI (Q5.1+1)/\u0n (Q5.1+1,u0p,Q9.2.2.2.2.2.2.2.2.2.1++[Exper.mk y17 y26.1 y21.1 w1h q6l.1 w1i Q9.2.2.2.2.2.2.2.2.2.2.1 (Ex.mk Q9.1 Q9.2.1 Q9.2.2.1 Q9.2.2.2.1 Q9.2.2.2.2.1)],Q9.2.2.2.2.2.2.2.1,Q9.2.2.2.2.2.2.1,Q9.2.2.2.2.2.2.2.2.1,())) ((Q9.2.2.2.2.2.2.2.2.2.1++[Exper.mk y17 y26.1 y21.1 w1h q6l.1 w1i Q9.2.2.2.2.2.2.2.2.2.2.1 (Ex.mk Q9.1 Q9.2.1 Q9.2.2.1 Q9.2.2.2.1 Q9.2.2.2.2.1)]).length<=(9223372036854775807:Nat)->InI ((↑(Q9.2.2.2.2.2.2.2.2.2.1++[Exper.mk y17 y26.1 y21.1 w1h q6l.1 w1i Q9.2.2.2.2.2.2.2.2.2.2.1 (Ex.mk Q9.1 Q9.2.1 Q9.2.2.1 Q9.2.2.2.1 Q9.2.2.2.2.1)]).length:Int) - 1)/\((0:Int)<=(↑(Q9.2.2.2.2.2.2.2.2.2.1++[Exper.mk y17 y26.1 y21.1 w1h q6l.1 w1i Q9.2.2.2.2.2.2.2.2.2.2.1 (Ex.mk Q9.1 Q9.2.1 Q9.2.2.1 Q9.2.2.2.1 Q9.2.2.2.2.1)]).length:Int) - 1/\(↑(Q9.2.2.2.2.2.2.2.2.2.1++[Exper.mk y17 y26.1 y21.1 w1h q6l.1 w1i Q9.2.2.2.2.2.2.2.2.2.2.1 (Ex.mk Q9.1 Q9.2.1 Q9.2.2.1 Q9.2.2.2.1 Q9.2.2.2.2.1)]).length:Int) - 1<=(↑(Q9.2.2.2.2.2.2.2.2.2.1++[Exper.mk y17 y26.1 y21.1 w1h q6l.1 w1i Q9.2.2.2.2.2.2.2.2.2.2.1 (Ex.mk Q9.1 Q9.2.1 Q9.2.2.1 Q9.2.2.2.1 Q9.2.2.2.2.1)]).length:Int))/\InI (Q5.1+1)/\u0n (Q5.1+1,u0p,List.take ((↑(Q9.2.2.2.2.2.2.2.2.2.1++[Exper.mk y17 y26.1 y21.1 w1h q6l.1 w1i Q9.2.2.2.2.2.2.2.2.2.2.1 (Ex.mk Q9.1 Q9.2.1 Q9.2.2.1 Q9.2.2.2.1 Q9.2.2.2.2.1)]).length:Int) - 1).toNat (Q9.2.2.2.2.2.2.2.2.2.1++[Exper.mk y17 y26.1 y21.1 w1h q6l.1 w1i Q9.2.2.2.2.2.2.2.2.2.2.1 (Ex.mk Q9.1 Q9.2.1 Q9.2.2.1 Q9.2.2.2.1 Q9.2.2.2.2.1)]),Q9.2.2.2.2.2.2.2.1,Q9.2.2.2.2.2.2.1,Q9.2.2.2.2.2.2.2.2.1,()))) fun (u0q:Int×ByteArray×ByteArray×List Val×List Ex×Int×List Seg×List Flg×List Lay_×List Exper×List Rng×Unit->Prop)=>Qb list q6l.2.1 (2:Int) fun (y76 y77:Int)=>Cnd (y76=1) (Rr (Envt.mk (Sett.mk Zl w52 w0b) y0m q6l.2.2.2.2.2.2.1 q6l.2.2.2.2.2.1 q6l.2.2.2.2.1 q6l.2.2.2.1) fun (y78:List ByteArray)=>q47 list y77 y78 (2:Int) fun (v1m:Ex) (y79:Int)=>u0q (v1m.1,v1m.2,v1m.3,v1m.4,v1m.5,y79,q6l.2.2.2.2.2.2.1,q6l.2.2.2.2.2.1,q6l.2.2.2.2.1,q6l.2.2.2.1,q6l.2.2.1,())) (u0q ((1:Int),B8 [],B8 [],[],[],y77,q6l.2.2.2.2.2.2.1,q6l.2.2.2.2.2.1,q6l.2.2.2.2.1,q6l.2.2.2.1,q6l.2.2.1,()))) fun (y8a:Int×Int×List Rng×List Exper×List Lay_×List Flg×List Seg×Unit->Prop)=>Cnd ((1:Int)+y3o=1) (Qb list u0o (2:Int) fun Q9 u0r=>Cnd (Q9=0) (y8a ((2:Int),u0r,y75,Q5.2.2.1,Q5.2.2.2.2.2.1,Q5.2.2.2.1,Q5.2.2.2.2.1,())) (y8a ((1:Int)+y3o,u0r,y75,Q5.2.2.1,Q5.2.2.2.2.2.1,Q5.2.2.2.1,Q5.2.2.2.2.1,()))) (y8a ((1:Int)+y3o,u0o,y75,Q5.2.2.1,Q5.2.2.2.2.2.1,Q5.2.2.2.1,Q5.2.2.2.2.1,()))) (Wy (Envt.mk (Sett.mk Zl w52 w0b) y0m Q5.2.2.2.2.1 Q5.2.2.2.1 Q5.2.2.2.2.2.1 Q5.2.2.1) fun y0d=>Cnd (y0d=true) (K (Envt.mk (Sett.mk Zl w52 w0b) y0m Q5.2.2.2.2.1 Q5.2.2.2.1 Q5.2.2.2.2.2.1 Q5.2.2.1) Q5.2.1) (Q1 fun z17=>K (Envt.mk (Sett.mk (B8 []) (B8 []) (0:Int)) z17 [] [] [] []) Q5.2.1))) (Wy (Envt.mk (Sett.mk Zl w52 w0b) y0m Q5.2.2.2.2.1 Q5.2.2.2.1 Q5.2.2.2.2.2.1 Q5.2.2.1) fun Rs=>Cnd (Rs=true) (K (Envt.mk (Sett.mk Zl w52 w0b) y0m Q5.2.2.2.2.1 Q5.2.2.2.1 Q5.2.2.2.2.2.1 Q5.2.2.1) Q5.2.1) (Q1 fun y0d=>K (Envt.mk (Sett.mk (B8 []) (B8 []) (0:Int)) y0d [] [] [] []) Q5.2.1))) (Wy (Envt.mk (Sett.mk Zl w52 w0b) y0m Q5.2.2.2.2.1 Q5.2.2.2.1 Q5.2.2.2.2.2.1 Q5.2.2.1) fun z15=>Cnd (z15=true) (K (Envt.mk (Sett.mk Zl w52 w0b) y0m Q5.2.2.2.2.1 Q5.2.2.2.1 Q5.2.2.2.2.2.1 Q5.2.2.1) Q5.2.1) (Q1 fun Rs=>K (Envt.mk (Sett.mk (B8 []) (B8 []) (0:Int)) Rs [] [] [] []) Q5.2.1))) ((0:Int),q9k,Wo.2.2.2.1,Wo.2.2.2.2.2.1,Wo.2.2.2.2.1,Wo.2.2.1,()))) ((0:Int),z98,Qk.2.2.2.2.1,Qk.2.2.2.2.2.1,Qk.2.2.2.1,Qk.2.2.1,()))) ((0:Int),Hy,u3p,u3o,u3q,u3r,())) fun j6z=>Qb list at_ (2:Int) fun Qj Zl=>Cnd (Qj=1) (Wq list Zl fun Ql Hy=>W5 list Hy (2500:Int) fun Qu Wd=>j6z (Ql,B8 [117,115,101,114],Qu,Wd,Qa,())) (j6z (B8 [],B8 [],(0:Int),Zl,Qa,()))
def q2c:Rb:=q8u Ge q9t Wf j6l B0 j0t j0w q1s j0v Zp j00 z2i z44 z64 z6y q8j z2p Vm
abbrev q2d:Type:=Int->(Bool->Prop)->Prop
def Gl:q2d:=fun op K=>Cnd ((6:Int)<=op) (K (decide (op<=15))) (K false)
abbrev Q6:Type:=List (ByteArray)->List (ByteArray)->(Bool->Prop)->Prop
def Zn:Q6:=fun s1 s2 K=>Fits s1->Fits s2->Cnd ((↑s1.length:Int)=(↑s2.length:Int)) (Fits s1->Lp1 (fun Ql j0b=>CAt s1 Ql (fun y4=>At s2 Ql fun y6=>Cnd (y4=y6) (InI (Ql+1)/\j0b (Ql+1)) (K false)) (K true)) (0:Int)) (K false)
abbrev q90:Type:=Val->Val->(Bool->Prop)->Prop
def z5b(Qo:Q6):q90:=fun a b K=>Cnd (a.1=b.1) (Cnd (a.2=b.2) (Cnd (a.3=b.3) (Qo a.4 b.4 fun Qa=>K Qa) (K false)) (K false)) (K false)
def q1k:q90:=z5b Zn
abbrev q36:Type:=Ex->Ex->(Bool->Prop)->Prop
def z9a(w8y:q90)(X:q36):q36:=fun a b K=>Cnd (a.1=b.1) (Cnd (a.2=b.2) (Cnd (a.3=b.3) (Fits a.4->Fits b.4->Cnd ((↑a.4.length:Int)=(↑b.4.length:Int)) (Fits a.4->Lp1 (fun Ql j0b=>CAt a.4 Ql (fun y4=>At b.4 Ql fun y6=>w8y y4 y6 fun Wr=>Cnd (Wr=true) (InI (Ql+1)/\j0b (Ql+1)) (K false)) (Fits a.5->Fits b.5->Cnd ((↑a.5.length:Int)=(↑b.5.length:Int)) (Fits a.5->Lp1 (fun Wk y0a=>CAt a.5 Wk (fun y8=>At b.5 Wk fun y10=>X (Ex.mk y8.1 y8.2 y8.3 y8.4 y8.5) (Ex.mk y10.1 y10.2 y10.3 y10.4 y10.5) fun Gc=>Cnd (Gc=true) (InI (Wk+1)/\y0a (Wk+1)) (K false)) (K true)) (0:Int)) (K false))) (0:Int)) (K false)) (K false)) (K false)) (K false)
def q0w:q36:=fun a b K=> ∀X:q36,(∀a b K,z9a q1k X a b K->X a b K)->X a b K
abbrev Ur:Type:=List (Ex)->Ex->(List (Ex)->Prop)->Prop
def z0s(Bl:q2d)(j99:q36)(X:Ur):Ur:=fun l e K=>Jn1 (fun Qa=>Fits e.5->Lp2 (fun Qj Zl q77=>CAt e.5 Zl (fun y3=>X Qj (Ex.mk y3.1 y3.2 y3.3 y3.4 y3.5) fun Qk=>InI (Zl+1)/\q77 Qk (Zl+1)) (K Qj)) Qa (0:Int)) fun q48=>Bl e.1 fun Qc=>Cnd (Qc=true) (Fits l->Lp1 (fun Ql j0b=>CAt l Ql (fun y4=>j99 (Ex.mk y4.1 y4.2 y4.3 y4.4 y4.5) (Ex.mk e.1 e.2 e.3 e.4 e.5) fun Zu=>Cnd (Zu=true) (Cnd ((0:Int)<=Ql) (q48 l) (Sml (l++[Ex.mk e.1 e.2 e.3 e.4 e.5]).length/\q48 (l++[Ex.mk e.1 e.2 e.3 e.4 e.5]))) (InI (Ql+1)/\j0b (Ql+1))) (Cnd ((0:Int)<=(-1:Int)) (q48 l) (Sml (l++[Ex.mk e.1 e.2 e.3 e.4 e.5]).length/\q48 (l++[Ex.mk e.1 e.2 e.3 e.4 e.5])))) (0:Int)) (Cnd (e.1=5) (Fits l->Lp1 (fun Ql j0b=>CAt l Ql (fun y4=>j99 (Ex.mk y4.1 y4.2 y4.3 y4.4 y4.5) (Ex.mk e.1 e.2 e.3 e.4 e.5) fun Zu=>Cnd (Zu=true) (Cnd ((0:Int)<=Ql) (q48 l) (Sml (l++[Ex.mk e.1 e.2 e.3 e.4 e.5]).length/\q48 (l++[Ex.mk e.1 e.2 e.3 e.4 e.5]))) (InI (Ql+1)/\j0b (Ql+1))) (Cnd ((0:Int)<=(-1:Int)) (q48 l) (Sml (l++[Ex.mk e.1 e.2 e.3 e.4 e.5]).length/\q48 (l++[Ex.mk e.1 e.2 e.3 e.4 e.5])))) (0:Int)) (q48 l))
def q4y:Ur:=fun l e K=> ∀X:Ur,(∀l e K,z0s Gl q0w X l e K->X l e K)->X l e K
abbrev Ub:Type:=Val->(Val->Prop)->Prop
def Jz:Ub:=fun v K=> ∀n0,(n0=true->v.4=[])->Cnd (n0=true) (K (Val.mk v.1 v.2 v.3 [])) (Sml ([]++v.4).length/\K (Val.mk v.1 v.2 v.3 ([]++v.4)))
abbrev Rd:Type:=Ex->(Ex->Prop)->Prop
def z5c(Z8:Ub)(X:Rd):Rd:=fun e K=>Fits e.4->((0:Int)<=(0:Int)/\(0:Int)<=(↑e.4.length:Int)/\Sml (↑e.4.length:Int).toNat)/\(Fits e.4->Lp2 (fun Qj Zl q77=>CAt e.4 Zl (fun y3=>Z8 y3 fun Qk=>Sml (Qj++[Qk]).length/\InI (Zl+1)/\q77 (Qj++[Qk]) (Zl+1)) (Fits e.5->((0:Int)<=(0:Int)/\(0:Int)<=(↑e.5.length:Int)/\Sml (↑e.5.length:Int).toNat)/\(Fits e.5->Lp2 (fun Qk z1a y0l=>CAt e.5 z1a (fun y6=>X (Ex.mk y6.1 y6.2 y6.3 y6.4 y6.5) fun Wr=>Sml (Qk++[Ex.mk Wr.1 Wr.2 Wr.3 Wr.4 Wr.5]).length/\InI (z1a+1)/\y0l (Qk++[Ex.mk Wr.1 Wr.2 Wr.3 Wr.4 Wr.5]) (z1a+1)) (K (Ex.mk e.1 e.2 e.3 Qj Qk))) (List.replicate (Int.toNat (0:Int)) (Ex.mk (0:Int) (B8 []) (B8 []) [] [])) (0:Int)))) (List.replicate (Int.toNat (0:Int)) (Val.mk (0:Int) (0:Int) (B8 []) [])) (0:Int))
def q91:Rd:=fun e K=> ∀X:Rd,(∀e K,z5c Jz X e K->X e K)->X e K
abbrev B3:Type:=Ex->(List (Ex)->Prop)->Prop
def z0t(q5b:Ur)(z0k:Rd):B3:=fun e K=>q5b [] (Ex.mk e.1 e.2 e.3 e.4 e.5) fun Qa=>Fits Qa->((0:Int)<=(0:Int)/\(0:Int)<=(↑Qa.length:Int)/\Sml (↑Qa.length:Int).toNat)/\(Fits Qa->Lp2 (fun Ql Hy w1e=>CAt Qa Hy (fun y4=>z0k (Ex.mk y4.1 y4.2 y4.3 y4.4 y4.5) fun Zu=>Sml (Ql++[Ex.mk Zu.1 Zu.2 Zu.3 Zu.4 Zu.5]).length/\InI (Hy+1)/\w1e (Ql++[Ex.mk Zu.1 Zu.2 Zu.3 Zu.4 Zu.5]) (Hy+1)) (K Ql)) (List.replicate (Int.toNat (0:Int)) (Ex.mk (0:Int) (B8 []) (B8 []) [] [])) (0:Int))
def z0u:B3:=z0t q4y q91
abbrev Zv:Type:=List (ByteArray)->(List (ByteArray)->Prop)->Prop
def Jv(x:List (ByteArray))(K:List (ByteArray)->Prop):Prop:=K (srt x)
abbrev J9:Type:=List (ByteArray)->(List (ByteArray)->Prop)->Prop
def Wa(s:List (ByteArray))(K:List (ByteArray)->Prop):Prop:=K (cpt s)
abbrev Hb:Type:=Ex->(List (ByteArray)->Prop)->Prop
def q55(q5c:B3)(Qq:Zv)(Z9:J9):Hb:=fun e K=>q5c (Ex.mk e.1 e.2 e.3 e.4 e.5) fun Qa=>Fits Qa->Lp2 (fun Qj Zl q77=>CAt Qa Zl (fun y3=>Cnd (y3.1=5) (Sml (Qj++[y3.3]).length/\InI (Zl+1)/\q77 (Qj++[y3.3]) (Zl+1)) (InI (Zl+1)/\q77 Qj (Zl+1))) (Qq Qj fun Ql=>Z9 Ql fun Qu=>K Qu)) [] (0:Int)
def q0e:Hb:=q55 z0u Jv Wa
abbrev z2w:Type:=List (ByteArray)->List (Edg)->(List (ByteArray)->Int->Prop)->Prop
def P_graph_Order(nodes:List (ByteArray))(edges:List (Edg))(K:List (ByteArray)->Int->Prop):Prop:=Go.Fl.P_graph_Order nodes (edges.map fun e=>(e.1,e.2)) K
abbrev Re:Type:=List (Seg)->(List (ByteArray)->Int->Prop)->Prop
def q8v(q0n:Hb)(q7o:z2w):Re:=fun l K=>Fits l->Lp3 (fun Qc Je z99 v98=>CAt l z99 (fun y2=>Sml (Qc++[y2.1]).length/\q0n (Ex.mk y2.5.1 y2.5.2 y2.5.3 y2.5.4 y2.5.5) fun Qu=>Fits Qu->Lp2 (fun Zu z09 y0i=>CAt Qu z09 (fun y7=>Sml (Zu++[Edg.mk y2.1 y7]).length/\InI (z09+1)/\y0i (Zu++[Edg.mk y2.1 y7]) (z09+1)) (InI (z99+1)/\v98 (Qc++[y2.1]) Zu (z99+1))) Je (0:Int)) (q7o Qc Je fun Qj Zl=>K Qj Zl)) [] [] (0:Int)
def q2e:Re:=q8v q0e P_graph_Order
abbrev U5:Type:=Subj->ByteArray->(Int->Prop)->Prop
def Rf:U5:=fun s kind K=>Fits s.1->Lp1 (fun Qc Bh=>CAt s.1 Qc (fun y2=>Cnd (y2.1=kind) (K Qc) (InI (Qc+1)/\Bh (Qc+1))) (K (-1:Int))) (0:Int)
abbrev U6:Type:=Attr->(Attr->Prop)->Prop
def q37(Z8:Ub):U6:=fun a K=>Z8 (Val.mk a.2.1 a.2.2 a.2.3 a.2.4) fun Qa=>K (Attr.mk a.1 Qa)
def R4:U6:=q37 Jz
abbrev Rg:Type:=Ctxt->(Ctxt->Prop)->Prop
def q8w(Bm:U6):Rg:=fun c K=>Fits c.3->((0:Int)<=(0:Int)/\(0:Int)<=(↑c.3.length:Int)/\Sml (↑c.3.length:Int).toNat)/\(Fits c.3->Lp2 (fun Qj Zl q77=>CAt c.3 Zl (fun y3=>Bm (Attr.mk y3.1 (Val.mk y3.2.1 y3.2.2 y3.2.3 y3.2.4)) fun Qk=>Sml (Qj++[Attr.mk Qk.1 (Val.mk Qk.2.1 Qk.2.2 Qk.2.3 Qk.2.4)]).length/\InI (Zl+1)/\q77 (Qj++[Attr.mk Qk.1 (Val.mk Qk.2.1 Qk.2.2 Qk.2.3 Qk.2.4)]) (Zl+1)) (K (Ctxt.mk c.1 c.2 Qj))) (List.replicate (Int.toNat (0:Int)) (Attr.mk (B8 []) (Val.mk (0:Int) (0:Int) (B8 []) []))) (0:Int))
def q2f:Rg:=q8w R4
abbrev Zq:Type:=Subj->ByteArray->(Ctxt->Bool->Prop)->Prop
def z0v(J4:U5)(q3p:Rg):Zq:=fun s kind K=>J4 (Subj.mk s.1) kind fun Qa=>Cnd (Qa<0) (K (Ctxt.mk (B8 []) (B8 []) []) false) (At s.1 Qa fun y1=>q3p y1 fun Ql=>K Ql true)
def Vc:Zq:=z0v Rf q2f
abbrev Ww:Type:=Subj->ByteArray->ByteArray->(Val->Bool->Prop)->Prop
def q56(J4:U5)(Z8:Ub):Ww:=fun s kind name K=>J4 (Subj.mk s.1) kind fun Qa=>Cnd (Qa<0) (K (Val.mk (0:Int) (0:Int) (B8 []) []) false) (At s.1 Qa fun y1=>Cnd (name=B8 [107,101,121]) (K (Val.mk (3:Int) (0:Int) y1.2 []) true) (Fits y1.3->Lp5 (fun Qu Wd j2f y0j (u2g:List ByteArray) u0y=>CAt y1.3 Qu (fun y5=>Cnd (y5.1=name) (Z8 (Val.mk y5.2.1 y5.2.2 y5.2.3 y5.2.4) fun Wk=>K Wk true) (InI (Qu+1)/\u0y (Qu+1) Wd j2f y0j u2g)) (K (Val.mk (0:Int) (0:Int) (B8 []) []) false)) (0:Int) (0:Int) (0:Int) (B8 []) []))
def Hc:Ww:=q56 Rf Jz
abbrev q2g:Type:=Val->Val->(Bool->Prop)->Prop
def z2x(Qo:Q6):q2g:=fun a b K=>Cnd (a.1=b.1) (Cnd (a.2=b.2) (Cnd (a.3=b.3) (Qo a.4 b.4 fun Qa=>K Qa) (K false)) (K false)) (K false)
def q2h:q2g:=z2x Zn
abbrev Z6:Type:=ByteArray->ByteArray->(Bool->Prop)->Prop
def J0:Z6:=fun s prefix_ K=>Cnd ((↑prefix_.size:Int)<=(↑s.size:Int)) (((0:Int)<=(0:Int)/\(0:Int)<=(↑prefix_.size:Int)/\(↑prefix_.size:Int)<=(↑s.size:Int))/\K (decide (s.extract (Int.toNat (0:Int)) (↑prefix_.size:Int).toNat=prefix_))) (K false)
abbrev Vn:Type:=ByteArray->ByteArray->(Bool->Prop)->Prop
def q0x(Q3:Z6):Vn:=fun s prefix_ K=>Q3 s prefix_ fun Qa=>K Qa
def Gm:Vn:=q0x J0
abbrev W2:Type:=ByteArray->ByteArray->(Bool->Prop)->Prop
def Gn:W2:=fun s suffix K=>Cnd ((↑suffix.size:Int)<=(↑s.size:Int)) (InI ((↑s.size:Int) - (↑suffix.size:Int))/\((0:Int)<=(↑s.size:Int) - (↑suffix.size:Int)/\(↑s.size:Int) - (↑suffix.size:Int)<=(↑s.size:Int)/\(↑s.size:Int)<=(↑s.size:Int))/\K (decide (s.extract ((↑s.size:Int) - (↑suffix.size:Int)).toNat (↑s.size:Int).toNat=suffix))) (K false)
abbrev Vo:Type:=ByteArray->ByteArray->(Bool->Prop)->Prop
def q0y(W6:W2):Vo:=fun s suffix K=>W6 s suffix fun Qa=>K Qa
def Gq:Vo:=q0y Gn
abbrev q2i:Type:=ByteArray->ByteArray->(Bool->Prop)->Prop
def q2j(s:ByteArray)(substr:ByteArray)(K:Bool->Prop):Prop:=s.size<4294967281/\K (Go.Lib.contains s.data.toList substr.data.toList)
abbrev q6z:Type:=Val->(Bool->Prop)->Prop
def q60:q6z:=fun v K=>Jn1 (fun Qa=>Cnd (Qa=true) (Cnd (v.3=B8 []) (Fits v.4->K (decide ((↑v.4.length:Int)=0))) (K false)) (Jn1 (fun Qc=>Cnd (Qc=true) (Cnd (v.2=0) (Fits v.4->K (decide ((↑v.4.length:Int)=0))) (K false)) (Cnd (v.2=0) (K (decide (v.3=B8 []))) (K false))) fun j6z=>Cnd (v.1=3) (j6z (decide (v.1=3))) (j6z (decide (v.1=4))))) fun q48=>Cnd (v.1=1) (q48 (decide (v.1=1))) (q48 (decide (v.1=2)))
abbrev q5q:Type:=ByteArray->(Bool->Prop)->Prop
def z5d(Zx:V4):q5q:=fun s K=>Cnd ((200:Int)<(↑s.size:Int)) (K false) (Zx s fun Qa=>Cnd (Qa=true) (Lp1 (fun (Qc:ByteArray×Nat) Bh=>Cnd (Qc.2<Qc.1.size) (Cnd ((↑(Go.Utf8.decode Qc.1 Qc.2).1:Int)<(32:Int)) (K false) (Cnd ((↑(Go.Utf8.decode Qc.1 Qc.2).1:Int)=(127:Int)) (K false) (Bh (Qc.1,Qc.2+(Go.Utf8.decode Qc.1 Qc.2).2)))) (K true)) (s,(0:Nat))) (K false))
def q92:q5q:=z5d Jy
abbrev q8x:Type:=ByteArray->ByteArray->(List (ByteArray)->Prop)->Prop
def q8y(s:ByteArray)(sep:ByteArray)(K:List (ByteArray)->Prop):Prop:=sep.size=1/\s.size<4294967281/\K (q1b s sep)
abbrev J1:Type:=ByteArray->ByteArray->(ByteArray->Bool->Prop)->Prop
def Gs(Q3:Z6):J1:=fun s prefix_ K=>Q3 s prefix_ fun Qa=>Cnd (Qa=true) (((0:Int)<=(↑prefix_.size:Int)/\(↑prefix_.size:Int)<=(↑s.size:Int)/\(↑s.size:Int)<=(↑s.size:Int))/\K (s.extract (↑prefix_.size:Int).toNat (↑s.size:Int).toNat) true) (K s false)
def Gt:J1:=Gs J0
abbrev Vp:Type:=ByteArray->ByteArray->(ByteArray->Bool->Prop)->Prop
def q0z(W7:J1):Vp:=fun s prefix_ K=>W7 s prefix_ fun Qa Qz=>K Qa Qz
def Gu:Vp:=q0z Gt
abbrev z0w:Type:=ByteArray->(Int->Bool->Prop)->Prop
def q4z(s:ByteArray)(K:Int->Bool->Prop):Prop:=s.size<=281474976710656/\y2b s K
abbrev Uc:Type:=ByteArray->(Int->Int->Prop)->Prop
def q2k(G4:Vp)(B6:z0w):Uc:=fun s K=>G4 s (B8 [45]) fun Qa Qz=>Cnd (Qa=B8 []) (K (0:Int) (1:Int)) (((0:Int)<=(0:Int)/\(0:Int)<(↑Qa.size:Int))/\ ∀b1,Qa[Int.toNat (0:Int)]? =some b1->Cnd ((↑b1.toNat:Int)=48) (Cnd ((1:Int)<(↑Qa.size:Int)) (K (0:Int) (1:Int)) (Cnd (Qz=true) (K (0:Int) (1:Int)) (Lp1 (fun (Ql:ByteArray×Nat) j0b=>Cnd (Ql.2<Ql.1.size) (Cnd ((↑(Go.Utf8.decode Ql.1 Ql.2).1:Int)<(48:Int)) (K (0:Int) (1:Int)) (Cnd ((57:Int)<(↑(Go.Utf8.decode Ql.1 Ql.2).1:Int)) (K (0:Int) (1:Int)) (j0b (Ql.1,Ql.2+(Go.Utf8.decode Ql.1 Ql.2).2)))) (B6 s fun Qu Wd=>Cnd ((match (Qu,Wd,()).2.1 with|true=>false|false=>true)=true) (K (0:Int) (3:Int)) (Cnd (Qu<(-1099511627776:Int)) (K (0:Int) (3:Int)) (Cnd ((1099511627776:Int)<Qu) (K (0:Int) (3:Int)) (K Qu (0:Int)))))) (Qa,(0:Nat))))) (Lp1 (fun (Ql:ByteArray×Nat) j0b=>Cnd (Ql.2<Ql.1.size) (Cnd ((↑(Go.Utf8.decode Ql.1 Ql.2).1:Int)<(48:Int)) (K (0:Int) (1:Int)) (Cnd ((57:Int)<(↑(Go.Utf8.decode Ql.1 Ql.2).1:Int)) (K (0:Int) (1:Int)) (j0b (Ql.1,Ql.2+(Go.Utf8.decode Ql.1 Ql.2).2)))) (B6 s fun Qu Wd=>Cnd ((match (Qu,Wd,()).2.1 with|true=>false|false=>true)=true) (K (0:Int) (3:Int)) (Cnd (Qu<(-1099511627776:Int)) (K (0:Int) (3:Int)) (Cnd ((1099511627776:Int)<Qu) (K (0:Int) (3:Int)) (K Qu (0:Int)))))) (Qa,(0:Nat))))
def Hp:Uc:=q2k Gu q4z
abbrev Gv:Type:=ByteArray->(A3->Bool->Prop)->Prop
def z2y(q3q:q8x)(Hu:Uc):Gv:=fun s K=>q3q s (B8 [46]) fun Qa=>Fits Qa->Cnd ((↑Qa.length:Int)=3) (Fits Qa->LpH (fun (Ql:Int×Int×Int×Int×Int×Int×Int×Unit) j0b=>CAt Qa Ql.1 (fun y4=>Hu y4 fun Zu z09=>Cnd (z09=0) (Cnd (Zu<0) (K ((0:Int),(0:Int),(0:Int)) false) (Cnd ((999999:Int)<Zu) (K ((0:Int),(0:Int),(0:Int)) false) (((0:Int)<=Ql.1/\Ql.1<(↑(3:Nat):Int))/\((True/\(Ql.1=(↑(nat_lit 0):Int)->InI (Ql.1+1)/\j0b (Ql.1+1,Zu,Ql.2.2.1,Ql.2.2.2.1,Ql.2.2.2.2.1,Ql.2.2.2.2.2.1,Ql.2.2.2.2.2.2.1,())))/\(Ql.1=(↑(nat_lit 1):Int)->InI (Ql.1+1)/\j0b (Ql.1+1,Ql.2.1,Zu,Ql.2.2.2.1,Ql.2.2.2.2.1,Ql.2.2.2.2.2.1,Ql.2.2.2.2.2.2.1,())))/\(Ql.1=(↑(nat_lit 2):Int)->InI (Ql.1+1)/\j0b (Ql.1+1,Ql.2.1,Ql.2.2.1,Zu,Ql.2.2.2.2.1,Ql.2.2.2.2.2.1,Ql.2.2.2.2.2.2.1,()))))) (K ((0:Int),(0:Int),(0:Int)) false)) (K (Ql.2.1,Ql.2.2.1,Ql.2.2.2.1) true)) ((0:Int),(0:Int),(0:Int),(0:Int),(0:Int),(0:Int),(0:Int),())) (K ((0:Int),(0:Int),(0:Int)) false)
def q2l:Gv:=z2y q8y Hp
abbrev q2m:Type:=Val->(Int->Prop)->Prop
def z2z(q7p:q6z)(q5z:q5q)(Wj:Gv):q2m:=fun v K=>Cnd (v.1<1) (K (7:Int)) (Cnd ((5:Int)<v.1) (K (7:Int)) (q7p v fun Qa=>Cnd (Qa=true) (Cnd (v.1=1) (Cnd (v.2=0) (K (0:Int)) (Cnd (v.2=1) (K (0:Int)) (K (3:Int)))) (Cnd (v.1=2) (Cnd (v.2<(-1099511627776:Int)) (K (3:Int)) (Cnd ((1099511627776:Int)<v.2) (K (3:Int)) (K (0:Int)))) (Cnd (v.1=3) (q5z v.3 fun Qc=>Cnd (Qc=true) (K (0:Int)) (K (2:Int))) (Cnd (v.1=4) (Wj v.3 fun (Qc:Int×Int×Int) Je=>Cnd (Je=true) (K (0:Int)) (K (1:Int))) (Cnd (v.1=5) (Fits v.4->Cnd ((20:Int)<(↑v.4.length:Int)) (K (5:Int)) (Fits v.4->Lp1 (fun Ql j0b=>CAt v.4 Ql (fun y4=>q5z y4 fun Zu=>Cnd (Zu=true) (InI (Ql+1)/\j0b (Ql+1)) (K (2:Int))) (Fits v.4->Lp1 (fun Qk w2u=>Cnd (Qk<(↑v.4.length:Int)) (Cnd ((0:Int)<Qk) (InI (Qk - 1)/\((0:Int)<=Qk - 1/\Qk - 1<(↑v.4.length:Int))/\ ∀y6,v.4[(Qk - 1).toNat]? =some y6->At v.4 Qk fun y8=>Cnd (Lk.blt y6 y8) (InI (Qk+1)/\w2u (Qk+1)) (K (9:Int))) (InI (Qk+1)/\w2u (Qk+1))) (K (0:Int))) (0:Int))) (0:Int))) (K (0:Int))))))) (K (15:Int))))
def q61:q2m:=z2z q60 q92 q2l
abbrev Rh:Type:=Val->Val->(Int->Int->Prop)->Prop
def q8z(q3r:q2m)(Wj:Gv):Rh:=fun a b K=>q3r a fun Qa=>Cnd (Qa=0) (q3r b fun Qc=>Cnd (Qc=0) (Cnd (a.1=b.1) (Cnd (a.1=1) (K (0:Int) (8:Int)) (Cnd (a.1=5) (K (0:Int) (8:Int)) (Cnd (a.1=2) (Cnd (a.2=a.2) (Cnd (b.2=b.2) (Cnd (a.2<b.2) (K (-1:Int) (0:Int)) (Cnd (b.2<a.2) (K (1:Int) (0:Int)) (K (0:Int) (0:Int)))) (K (1:Int) (0:Int))) (Cnd (b.2=b.2) (K (-1:Int) (0:Int)) (K (0:Int) (0:Int)))) (Cnd (a.1=3) (Cnd (a.3=a.3) (Cnd (b.3=b.3) (Cnd (Lk.blt a.3 b.3) (K (-1:Int) (0:Int)) (Cnd (Lk.blt b.3 a.3) (K (1:Int) (0:Int)) (K (0:Int) (0:Int)))) (K (1:Int) (0:Int))) (Cnd (b.3=b.3) (K (-1:Int) (0:Int)) (K (0:Int) (0:Int)))) (Wj a.3 fun (Qj:Int×Int×Int) Zl=>Wj b.3 fun (Ql:Int×Int×Int) Hy=>Two (([Qj.1,Qj.2.1,Qj.2.2].length<=(9223372036854775807:Nat)->Lp1 (fun Qk w2u=>Cnd (Qk<(↑[Qj.1,Qj.2.1,Qj.2.2].length:Int)) (((0:Int)<=Qk/\Qk<(↑[Qj.1,Qj.2.1,Qj.2.2].length:Int))/\ ∀y6,[Qj.1,Qj.2.1,Qj.2.2][Qk.toNat]? =some y6->[Ql.1,Ql.2.1,Ql.2.2].length<=(9223372036854775807:Nat)->Cnd ((↑[Ql.1,Ql.2.1,Ql.2.2].length:Int)<=Qk) (K (1:Int) (0:Int)) (((0:Int)<=Qk/\Qk<(↑[Ql.1,Ql.2.1,Ql.2.2].length:Int))/\ ∀y9,[Ql.1,Ql.2.1,Ql.2.2][Qk.toNat]? =some y9->Cnd (y6=y6) (Cnd (y9=y9) (Cnd (y6<y9) (Cnd ((-1:Int)=(0:Int)) (InI (Qk+1)/\w2u (Qk+1)) (K (-1:Int) (0:Int))) (Cnd (y9<y6) (Cnd ((1:Int)=(0:Int)) (InI (Qk+1)/\w2u (Qk+1)) (K (1:Int) (0:Int))) (Cnd ((0:Int)=(0:Int)) (InI (Qk+1)/\w2u (Qk+1)) (K (0:Int) (0:Int))))) (Cnd ((1:Int)=(0:Int)) (InI (Qk+1)/\w2u (Qk+1)) (K (1:Int) (0:Int)))) (Cnd (y9=y9) (Cnd ((-1:Int)=(0:Int)) (InI (Qk+1)/\w2u (Qk+1)) (K (-1:Int) (0:Int))) (Cnd ((0:Int)=(0:Int)) (InI (Qk+1)/\w2u (Qk+1)) (K (0:Int) (0:Int)))))) ([Qj.1,Qj.2.1,Qj.2.2].length<=(9223372036854775807:Nat)->[Ql.1,Ql.2.1,Ql.2.2].length<=(9223372036854775807:Nat)->Cnd ((↑[Qj.1,Qj.2.1,Qj.2.2].length:Int)<(↑[Ql.1,Ql.2.1,Ql.2.2].length:Int)) (K (-1:Int) (0:Int)) (K (0:Int) (0:Int)))) (0:Int)))))))) (K (0:Int) (8:Int))) (K (0:Int) Qc)) (K (0:Int) Qa)
def Ri:Rh:=q8z q61 q2l
abbrev q62:Type:=Subj->Ex->(Bool->Prop)->Prop
def z22(Jp:Ww)(Bl:q2d)(Bn:q2g)(G5:Vn)(G6:Vo)(Hw:q2i)(Rt:Rh):q62:=fun s e K=>Jp (Subj.mk s.1) e.2 e.3 fun Qa Qz=>Cnd (Qz=true) (Bl e.1 fun Qc=>Cnd (Qc=true) (Cnd (e.1=6) (K true) (Cnd (e.1=8) (Fits e.4->Lp1 (fun Ql j0b=>CAt e.4 Ql (fun y4=>Bn Qa y4 fun Zu=>Cnd (Zu=true) (K (decide ((0:Int)<=Ql))) (InI (Ql+1)/\j0b (Ql+1))) (K (decide ((0:Int)<=(-1:Int))))) (0:Int)) (Fits e.4->Cnd ((↑e.4.length:Int)=0) (K false) (((0:Int)<=(0:Int)/\(0:Int)<(↑e.4.length:Int))/\ ∀y3,e.4[Int.toNat (0:Int)]? =some y3->Cnd (Qa.1=3) (Cnd (e.1=7) (Bn Qa y3 fun Qk=>K Qk) (Cnd (e.1=9) (Cnd (y3.1=3) (G5 Qa.3 y3.3 fun Qk=>K Qk) (K false)) (Cnd (e.1=10) (Cnd (y3.1=3) (G6 Qa.3 y3.3 fun Qk=>K Qk) (K false)) (Cnd (e.1=11) (Cnd (y3.1=3) (Hw Qa.3 y3.3 fun Qk=>Cnd (Qk=true) (K true) (Cnd (y3.1=3) (Cnd (Qa.1=5) (Fits Qa.4->Lp1 (fun Wk y0a=>CAt Qa.4 Wk (fun y8=>Cnd (y3.3=y8) (K (decide ((0:Int)<=Wk))) (InI (Wk+1)/\y0a (Wk+1))) (K (decide ((0:Int)<=(-1:Int))))) (0:Int)) (K false)) (K false))) (Cnd (y3.1=3) (Cnd (Qa.1=5) (Fits Qa.4->Lp1 (fun Zu v5z=>CAt Qa.4 Zu (fun y7=>Cnd (y3.3=y7) (K (decide ((0:Int)<=Zu))) (InI (Zu+1)/\v5z (Zu+1))) (K (decide ((0:Int)<=(-1:Int))))) (0:Int)) (K false)) (K false))) (Rt Qa y3 fun Qk z1a=>Cnd (z1a=0) (Cnd (e.1=12) (K (decide (Qk<0))) (Cnd (e.1=13) (K (decide (Qk<=0))) (Cnd (e.1=14) (K (decide ((0:Int)<Qk))) (K (decide ((0:Int)<=Qk)))))) (K false)))))) (Cnd (e.1=7) (Bn Qa y3 fun Qk=>K Qk) (Cnd (e.1=9) (K false) (Cnd (e.1=10) (K false) (Cnd (e.1=11) (Cnd (y3.1=3) (Cnd (Qa.1=5) (Fits Qa.4->Lp1 (fun Zu v5z=>CAt Qa.4 Zu (fun y7=>Cnd (y3.3=y7) (K (decide ((0:Int)<=Zu))) (InI (Zu+1)/\v5z (Zu+1))) (K (decide ((0:Int)<=(-1:Int))))) (0:Int)) (K false)) (K false)) (Rt Qa y3 fun Qk z1a=>Cnd (z1a=0) (Cnd (e.1=12) (K (decide (Qk<0))) (Cnd (e.1=13) (K (decide (Qk<=0))) (Cnd (e.1=14) (K (decide ((0:Int)<Qk))) (K (decide ((0:Int)<=Qk)))))) (K false)))))))))) (K false)) (K false)
def R5:q62:=z22 Hc Gl q2h Gm Gq q2j Ri
abbrev Wh:Type:=Subj->List (ByteArray)->Ex->(Bool->Prop)->Prop
def z23(w50:q62)(X:Wh):Wh:=fun s in_ e K=>Cnd (e.1=1) (K true) (Cnd (e.1=2) (Fits e.5->Lp1 (fun Qc Bh=>CAt e.5 Qc (fun y2=>X (Subj.mk s.1) in_ (Ex.mk y2.1 y2.2 y2.3 y2.4 y2.5) fun Qu=>Cnd (Qu=true) (InI (Qc+1)/\Bh (Qc+1)) (K (match decide ((0:Int)<=Qc) with|true=>false|false=>true))) (K true)) (0:Int)) (Cnd (e.1=3) (Fits e.5->Lp1 (fun Qc Bh=>CAt e.5 Qc (fun y2=>X (Subj.mk s.1) in_ (Ex.mk y2.1 y2.2 y2.3 y2.4 y2.5) fun Qu=>Cnd (Qu=true) (K (decide ((0:Int)<=Qc))) (InI (Qc+1)/\Bh (Qc+1))) (K (decide ((0:Int)<=(-1:Int))))) (0:Int)) (Cnd (e.1=4) (Fits e.5->Cnd ((0:Int)<(↑e.5.length:Int)) (((0:Int)<=(0:Int)/\(0:Int)<(↑e.5.length:Int))/\ ∀y1,e.5[Int.toNat (0:Int)]? =some y1->X (Subj.mk s.1) in_ (Ex.mk y1.1 y1.2 y1.3 y1.4 y1.5) fun Ql=>K (match decide ((Ql,()).1=true) with|true=>false|false=>true)) (K false)) (Cnd (e.1=5) (Fits in_->Lp1 (fun Qc Bh=>CAt in_ Qc (fun y2=>Cnd (e.3=y2) (K (decide ((0:Int)<=Qc))) (InI (Qc+1)/\Bh (Qc+1))) (K (decide ((0:Int)<=(-1:Int))))) (0:Int)) (w50 (Subj.mk s.1) (Ex.mk e.1 e.2 e.3 e.4 e.5) fun Qa=>K Qa)))))
def Ud:Wh:=fun s in_ e K=> ∀X:Wh,(∀s in_ e K,z23 R5 X s in_ e K->X s in_ e K)->X s in_ e K
abbrev Ue:Type:=Seg->Subj->List (ByteArray)->(Bool->Prop)->Prop
def q2n(Qm:Zq)(Zy:Wh):Ue:=fun g s in_ K=>Qm (Subj.mk s.1) g.2 fun Qa Qz=>Cnd (Qz=true) (Fits g.4->Lp1 (fun Qj j4l=>CAt g.4 Qj (fun y3=>Cnd (Qa.2=y3) (Cnd ((0:Int)<=Qj) (K false) (Fits g.3->Lp1 (fun Zu v5z=>CAt g.3 Zu (fun y7=>Cnd (Qa.2=y7) (Cnd ((0:Int)<=Zu) (K true) (Cnd (g.5.1=0) (K false) (Zy (Subj.mk s.1) in_ (Ex.mk g.5.1 g.5.2 g.5.3 g.5.4 g.5.5) fun Wo=>K Wo))) (InI (Zu+1)/\v5z (Zu+1))) (Cnd ((0:Int)<=(-1:Int)) (K true) (Cnd (g.5.1=0) (K false) (Zy (Subj.mk s.1) in_ (Ex.mk g.5.1 g.5.2 g.5.3 g.5.4 g.5.5) fun Wk=>K Wk)))) (0:Int))) (InI (Qj+1)/\j4l (Qj+1))) (Cnd ((0:Int)<=(-1:Int)) (K false) (Fits g.3->Lp1 (fun Qu y8e=>CAt g.3 Qu (fun y5=>Cnd (Qa.2=y5) (Cnd ((0:Int)<=Qu) (K true) (Cnd (g.5.1=0) (K false) (Zy (Subj.mk s.1) in_ (Ex.mk g.5.1 g.5.2 g.5.3 g.5.4 g.5.5) fun Wk=>K Wk))) (InI (Qu+1)/\y8e (Qu+1))) (Cnd ((0:Int)<=(-1:Int)) (K true) (Cnd (g.5.1=0) (K false) (Zy (Subj.mk s.1) in_ (Ex.mk g.5.1 g.5.2 g.5.3 g.5.4 g.5.5) fun Qk=>K Qk)))) (0:Int)))) (0:Int)) (K false)
def Hq:Ue:=q2n Vc Ud
abbrev Wb:Type:=List (Seg)->Subj->(List (ByteArray)->Prop)->Prop
def q38(q3s:Re)(Hx:Ue)(Qq:Zv):Wb:=fun l s K=>q3s l fun Qa Qz=>Cnd (Qz=0) (Fits l->Lp2 (fun Qj j4l q77=>CAt l Qj (fun y3=>InI (Qj+1)/\q77 (Qj+1) (put j4l y3.1 (Seg.mk y3.1 y3.2 y3.3 y3.4 (Ex.mk y3.5.1 y3.5.2 y3.5.3 y3.5.4 y3.5.5)))) (Fits Qa->Lp2 (fun Qu Wd v3i=>CAt Qa Wd (fun y5=>Hx (Seg.mk ((j4l y5).getD (Seg.mk (B8 []) (B8 []) [] [] (Ex.mk (0:Int) (B8 []) (B8 []) [] []))).1 ((j4l y5).getD (Seg.mk (B8 []) (B8 []) [] [] (Ex.mk (0:Int) (B8 []) (B8 []) [] []))).2 ((j4l y5).getD (Seg.mk (B8 []) (B8 []) [] [] (Ex.mk (0:Int) (B8 []) (B8 []) [] []))).3 ((j4l y5).getD (Seg.mk (B8 []) (B8 []) [] [] (Ex.mk (0:Int) (B8 []) (B8 []) [] []))).4 (Ex.mk ((j4l y5).getD (Seg.mk (B8 []) (B8 []) [] [] (Ex.mk (0:Int) (B8 []) (B8 []) [] []))).5.1 ((j4l y5).getD (Seg.mk (B8 []) (B8 []) [] [] (Ex.mk (0:Int) (B8 []) (B8 []) [] []))).5.2 ((j4l y5).getD (Seg.mk (B8 []) (B8 []) [] [] (Ex.mk (0:Int) (B8 []) (B8 []) [] []))).5.3 ((j4l y5).getD (Seg.mk (B8 []) (B8 []) [] [] (Ex.mk (0:Int) (B8 []) (B8 []) [] []))).5.4 ((j4l y5).getD (Seg.mk (B8 []) (B8 []) [] [] (Ex.mk (0:Int) (B8 []) (B8 []) [] []))).5.5)) (Subj.mk s.1) Qu fun Wk=>Cnd (Wk=true) (Sml (Qu++[y5]).length/\InI (Wd+1)/\v3i (Qu++[y5]) (Wd+1)) (InI (Wd+1)/\v3i Qu (Wd+1))) (Qq Qu fun Qk=>K Qk)) [] (0:Int))) (0:Int) fun _=>none) (K [])
def Vg:Wb:=q38 q2e Hq Jv
abbrev Hd:Type:=Envt->Subj->List (Frc)->(ByteArray->ByteArray->Int->List (Decl)->List (Seg)->List (Flg)->List (Lay_)->List (Exper)->List (Ctxt)->List (Frc)->List (ByteArray)->(ByteArray->Option (Dcs))->(ByteArray->Option (Bool))->Prop)->Prop
def q57(Q4:Wb):Hd:=fun v s forced K=>(Q4 v.3 (Subj.mk s.1) fun Qa=>(K v.1.1 v.1.2 v.1.3 v.2 v.3 v.4 v.5 v.6 s.1 forced Qa (fun _=>none) fun _=>none)/\K v.1.1 v.1.2 v.1.3 v.2 v.3 v.4 v.5 v.6 s.1 forced Qa (fun _=>none) fun _=>none)/\((Q4 v.3 (Subj.mk s.1) fun Qa=>K v.1.1 v.1.2 v.1.3 v.2 v.3 v.4 v.5 v.6 s.1 forced Qa (fun _=>none) fun _=>none)/\Q4 v.3 (Subj.mk s.1) fun Qa=>K v.1.1 v.1.2 v.1.3 v.2 v.3 v.4 v.5 v.6 s.1 forced Qa (fun _=>none) fun _=>none)/\(Q4 v.3 (Subj.mk s.1) fun Qa=>K v.1.1 v.1.2 v.1.3 v.2 v.3 v.4 v.5 v.6 s.1 forced Qa (fun _=>none) fun _=>none)/\Q4 v.3 (Subj.mk s.1) fun Qa=>K v.1.1 v.1.2 v.1.3 v.2 v.3 v.4 v.5 v.6 s.1 forced Qa (fun _=>none) fun _=>none
def q0f:Hd:=q57 Vg
abbrev Uf:Type:=ByteArray->ByteArray->Int->List (Decl)->List (Seg)->List (Flg)->List (Lay_)->List (Exper)->List (Ctxt)->List (Frc)->List (ByteArray)->(ByteArray->Option (Dcs))->(ByteArray->Option (Bool))->ByteArray->(Flg->Bool->(ByteArray->Option (Dcs))->(ByteArray->Option (Bool))->Prop)->Prop
def J2:Uf:=fun _ _ _ _ _ flags _ _ _ _ _ done opn key K=>Fits flags->Lp1 (fun Qc Bh=>CAt flags Qc (fun y2=>Cnd (y2.1=key) (Cnd (Qc<0) (K (Flg.mk (B8 []) (0:Int) [] false (0:Int) [] [] [] (Srv.mk (0:Int) (B8 []) (B8 []) (B8 []) [])) false done opn) (At flags Qc fun y4=>K (Flg.mk y4.1 y4.2 y4.3 y4.4 y4.5 y4.6 y4.7 y4.8 (Srv.mk y4.9.1 y4.9.2 y4.9.3 y4.9.4 y4.9.5)) true done opn)) (InI (Qc+1)/\Bh (Qc+1))) (Cnd ((-1:Int)<(0:Int)) (K (Flg.mk (B8 []) (0:Int) [] false (0:Int) [] [] [] (Srv.mk (0:Int) (B8 []) (B8 []) (B8 []) [])) false done opn) (At flags (-1:Int) fun y2=>K (Flg.mk y2.1 y2.2 y2.3 y2.4 y2.5 y2.6 y2.7 y2.8 (Srv.mk y2.9.1 y2.9.2 y2.9.3 y2.9.4 y2.9.5)) true done opn))) (0:Int)
abbrev R6:Type:=Flg->Subj->(Int->Prop)->Prop
def q39(Qm:Zq):R6:=fun f s K=>Fits f.7->Lp1 (fun Qc Bh=>CAt f.7 Qc (fun y2=>Qm (Subj.mk s.1) y2.1 fun Qu Wd=>Cnd (Wd=true) (Fits y2.3->Lp1 (fun Zu v5z=>CAt y2.3 Zu (fun y7=>Cnd (Qu.2=y7) (Cnd ((0:Int)<=Zu) (InI (Qc+1)/\K (Qc+1)) (InI (Qc+1)/\Bh (Qc+1))) (InI (Zu+1)/\v5z (Zu+1))) (Cnd ((0:Int)<=(-1:Int)) (InI (Qc+1)/\K (Qc+1)) (InI (Qc+1)/\Bh (Qc+1)))) (0:Int)) (InI (Qc+1)/\Bh (Qc+1))) (K (0:Int))) (0:Int)
def Vh:R6:=q39 Vc
abbrev q40:Type:=List (List Int)->(List (Int)->Prop)->Prop
def q41:q40:=fun fields K=>Fits fields->Lp2 (fun Qc Je z79=>CAt fields Je (fun y2=>Lp2 (fun Qu Wd v3i=>Cnd ((0:Int)<=Wd) (Fits y2->InI ((8:Int)*Wd)/\(0:Int)<=(8:Int)*Wd/\Sml (Qu++[Go.IntKind.u8.wrap ((Go.IntKind.u64.wrap (↑y2.length:Int)).fdiv ((2:Int) ^ Min.min ((8:Int)*Wd).toNat (64:Nat)))]).length/\InI (Wd - 1)/\v3i (Qu++[Go.IntKind.u8.wrap ((Go.IntKind.u64.wrap (↑y2.length:Int)).fdiv ((2:Int) ^ Min.min ((8:Int)*Wd).toNat (64:Nat)))]) (Wd - 1)) (Sml (Qu++y2).length/\InI (Je+1)/\z79 (Qu++y2) (Je+1))) Qc (7:Int)) (K Qc)) [] (0:Int)
abbrev Gw:Type:=Int->Int->(Int->Prop)->Prop
def Gx:Gw:=fun x k K=>(0:Int)<=Go.IntKind.u64.wrap (↑(BitVec.ofInt (64:Nat) (Go.IntKind.u64.wrap k) &&& BitVec.ofInt (64:Nat) (63:Int)).toNat:Int)/\(0:Int)<=Go.IntKind.u64.wrap ((64:Int) - Go.IntKind.u64.wrap (↑(BitVec.ofInt (64:Nat) (Go.IntKind.u64.wrap k) &&& BitVec.ofInt (64:Nat) (63:Int)).toNat:Int))/\K (Go.IntKind.u64.wrap (↑(BitVec.ofInt (64:Nat) (Go.IntKind.u64.wrap (x*2 ^ Min.min (Go.IntKind.u64.wrap (↑(BitVec.ofInt (64:Nat) (Go.IntKind.u64.wrap k) &&& BitVec.ofInt (64:Nat) (63:Int)).toNat:Int)).toNat (64:Nat)))|||BitVec.ofInt (64:Nat) (x.fdiv ((2:Int) ^ Min.min (Go.IntKind.u64.wrap ((64:Int) - Go.IntKind.u64.wrap (↑(BitVec.ofInt (64:Nat) (Go.IntKind.u64.wrap k) &&& BitVec.ofInt (64:Nat) (63:Int)).toNat:Int))).toNat (64:Nat)))).toNat:Int))
abbrev Jc:Type:=Int->Int->Int->Int->Int->(Int->Int->Int->Int->Prop)->Prop
def Br(Zm:Gw):Jc:=fun v0 v1 v2 v3 n K=>Lp5 (fun Qa Qz j0a q7i w0c y8f=>Cnd (Qa<n) (Zm j0a (13:Int) fun Qc=>Zm (Go.IntKind.u64.wrap (Qz+j0a)) (32:Int) fun Qj=>Zm w0c (16:Int) fun Ql=>Zm (Go.IntKind.u64.wrap (↑(BitVec.ofInt (64:Nat) Ql ^^^ BitVec.ofInt (64:Nat) (Go.IntKind.u64.wrap (q7i+w0c))).toNat:Int)) (21:Int) fun Qu=>Zm (Go.IntKind.u64.wrap (↑(BitVec.ofInt (64:Nat) Qc ^^^ BitVec.ofInt (64:Nat) (Go.IntKind.u64.wrap (Qz+j0a))).toNat:Int)) (17:Int) fun Qk=>Zm (Go.IntKind.u64.wrap (Go.IntKind.u64.wrap (q7i+w0c)+Go.IntKind.u64.wrap (↑(BitVec.ofInt (64:Nat) Qc ^^^ BitVec.ofInt (64:Nat) (Go.IntKind.u64.wrap (Qz+j0a))).toNat:Int))) (32:Int) fun Zu=>InI (Qa+1)/\y8f (Qa+1) (Go.IntKind.u64.wrap (Qj+Go.IntKind.u64.wrap (↑(BitVec.ofInt (64:Nat) Ql ^^^ BitVec.ofInt (64:Nat) (Go.IntKind.u64.wrap (q7i+w0c))).toNat:Int))) (Go.IntKind.u64.wrap (↑(BitVec.ofInt (64:Nat) Qk ^^^ BitVec.ofInt (64:Nat) (Go.IntKind.u64.wrap (Go.IntKind.u64.wrap (q7i+w0c)+Go.IntKind.u64.wrap (↑(BitVec.ofInt (64:Nat) Qc ^^^ BitVec.ofInt (64:Nat) (Go.IntKind.u64.wrap (Qz+j0a))).toNat:Int)))).toNat:Int)) Zu (Go.IntKind.u64.wrap (↑(BitVec.ofInt (64:Nat) Qu ^^^ BitVec.ofInt (64:Nat) (Go.IntKind.u64.wrap (Qj+Go.IntKind.u64.wrap (↑(BitVec.ofInt (64:Nat) Ql ^^^ BitVec.ofInt (64:Nat) (Go.IntKind.u64.wrap (q7i+w0c))).toNat:Int)))).toNat:Int))) (K Qz j0a q7i w0c)) (0:Int) v0 v1 v2 v3
def Zs:Jc:=Br Gx
abbrev Ug:Type:=Int->Int->Int->Int->Int->(Int->Int->Int->Int->Prop)->Prop
def q2o(Zc:Jc):Ug:=fun v0 v1 v2 v3 m K=>Zc v0 v1 v2 (Go.IntKind.u64.wrap (↑(BitVec.ofInt (64:Nat) v3 ^^^ BitVec.ofInt (64:Nat) m).toNat:Int)) (2:Int) fun Qa Qz j0a q7i=>K (Go.IntKind.u64.wrap (↑(BitVec.ofInt (64:Nat) Qa ^^^ BitVec.ofInt (64:Nat) m).toNat:Int)) Qz j0a q7i
def Hr:Ug:=q2o Zs
abbrev q5r:Type:=Int->Int->List (Int)->(Int->Prop)->Prop
def z5e(Un:Ug)(Zc:Jc):q5r:=fun k0 k1 b K=>Fits b->(0:Int)<=(56:Int)/\Lp5 (fun Qc Je z99 j2n u0w u2f=>InI (Qc+8)/\(Fits b->Cnd (Qc+8<=(↑b.length:Int)) (Lp2 (fun Ql Hy w1e=>Cnd (Hy<8) (InI (Qc+Hy)/\At b (Qc+Hy) fun y4=>InI ((8:Int)*Hy)/\(0:Int)<=(8:Int)*Hy/\InI (Hy+1)/\w1e (Go.IntKind.u64.wrap (↑(BitVec.ofInt (64:Nat) Ql|||BitVec.ofInt (64:Nat) (Go.IntKind.u64.wrap (Go.IntKind.u64.wrap y4*2 ^ Min.min ((8:Int)*Hy).toNat (64:Nat)))).toNat:Int)) (Hy+1)) (Un Je z99 j2n u0w Ql fun Qu Wd j2f y0j=>InI (Qc+8)/\u2f (Qc+8) Qu Wd j2f y0j)) (0:Int) (0:Int)) (Fits b->(8:Int)≠(0:Int)/\Lp2 (fun Qu Wd v3i=>Cnd (Wd<(↑b.length:Int).tmod (8:Int)) (Fits b->Fits b->(8:Int)≠(0:Int)/\InI ((↑b.length:Int) - (↑b.length:Int).tmod (8:Int))/\InI ((↑b.length:Int) - (↑b.length:Int).tmod (8:Int)+Wd)/\((0:Int)<=(↑b.length:Int) - (↑b.length:Int).tmod (8:Int)+Wd/\(↑b.length:Int) - (↑b.length:Int).tmod (8:Int)+Wd<(↑b.length:Int))/\ ∀y7,b[((↑b.length:Int) - (↑b.length:Int).tmod (8:Int)+Wd).toNat]? =some y7->InI ((8:Int)*Wd)/\(0:Int)<=(8:Int)*Wd/\InI (Wd+1)/\v3i (Go.IntKind.u64.wrap (↑(BitVec.ofInt (64:Nat) Qu|||BitVec.ofInt (64:Nat) (Go.IntKind.u64.wrap (Go.IntKind.u64.wrap y7*2 ^ Min.min ((8:Int)*Wd).toNat (64:Nat)))).toNat:Int)) (Wd+1)) (Un Je z99 j2n u0w Qu fun Qk z1a u2h u3s=>Zc Qk z1a (Go.IntKind.u64.wrap (↑(BitVec.ofInt (64:Nat) u2h ^^^ BitVec.ofInt (64:Nat) (255:Int)).toNat:Int)) u3s (4:Int) fun Zu z09 w2v w5y=>K (Go.IntKind.u64.wrap (↑(BitVec.ofInt (64:Nat) (Go.IntKind.u64.wrap (↑(BitVec.ofInt (64:Nat) (Go.IntKind.u64.wrap (↑(BitVec.ofInt (64:Nat) Zu ^^^ BitVec.ofInt (64:Nat) z09).toNat:Int)) ^^^ BitVec.ofInt (64:Nat) w2v).toNat:Int)) ^^^ BitVec.ofInt (64:Nat) w5y).toNat:Int)))) (Go.IntKind.u64.wrap (Go.IntKind.u64.wrap (↑b.length:Int)*2 ^ Min.min (Int.toNat (56:Int)) (64:Nat))) (0:Int)))) (0:Int) (Go.IntKind.u64.wrap (↑(BitVec.ofInt (64:Nat) k0 ^^^ BitVec.ofInt (64:Nat) (8317987319222330741:Int)).toNat:Int)) (Go.IntKind.u64.wrap (↑(BitVec.ofInt (64:Nat) k1 ^^^ BitVec.ofInt (64:Nat) (7237128888997146477:Int)).toNat:Int)) (Go.IntKind.u64.wrap (↑(BitVec.ofInt (64:Nat) k0 ^^^ BitVec.ofInt (64:Nat) (7816392313619706465:Int)).toNat:Int)) (Go.IntKind.u64.wrap (↑(BitVec.ofInt (64:Nat) k1 ^^^ BitVec.ofInt (64:Nat) (8387220255154660723:Int)).toNat:Int))
def q93:q5r:=z5e Hr Zs
abbrev q2p:Type:=Int->List (List Int)->(Int->Prop)->Prop
def z25(q5d:q40)(z0l:q5r):q2p:=fun domain fields K=>q5d fields fun Qa=>z0l domain (0:Int) Qa fun Qc=>K Qc
def q63:q2p:=z25 q41 q93
abbrev Vq:Type:=ByteArray->ByteArray->(Int->Prop)->Prop
def z9b(q7q:q2p):Vq:=fun salt key K=>Sml salt.size/\Sml key.size/\q7q (1:Int) [List.map (fun b=>(↑b.toNat:Int)) (salt,key,()).1.data.toList,List.map (fun b=>(↑b.toNat:Int)) (salt,key,()).2.1.data.toList] fun Qa=>(10000:Int)≠(0:Int)/\InI (Qa.tmod (10000:Int))/\K (Qa.tmod (10000:Int))
def Gy:Vq:=z9b q63
abbrev q2q:Type:=List (Frc)->ByteArray->(Frc->Bool->Prop)->Prop
def q2r:q2q:=fun l layer K=>Fits l->Lp4 (fun Qc Je z99 j2n u3t=>CAt l Qc (fun y2=>Cnd (y2.1=layer) (K y2 true) (InI (Qc+1)/\u3t (Qc+1) Je z99 j2n)) (K (Frc.mk (B8 []) (B8 []) (0:Int)) false)) (0:Int) (B8 []) (B8 []) (0:Int)
abbrev q64:Type:=Envt->Frc->(Bool->Prop)->Prop
def q65:q64:=fun v f K=>Fits v.6->Lp1 (fun Qc Bh=>CAt v.6 Qc (fun y2=>Cnd (y2.1=f.2) (Cnd (y2.2=f.1) (Cnd (y2.5=2) (Fits y2.7->Lp1 (fun Qk w2u=>CAt y2.7 Qk (fun y6=>Cnd (y6.3=f.3) (Cnd ((0:Int)<=Qk) (K (decide ((0:Int)<=Qc))) (InI (Qc+1)/\Bh (Qc+1))) (InI (Qk+1)/\w2u (Qk+1))) (Cnd ((0:Int)<=(-1:Int)) (K (decide ((0:Int)<=Qc))) (InI (Qc+1)/\Bh (Qc+1)))) (0:Int)) (InI (Qc+1)/\Bh (Qc+1))) (InI (Qc+1)/\Bh (Qc+1))) (InI (Qc+1)/\Bh (Qc+1))) (K (decide ((0:Int)<=(-1:Int))))) (0:Int)
abbrev q2s:Type:=Envt->Subj->(Bool->Prop)->Prop
def z27(Qm:Zq)(Zh:Vq):q2s:=fun v s K=>Cnd (v.1.3<=0) (K false) (Qm (Subj.mk s.1) v.1.2 fun Qa Qz=>Cnd (Qz=true) (Zh v.1.1 Qa.2 fun Qc=>K (decide (Qc<v.1.3))) (K false))
def q66:q2s:=z27 Vc Gy
abbrev U7:Type:=Envt->Subj->ByteArray->(Bool->Prop)->Prop
def q4a(Q4:Wb)(Zy:Wh):U7:=fun v s experiment K=>Fits v.6->Lp1 (fun Qc Bh=>CAt v.6 Qc (fun y2=>Cnd (y2.1=experiment) (Q4 v.3 (Subj.mk s.1) fun Qu=>Zy (Subj.mk s.1) Qu (Ex.mk y2.8.1 y2.8.2 y2.8.3 y2.8.4 y2.8.5) fun Qk=>K Qk) (InI (Qc+1)/\Bh (Qc+1))) (K false)) (0:Int)
def R7:U7:=q4a Vg Ud
abbrev R8:Type:=List (Rng)->Int->(Int->Prop)->Prop
def q2t:R8:=fun l bucket K=>Fits l->Lp1 (fun Qc Bh=>CAt l Qc (fun y2=>Cnd (y2.1<=bucket) (Cnd (bucket<y2.2) (K y2.3) (InI (Qc+1)/\Bh (Qc+1))) (InI (Qc+1)/\Bh (Qc+1))) (K (0:Int))) (0:Int)
abbrev q42:Type:=Envt->Subj->List (Frc)->ByteArray->(Asg->Int->Prop)->Prop
def z0x(Qm:Zq)(q3t:q2q)(Zh:Vq)(W8:R8)(Bo:U7)(q7r:q2s)(q7s:q64):q42:=fun v s forced key K=>Jn1 (fun Qa=>Cnd (Qa<0) (K (Asg.mk (B8 []) (B8 []) (0:Int) (0:Int) false) (11:Int)) (At v.5 Qa fun y1=>Qm (Subj.mk s.1) y1.2 fun Ql Hy=>Jn1 (fun Qu=>q3t forced key fun Qk z1a=>Jn1 (fun Zu=>Cnd (Zu=true) (Cnd (Qk.2=B8 []) (K (Asg.mk key (B8 []) Qu (0:Int) false) (0:Int)) (K (Asg.mk key Qk.2 Qu Qk.3 false) (0:Int))) (Jn1 (fun Wk=>Cnd (Wk=true) (K (Asg.mk key (B8 []) Qu (0:Int) true) (0:Int)) (Cnd (Hy=true) (Fits v.6->Lp3 (fun Wo z18 y7w u2e=>CAt v.6 Wo (fun y10=>Jn1 (fun Gc=>Jn1 (fun Q5=>Cnd (Q5=true) (Zh y10.4 Ql.2 fun We=>W8 y10.7 We fun z15=>K (Asg.mk key y10.1 Qu z15 false) (0:Int)) (InI (Wo+1)/\u2e (Wo+1) z18 y7w)) fun y3p=>Cnd (y10.2=key) (Cnd (y10.5=2) (Cnd (Gc=true) (Bo (Envt.mk (Sett.mk v.1.1 v.1.2 v.1.3) v.2 v.3 v.4 v.5 v.6) (Subj.mk s.1) y10.1 fun We=>y3p We) (y3p false)) (y3p false)) (y3p false)) fun v5u=>Fits y10.6->Lp1 (fun We y0c=>CAt y10.6 We (fun y15=>Cnd (y15.1<=Qu) (Cnd (Qu<y15.2) (v5u (decide ((0:Int)<=We))) (InI (We+1)/\y0c (We+1))) (InI (We+1)/\y0c (We+1))) (v5u (decide ((0:Int)<=(-1:Int))))) (0:Int)) (K (Asg.mk key z18 Qu y7w false) (0:Int))) (0:Int) (B8 []) (0:Int)) (K (Asg.mk key (B8 []) Qu (0:Int) false) (0:Int)))) fun y0g=>q7r (Envt.mk (Sett.mk v.1.1 v.1.2 v.1.3) v.2 v.3 v.4 v.5 v.6) (Subj.mk s.1) fun Wr=>Cnd (Wr=true) (y0g true) (Cnd (Hy=true) (y0g (decide (Qu<y1.4))) (y0g false)))) fun j6y=>Cnd (z1a=true) (Cnd (Qk.2=B8 []) (j6y true) (q7s (Envt.mk (Sett.mk v.1.1 v.1.2 v.1.3) v.2 v.3 v.4 v.5 v.6) Qk fun Wk=>j6y Wk)) (j6y false)) fun v5v=>Cnd (Hy=true) (Zh y1.3 Ql.2 fun Qk=>v5v Qk) (v5v (-1:Int)))) fun q48=>Fits v.5->Lp1 (fun Qj j4l=>CAt v.5 Qj (fun y3=>Cnd (y3.1=key) (q48 Qj) (InI (Qj+1)/\j4l (Qj+1))) (q48 (-1:Int))) (0:Int)
def Hk:q42:=z0x Vc q2r Gy q2t R7 q66 q65
abbrev Uu:Type:=ByteArray->ByteArray->Int->List (Decl)->List (Seg)->List (Flg)->List (Lay_)->List (Exper)->List (Ctxt)->List (Frc)->List (ByteArray)->(ByteArray->Option (Dcs))->(ByteArray->Option (Bool))->Exper->(Int->(ByteArray->Option (Dcs))->(ByteArray->Option (Bool))->Prop)->Prop
def Bt(Qm:Zq)(Zh:Vq):Uu:=fun _ _ _ _ _ _ layers _ ctxs _ _ done opn x K=>Fits layers->Lp1 (fun Qc Bh=>CAt layers Qc (fun y2=>Cnd (y2.1=x.2) (Qm (Subj.mk ctxs) y2.2 fun Qu Wd=>Cnd (Wd=true) (Zh x.4 Qu.2 fun Qk=>K Qk done opn) (K (-1:Int) done opn)) (InI (Qc+1)/\Bh (Qc+1))) (K (-1:Int) done opn)) (0:Int)
def J5:Uu:=Bt Vc Gy
abbrev z0y:Type:=Int->(ByteArray->Prop)->Prop
def z0z(i:Int)(K:ByteArray->Prop):Prop:=InI i/\K ⟨(Go.Lib.itoa i).toArray⟩
abbrev q2u:Type:=Int->(ByteArray->Prop)->Prop
def j08(q5e:z0y):q2u:=fun n K=>q5e n fun Qa=>K Qa
def q67:q2u:=j08 z0z
abbrev q5s:Type:=Val->(ByteArray->Bool->Prop)->Prop
def z5f(q7t:q2u):q5s:=fun v K=>Jn1 (fun Qa=>Cnd (Qa=true) (K v.3 true) (Cnd (v.1=2) (q7t v.2 fun Qc=>K Qc true) (Cnd (v.1=1) (Cnd (v.2=1) (K (B8 [116,114,117,101]) true) (K (B8 [102,97,108,115,101]) true)) (K (B8 []) false)))) fun q48=>Cnd (v.1=3) (q48 (decide (v.1=3))) (q48 (decide (v.1=4)))
def q94:q5s:=z5f q67
abbrev He:Type:=Subj->ByteArray->ByteArray->ByteArray->(Int->Bool->Prop)->Prop
def q58(Jp:Ww)(z0m:q5s)(Zh:Vq):He:=fun s kind by_ salt K=>Jp (Subj.mk s.1) kind by_ fun Qa Qz=>Cnd (Qz=true) (z0m Qa fun Qc Je=>Cnd (Je=true) (Zh salt Qc fun Qj=>K Qj true) (K (0:Int) false)) (K (0:Int) false)
def q0g:He:=q58 Hc q94 Gy
abbrev Hf:Type:=Subj->Srv->(Int->Int->Bool->Prop)->Prop
def q59(q0o:He)(W8:R8):Hf:=fun s v K=>Cnd (v.1=0) (q0o (Subj.mk s.1) v.2 v.3 v.4 fun Qa Qz=>Cnd (Qz=true) (W8 v.5 Qa fun Qc=>K Qc Qa true) (K (0:Int) (-1:Int) false)) (K v.1 (-1:Int) true)
def q0h:Hf:=q59 q0g q2t
abbrev Gz:Type:=ByteArray->ByteArray->Int->List (Decl)->List (Seg)->List (Flg)->List (Lay_)->List (Exper)->List (Ctxt)->List (Frc)->List (ByteArray)->(ByteArray->Option (Dcs))->(ByteArray->Option (Bool))->Flg->Srv->Rsn->(Int->Rsn->(ByteArray->Option (Dcs))->(ByteArray->Option (Bool))->Prop)->Prop
def q00(q0p:Hf):Gz:=fun _ _ _ _ _ _ _ _ ctxs _ _ done opn f v reason K=>q0p (Subj.mk ctxs) v fun Qa Qz j0a=>Cnd (j0a=true) (K Qa (Rsn.mk reason.1 reason.2 reason.3 Qz) done opn) (K f.5 (Rsn.mk (7:Int) reason.2 (B8 []) (-1:Int)) done opn)
def Wc:Gz:=q00 q0h
abbrev Jd:Type:=ByteArray->ByteArray->Int->List (Decl)->List (Seg)->List (Flg)->List (Lay_)->List (Exper)->List (Ctxt)->List (Frc)->List (ByteArray)->(ByteArray->Option (Dcs))->(ByteArray->Option (Bool))->Flg->(Dcs->(ByteArray->Option (Dcs))->(ByteArray->Option (Bool))->Prop)->Prop
def Bu(Z8:Ub)(Wu:Uf)(j4m:R6)(w1j:q42)(z8a:Uu)(Zy:Wh)(q9p:Gz)(X:Jd):Jd:=fun salt hkind hold attrs segs flags layers expers ctxs fs inn done opn f K=>Jn1 (fun (Qa:ByteArray×Int×Int×Int×ByteArray×List ByteArray×Int×Int×ByteArray×Int×Int×(ByteArray->Option Dcs)×(ByteArray->Option Bool)×Unit)=>Z8 (Val.mk Qa.2.2.1 Qa.2.2.2.1 Qa.2.2.2.2.1 Qa.2.2.2.2.2.1) fun Qc=>K (Dcs.mk Qa.1 Qa.2.1 Qc (Rsn.mk Qa.2.2.2.2.2.2.1 Qa.2.2.2.2.2.2.2.1 Qa.2.2.2.2.2.2.2.2.1 Qa.2.2.2.2.2.2.2.2.2.1) Qa.2.2.2.2.2.2.2.2.2.2.1) Qa.2.2.2.2.2.2.2.2.2.2.2.1 Qa.2.2.2.2.2.2.2.2.2.2.2.2.1) fun (q48:ByteArray×Int×Int×Int×ByteArray×List ByteArray×Int×Int×ByteArray×Int×Int×(ByteArray->Option Dcs)×(ByteArray->Option Bool)×Unit->Prop)=>Cnd ((done f.1).isSome=true) (q48 (((done f.1).getD (Dcs.mk (B8 []) (0:Int) (Val.mk (0:Int) (0:Int) (B8 []) []) (Rsn.mk (0:Int) (0:Int) (B8 []) (0:Int)) (0:Int))).1,((done f.1).getD (Dcs.mk (B8 []) (0:Int) (Val.mk (0:Int) (0:Int) (B8 []) []) (Rsn.mk (0:Int) (0:Int) (B8 []) (0:Int)) (0:Int))).2,((done f.1).getD (Dcs.mk (B8 []) (0:Int) (Val.mk (0:Int) (0:Int) (B8 []) []) (Rsn.mk (0:Int) (0:Int) (B8 []) (0:Int)) (0:Int))).3.1,((done f.1).getD (Dcs.mk (B8 []) (0:Int) (Val.mk (0:Int) (0:Int) (B8 []) []) (Rsn.mk (0:Int) (0:Int) (B8 []) (0:Int)) (0:Int))).3.2,((done f.1).getD (Dcs.mk (B8 []) (0:Int) (Val.mk (0:Int) (0:Int) (B8 []) []) (Rsn.mk (0:Int) (0:Int) (B8 []) (0:Int)) (0:Int))).3.3,((done f.1).getD (Dcs.mk (B8 []) (0:Int) (Val.mk (0:Int) (0:Int) (B8 []) []) (Rsn.mk (0:Int) (0:Int) (B8 []) (0:Int)) (0:Int))).3.4,((done f.1).getD (Dcs.mk (B8 []) (0:Int) (Val.mk (0:Int) (0:Int) (B8 []) []) (Rsn.mk (0:Int) (0:Int) (B8 []) (0:Int)) (0:Int))).4.1,((done f.1).getD (Dcs.mk (B8 []) (0:Int) (Val.mk (0:Int) (0:Int) (B8 []) []) (Rsn.mk (0:Int) (0:Int) (B8 []) (0:Int)) (0:Int))).4.2,((done f.1).getD (Dcs.mk (B8 []) (0:Int) (Val.mk (0:Int) (0:Int) (B8 []) []) (Rsn.mk (0:Int) (0:Int) (B8 []) (0:Int)) (0:Int))).4.3,((done f.1).getD (Dcs.mk (B8 []) (0:Int) (Val.mk (0:Int) (0:Int) (B8 []) []) (Rsn.mk (0:Int) (0:Int) (B8 []) (0:Int)) (0:Int))).4.4,((done f.1).getD (Dcs.mk (B8 []) (0:Int) (Val.mk (0:Int) (0:Int) (B8 []) []) (Rsn.mk (0:Int) (0:Int) (B8 []) (0:Int)) (0:Int))).5,done,opn,())) (Cnd (f.4=true) (Fits f.6->LpH (fun (Qj:Int×Int×Int×ByteArray×Int×(ByteArray->Option Bool)×(ByteArray->Option Dcs)×Unit) (j4l:Int×Int×Int×ByteArray×Int×(ByteArray->Option Bool)×(ByteArray->Option Dcs)×Unit->Prop)=>CAt f.6 Qj.1 (fun y3=>Wu salt hkind hold attrs segs flags layers expers ctxs fs inn Qj.2.2.2.2.2.2.1 Qj.2.2.2.2.2.1 y3.1 fun Qk z1a y0l y7x=>Cnd (z1a=true) (Cnd (Qk.4=true) (Cnd ((y7x Qk.1).getD false=true) (Jn4 (fun Zu z09 w2v w5y=>q48 (f.1,f.5,Zu,z09,w2v,w5y,(2:Int),(0:Int),y3.1,(-1:Int),(0:Int),put y0l f.1 (Dcs.mk f.1 f.5 (Val.mk Zu z09 w2v w5y) (Rsn.mk (2:Int) (0:Int) y3.1 (-1:Int)) (0:Int)),dlt y7x f.1,())) fun j6y=>Cnd ((1:Int)<=f.5) (Fits f.3->Cnd (f.5<=(↑f.3.length:Int)) (InI (f.5 - 1)/\((0:Int)<=f.5 - 1/\f.5 - 1<(↑f.3.length:Int))/\ ∀y8,f.3[(f.5 - 1).toNat]? =some y8->j6y y8.1 y8.2 y8.3 y8.4) (j6y (0:Int) (0:Int) (B8 []) [])) (j6y (0:Int) (0:Int) (B8 []) [])) (X salt hkind hold attrs segs flags layers expers ctxs fs inn y0l y7x (Flg.mk Qk.1 Qk.2 Qk.3 Qk.4 Qk.5 Qk.6 Qk.7 Qk.8 (Srv.mk Qk.9.1 Qk.9.2 Qk.9.3 Qk.9.4 Qk.9.5)) fun Zu v5z y0i=>Cnd (Zu.2=y3.2) (InI (Qj.1+1)/\j4l (Qj.1+1,Qj.2.1,Qj.2.2.1,Qj.2.2.2.1,Qj.2.2.2.2.1,y0i,v5z,())) (Jn4 (fun Wk z98 u3a y3m=>q48 (f.1,f.5,Wk,z98,u3a,y3m,(2:Int),(0:Int),y3.1,(-1:Int),(0:Int),put v5z f.1 (Dcs.mk f.1 f.5 (Val.mk Wk z98 u3a y3m) (Rsn.mk (2:Int) (0:Int) y3.1 (-1:Int)) (0:Int)),dlt y0i f.1,())) fun y0g=>Cnd ((1:Int)<=f.5) (Fits f.3->Cnd (f.5<=(↑f.3.length:Int)) (InI (f.5 - 1)/\((0:Int)<=f.5 - 1/\f.5 - 1<(↑f.3.length:Int))/\ ∀y9,f.3[(f.5 - 1).toNat]? =some y9->y0g y9.1 y9.2 y9.3 y9.4) (y0g (0:Int) (0:Int) (B8 []) [])) (y0g (0:Int) (0:Int) (B8 []) [])))) (Jn4 (fun Zu z09 w2v w5y=>q48 (f.1,f.5,Zu,z09,w2v,w5y,(2:Int),(0:Int),y3.1,(-1:Int),(0:Int),put y0l f.1 (Dcs.mk f.1 f.5 (Val.mk Zu z09 w2v w5y) (Rsn.mk (2:Int) (0:Int) y3.1 (-1:Int)) (0:Int)),dlt y7x f.1,())) fun j6y=>Cnd ((1:Int)<=f.5) (Fits f.3->Cnd (f.5<=(↑f.3.length:Int)) (InI (f.5 - 1)/\((0:Int)<=f.5 - 1/\f.5 - 1<(↑f.3.length:Int))/\ ∀y8,f.3[(f.5 - 1).toNat]? =some y8->j6y y8.1 y8.2 y8.3 y8.4) (j6y (0:Int) (0:Int) (B8 []) [])) (j6y (0:Int) (0:Int) (B8 []) []))) (Jn4 (fun Zu z09 w2v w5y=>q48 (f.1,f.5,Zu,z09,w2v,w5y,(2:Int),(0:Int),y3.1,(-1:Int),(0:Int),put y0l f.1 (Dcs.mk f.1 f.5 (Val.mk Zu z09 w2v w5y) (Rsn.mk (2:Int) (0:Int) y3.1 (-1:Int)) (0:Int)),dlt y7x f.1,())) fun j6y=>Cnd ((1:Int)<=f.5) (Fits f.3->Cnd (f.5<=(↑f.3.length:Int)) (InI (f.5 - 1)/\((0:Int)<=f.5 - 1/\f.5 - 1<(↑f.3.length:Int))/\ ∀y8,f.3[(f.5 - 1).toNat]? =some y8->j6y y8.1 y8.2 y8.3 y8.4) (j6y (0:Int) (0:Int) (B8 []) [])) (j6y (0:Int) (0:Int) (B8 []) []))) (j4m (Flg.mk f.1 f.2 f.3 f.4 f.5 f.6 f.7 f.8 (Srv.mk f.9.1 f.9.2 f.9.3 f.9.4 f.9.5)) (Subj.mk ctxs) fun Ql=>Cnd ((0:Int)<Ql) (InI (Ql - 1)/\((0:Int)<=Ql - 1/\Ql - 1<(↑f.7.length:Int))/\ ∀y4,f.7[(Ql - 1).toNat]? =some y4->Jn4 (fun Zu z09 w2v w5y=>q48 (f.1,y4.2,Zu,z09,w2v,w5y,(3:Int),Ql,B8 [],(-1:Int),(0:Int),put Qj.2.2.2.2.2.2.1 f.1 (Dcs.mk f.1 y4.2 (Val.mk Zu z09 w2v w5y) (Rsn.mk (3:Int) Ql (B8 []) (-1:Int)) (0:Int)),dlt Qj.2.2.2.2.2.1 f.1,())) fun j6y=>Cnd ((1:Int)<=y4.2) (Fits f.3->Cnd (y4.2<=(↑f.3.length:Int)) (InI (y4.2 - 1)/\((0:Int)<=y4.2 - 1/\y4.2 - 1<(↑f.3.length:Int))/\ ∀y8,f.3[(y4.2 - 1).toNat]? =some y8->j6y y8.1 y8.2 y8.3 y8.4) (j6y (0:Int) (0:Int) (B8 []) [])) (j6y (0:Int) (0:Int) (B8 []) [])) (Fits expers->LpH (fun (Qk:Int×Int×Int×ByteArray×Int×(ByteArray->Option Dcs)×(ByteArray->Option Bool)×Unit) (w2u:Int×Int×Int×ByteArray×Int×(ByteArray->Option Dcs)×(ByteArray->Option Bool)×Unit->Prop)=>CAt expers Qk.1 (fun y6=>Cnd (y6.3=f.1) (Cnd (y6.5=2) (w1j (Envt.mk (Sett.mk salt hkind hold) attrs segs flags layers expers) (Subj.mk ctxs) fs y6.2 fun Wr w80=>Cnd (w80=0) (Cnd (Wr.2=y6.1) (z8a salt hkind hold attrs segs flags layers expers ctxs fs inn Qk.2.2.2.2.2.1 Qk.2.2.2.2.2.2.1 (Exper.mk y6.1 y6.2 y6.3 y6.4 y6.5 y6.6 y6.7 (Ex.mk y6.8.1 y6.8.2 y6.8.3 y6.8.4 y6.8.5)) fun Wo y0k v5t=>Jn4 (fun Gb B5 v1l u0s=>q48 (f.1,Wr.4,Gb,B5,v1l,u0s,(4:Int),(0:Int),y6.1,Wo,(0:Int),put y0k f.1 (Dcs.mk f.1 Wr.4 (Val.mk Gb B5 v1l u0s) (Rsn.mk (4:Int) (0:Int) y6.1 Wo) (0:Int)),dlt v5t f.1,())) fun y8b=>Cnd ((1:Int)<=Wr.4) (Fits f.3->Cnd (Wr.4<=(↑f.3.length:Int)) (InI (Wr.4 - 1)/\((0:Int)<=Wr.4 - 1/\Wr.4 - 1<(↑f.3.length:Int))/\ ∀y12,f.3[(Wr.4 - 1).toNat]? =some y12->y8b y12.1 y12.2 y12.3 y12.4) (y8b (0:Int) (0:Int) (B8 []) [])) (y8b (0:Int) (0:Int) (B8 []) [])) (InI (Qk.1+1)/\w2u (Qk.1+1,Qk.2.1,Qk.2.2.1,Qk.2.2.2.1,Qk.2.2.2.2.1,Qk.2.2.2.2.2.1,Qk.2.2.2.2.2.2.1,()))) (InI (Qk.1+1)/\w2u (Qk.1+1,Qk.2.1,Qk.2.2.1,Qk.2.2.2.1,Qk.2.2.2.2.1,Qk.2.2.2.2.2.1,Qk.2.2.2.2.2.2.1,()))) (InI (Qk.1+1)/\w2u (Qk.1+1,Qk.2.1,Qk.2.2.1,Qk.2.2.2.1,Qk.2.2.2.2.1,Qk.2.2.2.2.2.1,Qk.2.2.2.2.2.2.1,()))) (InI (Qk.1+1)/\w2u (Qk.1+1,Qk.2.1,Qk.2.2.1,Qk.2.2.2.1,Qk.2.2.2.2.1,Qk.2.2.2.2.2.1,Qk.2.2.2.2.2.2.1,()))) (Fits f.8->LpH (fun (Wk:Int×Int×Int×ByteArray×Int×(ByteArray->Option Bool)×(ByteArray->Option Dcs)×Unit) (y0a:Int×Int×Int×ByteArray×Int×(ByteArray->Option Bool)×(ByteArray->Option Dcs)×Unit->Prop)=>CAt f.8 Wk.1 (fun y8=>Zy (Subj.mk ctxs) inn (Ex.mk y8.2.1 y8.2.2 y8.2.3 y8.2.4 y8.2.5) fun Gb=>Cnd (Gb=true) (InI (Wk.1+1)/\q9p salt hkind hold attrs segs flags layers expers ctxs fs inn Wk.2.2.2.2.2.2.1 Wk.2.2.2.2.2.1 (Flg.mk f.1 f.2 f.3 f.4 f.5 f.6 f.7 f.8 (Srv.mk f.9.1 f.9.2 f.9.3 f.9.4 f.9.5)) (Srv.mk y8.3.1 y8.3.2 y8.3.3 y8.3.4 y8.3.5) (Rsn.mk (5:Int) (Wk.1+1) y8.1 (0:Int)) fun Wi q9k v5w u21=>Jn4 (fun Gc v5x u0t u0u=>q48 (f.1,Wi,Gc,v5x,u0t,u0u,q9k.1,q9k.2,q9k.3,q9k.4,(0:Int),put v5w f.1 (Dcs.mk f.1 Wi (Val.mk Gc v5x u0t u0u) q9k (0:Int)),dlt u21 f.1,())) fun v5u=>Cnd ((1:Int)<=Wi) (Fits f.3->Cnd (Wi<=(↑f.3.length:Int)) (InI (Wi - 1)/\((0:Int)<=Wi - 1/\Wi - 1<(↑f.3.length:Int))/\ ∀y14,f.3[(Wi - 1).toNat]? =some y14->v5u y14.1 y14.2 y14.3 y14.4) (v5u (0:Int) (0:Int) (B8 []) [])) (v5u (0:Int) (0:Int) (B8 []) [])) (InI (Wk.1+1)/\y0a (Wk.1+1,Wk.2.1,Wk.2.2.1,Wk.2.2.2.1,Wk.2.2.2.2.1,Wk.2.2.2.2.2.1,Wk.2.2.2.2.2.2.1,()))) (q9p salt hkind hold attrs segs flags layers expers ctxs fs inn Wk.2.2.2.2.2.2.1 Wk.2.2.2.2.2.1 (Flg.mk f.1 f.2 f.3 f.4 f.5 f.6 f.7 f.8 (Srv.mk f.9.1 f.9.2 f.9.3 f.9.4 f.9.5)) (Srv.mk f.9.1 f.9.2 f.9.3 f.9.4 f.9.5) (Rsn.mk (6:Int) (0:Int) (B8 []) (0:Int)) fun Wr w80 u0z u2i=>Jn4 (fun Wo z18 y7w y4t=>q48 (f.1,Wr,Wo,z18,y7w,y4t,w80.1,w80.2,w80.3,w80.4,(0:Int),put u0z f.1 (Dcs.mk f.1 Wr (Val.mk Wo z18 y7w y4t) w80 (0:Int)),dlt u2i f.1,())) fun y3l=>Cnd ((1:Int)<=Wr) (Fits f.3->Cnd (Wr<=(↑f.3.length:Int)) (InI (Wr - 1)/\((0:Int)<=Wr - 1/\Wr - 1<(↑f.3.length:Int))/\ ∀y11,f.3[(Wr - 1).toNat]? =some y11->y3l y11.1 y11.2 y11.3 y11.4) (y3l (0:Int) (0:Int) (B8 []) [])) (y3l (0:Int) (0:Int) (B8 []) []))) ((0:Int),Qk.2.1,Qk.2.2.1,Qk.2.2.2.1,Qk.2.2.2.2.1,Qk.2.2.2.2.2.2.1,Qk.2.2.2.2.2.1,()))) ((0:Int),Qj.2.1,Qj.2.2.1,Qj.2.2.2.1,Qj.2.2.2.2.1,Qj.2.2.2.2.2.2.1,Qj.2.2.2.2.2.1,())))) ((0:Int),(0:Int),(0:Int),B8 [],(0:Int),put opn f.1 true,done,())) (Jn4 (fun Qc Je z99 j2n=>q48 (f.1,f.5,Qc,Je,z99,j2n,(1:Int),(0:Int),B8 [],(-1:Int),(0:Int),put done f.1 (Dcs.mk f.1 f.5 (Val.mk Qc Je z99 j2n) (Rsn.mk (1:Int) (0:Int) (B8 []) (-1:Int)) (0:Int)),dlt (put opn f.1 true) f.1,())) fun j6z=>Cnd ((1:Int)<=f.5) (Fits f.3->Cnd (f.5<=(↑f.3.length:Int)) (InI (f.5 - 1)/\((0:Int)<=f.5 - 1/\f.5 - 1<(↑f.3.length:Int))/\ ∀y3,f.3[(f.5 - 1).toNat]? =some y3->j6z y3.1 y3.2 y3.3 y3.4) (j6z (0:Int) (0:Int) (B8 []) [])) (j6z (0:Int) (0:Int) (B8 []) [])))
def Uv:Jd:=fun salt hkind hold attrs segs flags layers expers ctxs fs inn done opn f K=> ∀X:Jd,(∀salt hkind hold attrs segs flags layers expers ctxs fs inn done opn f K,Bu Jz J2 Vh Hk J5 Ud Wc X salt hkind hold attrs segs flags layers expers ctxs fs inn done opn f K->X salt hkind hold attrs segs flags layers expers ctxs fs inn done opn f K)->X salt hkind hold attrs segs flags layers expers ctxs fs inn done opn f K
abbrev Vr:Type:=Envt->Subj->List (Frc)->ByteArray->(Dcs->Int->Prop)->Prop
def q80(q0q:Hd)(Wu:Uf)(Ux:Jd):Vr:=fun v s forced key K=>q0q (Envt.mk (Sett.mk v.1.1 v.1.2 v.1.3) v.2 v.3 v.4 v.5 v.6) (Subj.mk s.1) forced fun Qa Qz j0a q7i w0c u3b u3c u3d u3e u3f u0v u22 u23=>Wu Qa Qz j0a q7i w0c u3b u3c u3d u3e u3f u0v u22 u23 key fun Qc Je z79 v98=>Cnd (Je=true) (Ux Qa Qz j0a q7i w0c u3b u3c u3d u3e u3f u0v z79 v98 (Flg.mk Qc.1 Qc.2 Qc.3 Qc.4 Qc.5 Qc.6 Qc.7 Qc.8 (Srv.mk Qc.9.1 Qc.9.2 Qc.9.3 Qc.9.4 Qc.9.5)) fun Qj _ _=>K (Dcs.mk Qj.1 Qj.2 (Val.mk Qj.3.1 Qj.3.2 Qj.3.3 Qj.3.4) (Rsn.mk Qj.4.1 Qj.4.2 Qj.4.3 Qj.4.4) Qj.5) (0:Int)) (K (Dcs.mk (B8 []) (0:Int) (Val.mk (0:Int) (0:Int) (B8 []) []) (Rsn.mk (0:Int) (0:Int) (B8 []) (0:Int)) (0:Int)) (11:Int))
def Rj:Vr:=q80 q0f J2 Uv
abbrev q2v:Type:=(Bool->Prop)->Prop
def z29(Jl:Vr):q2v:=fun K=>Jl (Envt.mk (Sett.mk (B8 []) (B8 []) (0:Int)) [] [] [Flg.mk (B8 [102]) (1:Int) [Val.mk (1:Int) (0:Int) (B8 []) [],Val.mk (1:Int) (1:Int) (B8 []) []] true (1:Int) [] [] [] (Srv.mk (2:Int) (B8 []) (B8 []) (B8 []) [])] [] []) (Subj.mk []) [] (B8 [102]) fun Qa Qz=>Cnd (Qz=0) (Cnd (Qa.1=B8 [102]) (Cnd (Qa.2=2) (Cnd (Qa.3.2=1) (K (decide (Qa.4.1=6/\Qa.4.2=0/\Qa.4.3=B8 []/\Qa.4.4=(-1:Int)))) (K false)) (K false)) (K false)) (K false)
def q68:q2v:=z29 Rj
abbrev w3t:Type:=List (Int)->Int->(List (Int)->Int->Prop)->Prop
def w3u:w3t:=fun list_ most K=>Jn1 (fun Qa=>K Qa (0:Int)) fun q48=>Fits list_->Cnd (most<(↑list_.length:Int)) (((0:Int)<=(0:Int)/\(0:Int)<=most/\most<=(↑list_.length:Int))/\q48 (List.drop (Int.toNat (0:Int)) (List.take most.toNat list_))) (q48 list_)
abbrev q81:Type:=List (Int)->Int->ByteArray->(Ctxt->Int->Prop)->Prop
def z9c(z35:z83)(Q1:W9)(Qb:Zi)(Jk:q1q):q81:=fun list at_ kind K=>z35 list at_ fun Qa Qz=>Q1 fun Qc=>Lp3 (fun Qj Zl w52 u0f=>Fits Qc->CAt Qc Qj (fun y4=>Cnd (y4.1=kind) (Qb list w52 (4:Int) fun Zu z09=>Cnd ((0:Int)<Zu) (At Qc Qj fun y7=>At Qc Qj fun y9=>Jk list z09 y9.3 fun Wi q9k=>Sml (Zl++[Attr.mk y7.2 Wi]).length/\InI (Qj+1)/\u0f (Qj+1) (Zl++[Attr.mk y7.2 Wi]) q9k) (InI (Qj+1)/\u0f (Qj+1) Zl z09)) (InI (Qj+1)/\u0f (Qj+1) Zl w52)) (K (Ctxt.mk kind Qa Zl) w52)) (0:Int) [] Qz
def q82:q81:=z9c j7x Ge Wf B0
abbrev q83:Type:=List (Int)->Int->(Subj->Int->Prop)->Prop
def z9d(Qb:Zi)(q1a:q81):q83:=fun list at_ K=>Qb list at_ (6:Int) fun Qa Qz=>Jn2 (fun Qc Je=>Cnd (Qa=1) (K (Subj.mk Je) Qc) (Cnd (Qa=5) (K (Subj.mk Je) Qc) (q1a list Qc (B8 [117,115,101,114]) fun Qj Zl=>Sml (Je++[Qj]).length/\K (Subj.mk (Je++[Qj])) Zl))) fun j6z=>Cnd (Qa=1) (q1a list Qz (B8 [100,101,118,105,99,101]) fun Qj Zl=>Sml ([]++[Qj]).length/\j6z Zl ([]++[Qj])) (Cnd (Qa=2) (q1a list Qz (B8 [100,101,118,105,99,101]) fun Qj Zl=>Sml ([]++[Qj]).length/\j6z Zl ([]++[Qj])) (Cnd (Qa=4) (q1a list Qz (B8 [100,101,118,105,99,101]) fun Qj Zl=>Sml ([]++[Qj]).length/\j6z Zl ([]++[Qj])) (j6z Qz [])))
def z3a:q83:=z9d Wf q82
abbrev w2d:Type:=List (List Int)->(List (Int)->Prop)->Prop
def j28:w2d:=fun fields K=>Lp2 (fun Qa Qz q3v=>Fits fields->CAt fields Qz (fun y2=>Fits y2->Lp2 (fun Qk z1a y0l=>Cnd ((0:Int)<=z1a) ((0:Int)<=Go.IntKind.u64.wrap z1a/\Sml (Qk++[Go.IntKind.u8.wrap ((Go.IntKind.u64.wrap (↑y2.length:Int)).fdiv ((2:Int) ^ Min.min (Go.IntKind.u64.wrap z1a).toNat (64:Nat)))]).length/\InI (z1a - 8)/\y0l (Qk++[Go.IntKind.u8.wrap ((Go.IntKind.u64.wrap (↑y2.length:Int)).fdiv ((2:Int) ^ Min.min (Go.IntKind.u64.wrap z1a).toNat (64:Nat)))]) (z1a - 8)) (At fields Qz fun y6=>Sml (Qk++y6).length/\InI (Qz+1)/\q3v (Qk++y6) (Qz+1))) Qa (56:Int)) (K Qa)) [] (0:Int)
abbrev j72:Type:=Int->Int->(Int->Prop)->Prop
def z9e:j72:=fun x n K=>(0:Int)<=n/\(0:Int)<=Go.IntKind.u64.wrap ((64:Int) - n)/\K (Go.IntKind.u64.wrap (↑(BitVec.ofInt (64:Nat) (Go.IntKind.u64.wrap (x*2 ^ Min.min n.toNat (64:Nat)))|||BitVec.ofInt (64:Nat) (x.fdiv ((2:Int) ^ Min.min (Go.IntKind.u64.wrap ((64:Int) - n)).toNat (64:Nat)))).toNat:Int))
abbrev q6a:Type:=Sip->Int->(Sip->Prop)->Prop
def z4j(q4u:j72):q6a:=fun v n K=>Lp5 (fun Qa Qz j0a q7i w0c y8f=>Cnd (Qa<n) (q4u j0a (13:Int) fun Qc=>q4u (Go.IntKind.u64.wrap (Qz+j0a)) (32:Int) fun Qj=>q4u w0c (16:Int) fun Ql=>q4u (Go.IntKind.u64.wrap (↑(BitVec.ofInt (64:Nat) Ql ^^^ BitVec.ofInt (64:Nat) (Go.IntKind.u64.wrap (q7i+w0c))).toNat:Int)) (21:Int) fun Qu=>q4u (Go.IntKind.u64.wrap (↑(BitVec.ofInt (64:Nat) Qc ^^^ BitVec.ofInt (64:Nat) (Go.IntKind.u64.wrap (Qz+j0a))).toNat:Int)) (17:Int) fun Qk=>q4u (Go.IntKind.u64.wrap (Go.IntKind.u64.wrap (q7i+w0c)+Go.IntKind.u64.wrap (↑(BitVec.ofInt (64:Nat) Qc ^^^ BitVec.ofInt (64:Nat) (Go.IntKind.u64.wrap (Qz+j0a))).toNat:Int))) (32:Int) fun Zu=>InI (Qa+1)/\y8f (Qa+1) (Go.IntKind.u64.wrap (Qj+Go.IntKind.u64.wrap (↑(BitVec.ofInt (64:Nat) Ql ^^^ BitVec.ofInt (64:Nat) (Go.IntKind.u64.wrap (q7i+w0c))).toNat:Int))) (Go.IntKind.u64.wrap (↑(BitVec.ofInt (64:Nat) Qk ^^^ BitVec.ofInt (64:Nat) (Go.IntKind.u64.wrap (Go.IntKind.u64.wrap (q7i+w0c)+Go.IntKind.u64.wrap (↑(BitVec.ofInt (64:Nat) Qc ^^^ BitVec.ofInt (64:Nat) (Go.IntKind.u64.wrap (Qz+j0a))).toNat:Int)))).toNat:Int)) Zu (Go.IntKind.u64.wrap (↑(BitVec.ofInt (64:Nat) Qu ^^^ BitVec.ofInt (64:Nat) (Go.IntKind.u64.wrap (Qj+Go.IntKind.u64.wrap (↑(BitVec.ofInt (64:Nat) Ql ^^^ BitVec.ofInt (64:Nat) (Go.IntKind.u64.wrap (q7i+w0c))).toNat:Int)))).toNat:Int))) (K (Sip.mk Qz j0a q7i w0c))) (0:Int) v.1 v.2 v.3 v.4
def J6:q6a:=z4j z9e
abbrev w3v:Type:=Int->Int->List (Int)->(Int->Prop)->Prop
def v2o(q6m:q6a):w3v:=fun k0 k1 b K=>Lp5 (fun Qa Qz j0a q7i w0c y8f=>Fits b->(8:Int)≠(0:Int)/\InI ((↑b.length:Int).tdiv (8:Int))/\Cnd (Qa<=(↑b.length:Int).tdiv (8:Int)) (Lp2 (fun Qj Zl q77=>Cnd (Zl<8) (InI ((8:Int)*Qa)/\InI ((8:Int)*Qa+Zl)/\(Fits b->Cnd ((8:Int)*Qa+Zl<(↑b.length:Int)) (InI ((8:Int)*Qa)/\InI ((8:Int)*Qa+Zl)/\((0:Int)<=(8:Int)*Qa+Zl/\(8:Int)*Qa+Zl<(↑b.length:Int))/\ ∀y4,b[((8:Int)*Qa+Zl).toNat]? =some y4->InI ((8:Int)*Zl)/\(0:Int)<=Go.IntKind.u64.wrap ((8:Int)*Zl)/\InI (Zl+1)/\q77 (Go.IntKind.u64.wrap (↑(BitVec.ofInt (64:Nat) Qj|||BitVec.ofInt (64:Nat) (Go.IntKind.u64.wrap (Go.IntKind.u64.wrap y4*2 ^ Min.min (Go.IntKind.u64.wrap ((8:Int)*Zl)).toNat (64:Nat)))).toNat:Int)) (Zl+1)) (Jn1 (fun Qu=>q6m (Sip.mk Qz j0a q7i (Go.IntKind.u64.wrap (↑(BitVec.ofInt (64:Nat) w0c ^^^ BitVec.ofInt (64:Nat) Qu).toNat:Int))) (2:Int) fun Qk=>InI (Qa+1)/\y8f (Qa+1) (Go.IntKind.u64.wrap (↑(BitVec.ofInt (64:Nat) Qk.1 ^^^ BitVec.ofInt (64:Nat) Qu).toNat:Int)) Qk.2 Qk.3 Qk.4) fun v5v=>Fits b->(8:Int)≠(0:Int)/\InI ((↑b.length:Int).tdiv (8:Int))/\Cnd (Qa=(↑b.length:Int).tdiv (8:Int)) (Fits b->(256:Int)≠(0:Int)/\(0:Int)<=(56:Int)/\v5v (Go.IntKind.u64.wrap (↑(BitVec.ofInt (64:Nat) Qj|||BitVec.ofInt (64:Nat) (Go.IntKind.u64.wrap (Go.IntKind.u64.wrap ((↑b.length:Int).tmod (256:Int))*(2:Int) ^ Min.min (Int.toNat (56:Int)) (64:Nat)))).toNat:Int))) (v5v Qj)))) (Jn1 (fun Ql=>q6m (Sip.mk Qz j0a q7i (Go.IntKind.u64.wrap (↑(BitVec.ofInt (64:Nat) w0c ^^^ BitVec.ofInt (64:Nat) Ql).toNat:Int))) (2:Int) fun Qu=>InI (Qa+1)/\y8f (Qa+1) (Go.IntKind.u64.wrap (↑(BitVec.ofInt (64:Nat) Qu.1 ^^^ BitVec.ofInt (64:Nat) Ql).toNat:Int)) Qu.2 Qu.3 Qu.4) fun v99=>Fits b->(8:Int)≠(0:Int)/\InI ((↑b.length:Int).tdiv (8:Int))/\Cnd (Qa=(↑b.length:Int).tdiv (8:Int)) (Fits b->(256:Int)≠(0:Int)/\(0:Int)<=(56:Int)/\v99 (Go.IntKind.u64.wrap (↑(BitVec.ofInt (64:Nat) Qj|||BitVec.ofInt (64:Nat) (Go.IntKind.u64.wrap (Go.IntKind.u64.wrap ((↑b.length:Int).tmod (256:Int))*(2:Int) ^ Min.min (Int.toNat (56:Int)) (64:Nat)))).toNat:Int))) (v99 Qj))) (0:Int) (0:Int)) (q6m (Sip.mk Qz j0a (Go.IntKind.u64.wrap (↑(BitVec.ofInt (64:Nat) q7i ^^^ BitVec.ofInt (64:Nat) (255:Int)).toNat:Int)) w0c) (4:Int) fun Qj=>K (Go.IntKind.u64.wrap (↑(BitVec.ofInt (64:Nat) (Go.IntKind.u64.wrap (↑(BitVec.ofInt (64:Nat) (Go.IntKind.u64.wrap (↑(BitVec.ofInt (64:Nat) Qj.1 ^^^ BitVec.ofInt (64:Nat) Qj.2).toNat:Int)) ^^^ BitVec.ofInt (64:Nat) Qj.3).toNat:Int)) ^^^ BitVec.ofInt (64:Nat) Qj.4).toNat:Int)))) (0:Int) (Go.IntKind.u64.wrap (↑(BitVec.ofInt (64:Nat) k0 ^^^ BitVec.ofInt (64:Nat) (8317987319222330741:Int)).toNat:Int)) (Go.IntKind.u64.wrap (↑(BitVec.ofInt (64:Nat) k1 ^^^ BitVec.ofInt (64:Nat) (7237128888997146477:Int)).toNat:Int)) (Go.IntKind.u64.wrap (↑(BitVec.ofInt (64:Nat) k0 ^^^ BitVec.ofInt (64:Nat) (7816392313619706465:Int)).toNat:Int)) (Go.IntKind.u64.wrap (↑(BitVec.ofInt (64:Nat) k1 ^^^ BitVec.ofInt (64:Nat) (8387220255154660723:Int)).toNat:Int))
def w3w:w3v:=v2o J6
abbrev j73:Type:=Int->List (List Int)->(Int->Prop)->Prop
def w67(v5y:w2d)(y3q:w3v):j73:=fun domain fields K=>v5y fields fun Qa=>y3q domain (0:Int) Qa fun Qc=>K Qc
def j74:j73:=w67 j28 w3w
abbrev v2p:Type:=ByteArray->ByteArray->(Int->Prop)->Prop
def v2q(y0f:j73):v2p:=fun salt key K=>Sml salt.size/\Sml key.size/\y0f (1:Int) [List.map (fun b=>(↑b.toNat:Int)) (salt,key,()).1.data.toList,List.map (fun b=>(↑b.toNat:Int)) (salt,key,()).2.1.data.toList] fun Qa=>(10000:Int)≠(0:Int)/\InI (Qa.tmod (10000:Int))/\K (Qa.tmod (10000:Int))
def w3x:v2p:=v2q j74
abbrev z1v:Type:=List (Int)->Int->Envt->(List (Frc)->Int->Prop)->Prop
def j29(Qb:Zi):z1v:=fun list at_ v K=>Lp3 (fun Qa Qz j0a u3u=>Qb list j0a (3:Int) fun Qc Je=>Cnd (Qz<Qc) (Qb list Je (4:Int) fun Qj Zl=>InI ((1:Int)+Qj)/\Jn2 (fun Ql Hy=>Jn4 (fun Qu Wd j2f y0j=>Sml (Qa++[Frc.mk Qu Wd j2f]).length/\InI (Qz+1)/\u3u (Qa++[Frc.mk Qu Wd j2f]) (Qz+1) y0j) fun v5v=>Qb list Hy (4:Int) fun Qk z1a=>Fits v.6->CAt v.6 Qk (fun y7=>Jn2 (fun Wo z18=>At v.6 Qk fun y10=>Qb list z18 (4:Int) fun Gc v5x=>Cnd ((0:Int)<Gc) (Fits y10.7->Cnd ((0:Int)<(↑y10.7.length:Int)) (Fits y10.7->Qb list v5x (↑y10.7.length:Int) fun z15 y8c=>At y10.7 z15 fun y16=>v5v Wo y7.1 y16.3 y8c) (v5v Wo y7.1 ((1:Int)+Qj) v5x)) (v5v Wo y7.1 ((1:Int)+Qj) v5x)) fun y3l=>Qb list z1a (4:Int) fun Gb B5=>Cnd ((0:Int)<Gb) (At v.6 Qk fun y11=>y3l y11.2 B5) (y3l Ql B5)) (v5v Ql (B8 []) ((1:Int)+Qj) z1a)) fun v99=>Qb list Zl (3:Int) fun Qu Wd=>Cnd (Qu=1) (v99 (B8 [108,98]) Wd) (v99 (B8 [108,97]) Wd)) (K Qa Je)) [] (0:Int) at_
def z7f:z1v:=j29 Wf
abbrev q2w:Type:=List (Int)->List (Int)->(Envt->Subj->List (Frc)->Prop)->Prop
def z3b(w0a:w3t)(q3u:Rb)(z4f:q83)(z7z:z1v):q2w:=fun codes who K=>w0a codes (400:Int) fun Qa Qz=>q3u Qa Qz (10:Int) fun Qc _=>w0a who (80:Int) fun Qj Zl=>z4f Qj Zl fun Ql Hy=>z7z Qj Hy (Envt.mk (Sett.mk Qc.1.1 Qc.1.2 Qc.1.3) Qc.2 Qc.3 Qc.4 Qc.5 Qc.6) fun Qu _=>K (Envt.mk (Sett.mk Qc.1.1 Qc.1.2 Qc.1.3) Qc.2 Qc.3 Qc.4 Qc.5 Qc.6) (Subj.mk Ql.1) Qu
def q2x:q2w:=z3b w3u q2c z3a z7f
abbrev z1w:Type:=Dcs->Dcs->(Bool->Prop)->Prop
def j3a(Bd:q3w):z1w:=fun a b K=>Cnd (a.1=b.1) (Cnd (a.2=b.2) (Bd (Val.mk a.3.1 a.3.2 a.3.3 a.3.4) (Val.mk b.3.1 b.3.2 b.3.3 b.3.4) fun Qa=>Cnd (Qa=true) (Cnd (a.4.1=b.4.1/\a.4.2=b.4.2/\a.4.3=b.4.3/\a.4.4=b.4.4) (K (decide (a.5=b.5))) (K false)) (K false)) (K false)) (K false)
def z7g:z1w:=j3a q3x
abbrev w3y:Type:=Int->Int->(Int->Prop)->Prop
def w3z:w3y:=fun x n K=>n≠(0:Int)/\Cnd (x.tmod n<0) (InI (x.tmod n+n)/\K (x.tmod n+n)) (K (x.tmod n))
abbrev Rk:Type:=List (Int)->List (Int)->Int->(Bool->Prop)->Prop
def Rl(q7u:q2v)(q7v:q2w)(w51:w3y)(Wy:q0v)(Jl:Vr)(z70:z1w):Rk:=fun codes who which K=>q7u fun Qa=>Cnd (Qa=true) (q7v codes who fun Qc Je _=>Fits Qc.4->Cnd ((↑Qc.4.length:Int)=0) (K true) (Fits Qc.4->w51 which (↑Qc.4.length:Int) fun Qu=>At Qc.4 Qu fun y5=>Lp2 (fun Wk y0a y4s=>Fits Qc.4->Cnd (Wk<(↑Qc.4.length:Int)) (Lp2 (fun Wo y0k v5t=>Fits Qc.4->Cnd (Wo<(↑Qc.4.length:Int)) (Lp2 (fun Wi y3r v5w=>At Qc.4 Wo fun y12=>Cnd ((y3r y12.1).getD false=true) (At Qc.4 Wo fun y14=>Fits y14.6->Cnd (Wi<(↑y14.6.length:Int)) (At Qc.4 Wo fun y17=>At y17.6 Wi fun y19=>InI (Wi+1)/\v5w (Wi+1) (put y3r y19.1 true)) (InI (Wo+1)/\v5t (Wo+1) y3r)) (InI (Wo+1)/\v5t (Wo+1) y3r)) (0:Int) y0k) (InI (Wk+1)/\y4s (Wk+1) y0k)) (0:Int) y0a) (Lp2 (fun Wo z18 v5t=>Fits Qc.4->CAt Qc.4 Wo (fun y11=>Cnd ((y0a y11.1).getD false=true) (At Qc.4 Wo fun y13=>Sml (z18++[Flg.mk y13.1 y13.2 y13.3 y13.4 y13.5 y13.6 y13.7 y13.8 (Srv.mk y13.9.1 y13.9.2 y13.9.3 y13.9.4 y13.9.5)]).length/\InI (Wo+1)/\v5t (Wo+1) (z18++[Flg.mk y13.1 y13.2 y13.3 y13.4 y13.5 y13.6 y13.7 y13.8 (Srv.mk y13.9.1 y13.9.2 y13.9.3 y13.9.4 y13.9.5)])) (InI (Wo+1)/\v5t (Wo+1) z18)) (Lp2 (fun Wi q9k v5w=>Fits Qc.6->CAt Qc.6 Wi (fun y13=>Cnd ((y0a y13.3).getD false=true) (At Qc.6 Wi fun y15=>Sml (q9k++[Exper.mk y15.1 y15.2 y15.3 y15.4 y15.5 y15.6 y15.7 (Ex.mk y15.8.1 y15.8.2 y15.8.3 y15.8.4 y15.8.5)]).length/\InI (Wi+1)/\v5w (Wi+1) (q9k++[Exper.mk y15.1 y15.2 y15.3 y15.4 y15.5 y15.6 y15.7 (Ex.mk y15.8.1 y15.8.2 y15.8.3 y15.8.4 y15.8.5)])) (InI (Wi+1)/\v5w (Wi+1) q9k)) (Wy (Envt.mk (Sett.mk Qc.1.1 Qc.1.2 Qc.1.3) Qc.2 Qc.3 z18 Qc.5 q9k) fun Q5=>Cnd (Q5=true) (Jl (Envt.mk (Sett.mk Qc.1.1 Qc.1.2 Qc.1.3) Qc.2 Qc.3 Qc.4 Qc.5 Qc.6) (Subj.mk Je.1) [] y5.1 fun We u25=>Jl (Envt.mk (Sett.mk Qc.1.1 Qc.1.2 Qc.1.3) Qc.2 Qc.3 z18 Qc.5 q9k) (Subj.mk Je.1) [] y5.1 fun z15 y8c=>Cnd (u25=0) (Cnd (y8c=0) (z70 (Dcs.mk We.1 We.2 (Val.mk We.3.1 We.3.2 We.3.3 We.3.4) (Rsn.mk We.4.1 We.4.2 We.4.3 We.4.4) We.5) (Dcs.mk z15.1 z15.2 (Val.mk z15.3.1 z15.3.2 z15.3.3 z15.3.4) (Rsn.mk z15.4.1 z15.4.2 z15.4.3 z15.4.4) z15.5) fun Rs=>K Rs) (K false)) (K false)) (K false))) (0:Int) [])) (0:Int) [])) (0:Int) (put (fun _=>none) y5.1 true))) (K false)
def Z2:Rk:=Rl q68 q2x w3z Vm Rj z7g
end Go.En
end
noncomputable section
set_option maxRecDepth 100000
namespace Go.Proofs
open Go.Shelf
def Tryz.laysM171_ren:Go.Shelf.Ren:=⟨fun|171=>164|243=>202|246=>260|283=>288|284=>289|285=>290|286=>291|129=>238|317=>304|318=>305|319=>306|320=>307|337=>319|338=>320|n=>n,fun|3=>3|9=>9|2=>2|4=>4|171=>365|0=>0|53=>221|37=>22|5=>5|173=>367|212=>375|51=>326|20=>20|213=>376|46=>273|232=>390|233=>391|n=>n,fun|17=>5|18=>7|19=>8|n=>n⟩
theorem Tryz.laysM171:Go.Proofs.LaysM.n171 Tryz.prog Tryz.laysM171_ren:={
 mixed:=by kernel_rfl
 f129:=Tryz.func238.trans (congrArg some (by kernel_rfl))
 f171:=Tryz.func164.trans (congrArg some (by kernel_rfl))
 f243:=Tryz.func202.trans (congrArg some (by kernel_rfl))
 f246:=Tryz.func260.trans (congrArg some (by kernel_rfl))
 f283:=Tryz.func288.trans (congrArg some (by kernel_rfl))
 f284:=Tryz.func289.trans (congrArg some (by kernel_rfl))
 f285:=Tryz.func290.trans (congrArg some (by kernel_rfl))
 f286:=Tryz.func291.trans (congrArg some (by kernel_rfl))
 f317:=Tryz.func304.trans (congrArg some (by kernel_rfl))
 f318:=Tryz.func305.trans (congrArg some (by kernel_rfl))
 f319:=Tryz.func306.trans (congrArg some (by kernel_rfl))
 f320:=Tryz.func307.trans (congrArg some (by kernel_rfl))
 f337:=Tryz.func319.trans (congrArg some (by kernel_rfl))
 f338:=Tryz.func320.trans (congrArg some (by kernel_rfl))
 t0:=Tryz.underlying0
 a0:=Tryz.isAgg0
 z0:=Tryz.sizeOf0
 v0:=Tryz.zeroValue0
 t2:=Tryz.underlying2
 a2:=Tryz.isAgg2
 z2:=Tryz.sizeOf2
 v2:=Tryz.zeroValue2
 t3:=Tryz.underlying3
 a3:=Tryz.isAgg3
 z3:=Tryz.sizeOf3
 v3:=Tryz.zeroValue3
 t4:=Tryz.underlying4
 a4:=Tryz.isAgg4
 z4:=Tryz.sizeOf4
 v4:=Tryz.zeroValue4
 t5:=Tryz.underlying5
 a5:=Tryz.isAgg5
 z5:=Tryz.sizeOf5
 v5:=Tryz.zeroValue5
 t9:=Tryz.underlying9
 a9:=Tryz.isAgg9
 z9:=Tryz.sizeOf9
 v9:=Tryz.zeroValue9
 t20:=Tryz.underlying20
 a20:=Tryz.isAgg20
 z20:=Tryz.sizeOf20
 v20:=Tryz.zeroValue20
 t37:=Tryz.underlying22
 a37:=Tryz.isAgg22
 z37:=Tryz.sizeOf22
 v37:=Tryz.zeroValue22
 t46:=Tryz.underlying273
 a46:=Tryz.isAgg273
 z46:=Tryz.sizeOf273
 v46:=Tryz.zeroValue273
 t51:=Tryz.underlying326
 a51:=Tryz.isAgg326
 z51:=Tryz.sizeOf326
 v51:=Tryz.zeroValue326
 t53:=Tryz.underlying221
 a53:=Tryz.isAgg221
 z53:=Tryz.sizeOf221
 v53:=Tryz.zeroValue221
 t171:=Tryz.underlying365
 a171:=Tryz.isAgg365
 z171:=Tryz.sizeOf365
 v171:=Tryz.zeroValue365
 t173:=Tryz.underlying367
 a173:=Tryz.isAgg367
 z173:=Tryz.sizeOf367
 v173:=Tryz.zeroValue367
 t212:=Tryz.underlying375
 a212:=Tryz.isAgg375
 z212:=Tryz.sizeOf375
 v212:=Tryz.zeroValue375
 t213:=Tryz.underlying376
 a213:=Tryz.isAgg376
 z213:=Tryz.sizeOf376
 t232:=Tryz.underlying390
 a232:=Tryz.isAgg390
 z232:=Tryz.sizeOf390
 v232:=Tryz.zeroValue390
 t233:=Tryz.underlying391
 a233:=Tryz.isAgg391
 z233:=Tryz.sizeOf391
 v233:=Tryz.zeroValue391
 g17:=by kernel_rfl
 g18:=by kernel_rfl
 g19:=by kernel_rfl
 i0:=by kernel_rfl
 i2:=by kernel_rfl
 i3:=by kernel_rfl
 i4:=by kernel_rfl
 i5:=by kernel_rfl
 i9:=by kernel_rfl
 i20:=by kernel_rfl
 i37:=by kernel_rfl
 i46:=by kernel_rfl
 i51:=by kernel_rfl
 i53:=by kernel_rfl
 i171:=by kernel_rfl
 i173:=by kernel_rfl
 i212:=by kernel_rfl
 i232:=by kernel_rfl
 i233:=by kernel_rfl
 m17:=by kernel_rfl
 m18:=by kernel_rfl
 m19:=by kernel_rfl}
open Go.RowKit Go.Sort Go.Lib in
theorem Tryz.strconv_Itoa (n:Int) (h0: -9223372036854775808<=n) (h1:n<=9223372036854775807) (w:World) (htab:Lib.TabIs Tryz.prog w "internal/strconv.uint64pow10" .u64 Lib.pow10Tab):
  Calls Tryz.prog 164 #[.int .i64 n] w fun e w'=>e= .returned (.string ⟨(Lib.itoa n).toArray⟩)/\ ∃k os,w'=grow (w.drewN k) os:=Any.strconv_Itoa Tryz.laysM171 n h0 h1 w htab
def Tryz.laysC172_ren:Go.Shelf.Ren:=⟨fun|172=>318|244=>326|245=>327|247=>331|279=>332|280=>333|281=>334|282=>335|287=>337|316=>338|171=>164|205=>339|321=>340|322=>341|243=>202|246=>260|283=>288|284=>289|285=>290|286=>291|129=>238|317=>304|318=>305|319=>306|320=>307|337=>319|338=>320|n=>n,fun|9=>9|3=>3|75=>383|76=>384|4=>4|5=>5|167=>395|37=>22|0=>0|85=>396|2=>2|168=>398|53=>221|175=>401|46=>273|210=>405|127=>408|145=>411|143=>409|21=>21|171=>365|173=>367|212=>375|51=>326|20=>20|213=>376|232=>390|233=>391|80=>95|n=>n,fun|15=>9|16=>10|17=>5|18=>7|19=>8|n=>n⟩
theorem Tryz.laysC172:Go.Proofs.LaysC.n172 Tryz.prog Tryz.laysC172_ren:={
 mixed:=by kernel_rfl
 f129:=Tryz.func238.trans (congrArg some (by kernel_rfl))
 f171:=Tryz.func164.trans (congrArg some (by kernel_rfl))
 f172:=Tryz.func318.trans (congrArg some (by kernel_rfl))
 f205:=Tryz.func339.trans (congrArg some (by kernel_rfl))
 f243:=Tryz.func202.trans (congrArg some (by kernel_rfl))
 f244:=Tryz.func326.trans (congrArg some (by kernel_rfl))
 f245:=Tryz.func327.trans (congrArg some (by kernel_rfl))
 f246:=Tryz.func260.trans (congrArg some (by kernel_rfl))
 f247:=Tryz.func331.trans (congrArg some (by kernel_rfl))
 f279:=Tryz.func332.trans (congrArg some (by kernel_rfl))
 f280:=Tryz.func333.trans (congrArg some (by kernel_rfl))
 f281:=Tryz.func334.trans (congrArg some (by kernel_rfl))
 f282:=Tryz.func335.trans (congrArg some (by kernel_rfl))
 f283:=Tryz.func288.trans (congrArg some (by kernel_rfl))
 f284:=Tryz.func289.trans (congrArg some (by kernel_rfl))
 f285:=Tryz.func290.trans (congrArg some (by kernel_rfl))
 f286:=Tryz.func291.trans (congrArg some (by kernel_rfl))
 f287:=Tryz.func337.trans (congrArg some (by kernel_rfl))
 f316:=Tryz.func338.trans (congrArg some (by kernel_rfl))
 f317:=Tryz.func304.trans (congrArg some (by kernel_rfl))
 f318:=Tryz.func305.trans (congrArg some (by kernel_rfl))
 f319:=Tryz.func306.trans (congrArg some (by kernel_rfl))
 f320:=Tryz.func307.trans (congrArg some (by kernel_rfl))
 f321:=Tryz.func340.trans (congrArg some (by kernel_rfl))
 f322:=Tryz.func341.trans (congrArg some (by kernel_rfl))
 f337:=Tryz.func319.trans (congrArg some (by kernel_rfl))
 f338:=Tryz.func320.trans (congrArg some (by kernel_rfl))
 t0:=Tryz.underlying0
 a0:=Tryz.isAgg0
 z0:=Tryz.sizeOf0
 v0:=Tryz.zeroValue0
 t2:=Tryz.underlying2
 a2:=Tryz.isAgg2
 z2:=Tryz.sizeOf2
 v2:=Tryz.zeroValue2
 t3:=Tryz.underlying3
 a3:=Tryz.isAgg3
 z3:=Tryz.sizeOf3
 v3:=Tryz.zeroValue3
 t4:=Tryz.underlying4
 a4:=Tryz.isAgg4
 z4:=Tryz.sizeOf4
 v4:=Tryz.zeroValue4
 t5:=Tryz.underlying5
 a5:=Tryz.isAgg5
 z5:=Tryz.sizeOf5
 v5:=Tryz.zeroValue5
 t9:=Tryz.underlying9
 a9:=Tryz.isAgg9
 z9:=Tryz.sizeOf9
 v9:=Tryz.zeroValue9
 t20:=Tryz.underlying20
 a20:=Tryz.isAgg20
 z20:=Tryz.sizeOf20
 v20:=Tryz.zeroValue20
 t21:=Tryz.underlying21
 a21:=Tryz.isAgg21
 z21:=Tryz.sizeOf21
 v21:=Tryz.zeroValue21
 t37:=Tryz.underlying22
 a37:=Tryz.isAgg22
 z37:=Tryz.sizeOf22
 v37:=Tryz.zeroValue22
 t46:=Tryz.underlying273
 a46:=Tryz.isAgg273
 z46:=Tryz.sizeOf273
 v46:=Tryz.zeroValue273
 t51:=Tryz.underlying326
 a51:=Tryz.isAgg326
 z51:=Tryz.sizeOf326
 v51:=Tryz.zeroValue326
 t53:=Tryz.underlying221
 a53:=Tryz.isAgg221
 z53:=Tryz.sizeOf221
 v53:=Tryz.zeroValue221
 t75:=Tryz.underlying383
 a75:=Tryz.isAgg383
 z75:=Tryz.sizeOf383
 v75:=Tryz.zeroValue383
 t76:=Tryz.underlying384
 a76:=Tryz.isAgg384
 z76:=Tryz.sizeOf384
 v76:=Tryz.zeroValue384
 t85:=Tryz.underlying396
 a85:=Tryz.isAgg396
 z85:=Tryz.sizeOf396
 v85:=Tryz.zeroValue396
 t127:=Tryz.underlying408
 a127:=Tryz.isAgg408
 z127:=Tryz.sizeOf408
 v127:=Tryz.zeroValue408
 t143:=Tryz.underlying409
 a143:=Tryz.isAgg409
 z143:=Tryz.sizeOf409
 v143:=Tryz.zeroValue409
 t145:=Tryz.underlying411
 a145:=Tryz.isAgg411
 z145:=Tryz.sizeOf411
 v145:=Tryz.zeroValue411
 t167:=Tryz.underlying395
 a167:=Tryz.isAgg395
 z167:=Tryz.sizeOf395
 v167:=Tryz.zeroValue395
 t168:=Tryz.underlying398
 a168:=Tryz.isAgg398
 z168:=Tryz.sizeOf398
 v168:=Tryz.zeroValue398
 t171:=Tryz.underlying365
 a171:=Tryz.isAgg365
 z171:=Tryz.sizeOf365
 v171:=Tryz.zeroValue365
 t173:=Tryz.underlying367
 a173:=Tryz.isAgg367
 z173:=Tryz.sizeOf367
 v173:=Tryz.zeroValue367
 t175:=Tryz.underlying401
 a175:=Tryz.isAgg401
 z175:=Tryz.sizeOf401
 v175:=Tryz.zeroValue401
 t210:=Tryz.underlying405
 a210:=Tryz.isAgg405
 z210:=Tryz.sizeOf405
 v210:=Tryz.zeroValue405
 t212:=Tryz.underlying375
 a212:=Tryz.isAgg375
 z212:=Tryz.sizeOf375
 v212:=Tryz.zeroValue375
 t213:=Tryz.underlying376
 a213:=Tryz.isAgg376
 z213:=Tryz.sizeOf376
 t232:=Tryz.underlying390
 a232:=Tryz.isAgg390
 z232:=Tryz.sizeOf390
 v232:=Tryz.zeroValue390
 t233:=Tryz.underlying391
 a233:=Tryz.isAgg391
 z233:=Tryz.sizeOf391
 v233:=Tryz.zeroValue391
 g15:=by kernel_rfl
 g16:=by kernel_rfl
 g17:=by kernel_rfl
 g18:=by kernel_rfl
 g19:=by kernel_rfl
 t80:=Tryz.underlying95
 a80:=Tryz.isAgg95
 z80:=Tryz.sizeOf95
 v80:=Tryz.zeroValue95
 i0:=by kernel_rfl
 i2:=by kernel_rfl
 i3:=by kernel_rfl
 i4:=by kernel_rfl
 i5:=by kernel_rfl
 i9:=by kernel_rfl
 i20:=by kernel_rfl
 i21:=by kernel_rfl
 i37:=by kernel_rfl
 i46:=by kernel_rfl
 i51:=by kernel_rfl
 i53:=by kernel_rfl
 i75:=by kernel_rfl
 i76:=by kernel_rfl
 i80:=by kernel_rfl
 i85:=by kernel_rfl
 i127:=by kernel_rfl
 i143:=by kernel_rfl
 i145:=by kernel_rfl
 i167:=by kernel_rfl
 i168:=by kernel_rfl
 i171:=by kernel_rfl
 i173:=by kernel_rfl
 i175:=by kernel_rfl
 i210:=by kernel_rfl
 i212:=by kernel_rfl
 i232:=by kernel_rfl
 i233:=by kernel_rfl
 m15:=by kernel_rfl
 m16:=by kernel_rfl
 m17:=by kernel_rfl
 m18:=by kernel_rfl
 m19:=by kernel_rfl
 c0:=by kernel_rfl
 c2:=by kernel_rfl
 c3:=by kernel_rfl
 c4:=by kernel_rfl
 c5:=by kernel_rfl
 c9:=by kernel_rfl
 c20:=by kernel_rfl
 c21:=by kernel_rfl
 c37:=by kernel_rfl
 c46:=by kernel_rfl
 c51:=by kernel_rfl
 c53:=by kernel_rfl
 c75:=by kernel_rfl
 c76:=by kernel_rfl
 c80:=by kernel_rfl
 c85:=by kernel_rfl
 c127:=by kernel_rfl
 c143:=by kernel_rfl
 c145:=by kernel_rfl
 c167:=by kernel_rfl
 c168:=by kernel_rfl
 c171:=by kernel_rfl
 c173:=by kernel_rfl
 c175:=by kernel_rfl
 c210:=by kernel_rfl
 c212:=by kernel_rfl
 c213:=by kernel_rfl
 c232:=by kernel_rfl
 c233:=by kernel_rfl}
open Go.RowKit in
theorem Tryz.strconv_Atoi_ok(s:ByteArray)(hmax:s.size<=9223372036854775806)(v:Int)(h:Lib.atoiAll s.data.toList= .ok v)(w:World):
  Calls Tryz.prog 318 #[.string s] w fun e w'=>e= .returned (.tuple #[.int .i64 v,.nilIface])/\(w'=w∨ ∃t,w'=Lib.bytesWorld w 5 t):=Any.strconv_Atoi_ok Tryz.laysC172 s hmax v h w
open Go.RowKit in
theorem Tryz.strconv_Atoi_syntax(s:ByteArray)(hlim:s.size<=281474976710656)(h:Lib.atoiAll s.data.toList=Go.Lib.NumEnd.syntax)(ev:Value)(w:World)(hv:w.cell? ⟨9,0,none⟩=some ev)(hev:ev= .nilIface∨ ∃te pe,ev= .iface te pe):
  Calls Tryz.prog 318 #[.string s] w fun e w'=> ∃N,e= .returned (.tuple #[.int .i64 (0),.iface 398 (.pointer (some ⟨N,0,none⟩))])/\w.heap.size<=N/\w'.heap[N]? =some (.cells #[.string ⟨#[65,116,111,105]⟩,.string s,ev] 405 (0,0))/\Below w.heap.size w w':=Any.strconv_Atoi_syntax Tryz.laysC172 s hlim h ev w hv hev
open Go.RowKit in
theorem Tryz.strconv_Atoi_range(s:ByteArray)(hlim:s.size<=281474976710656)(h:Lib.atoiAll s.data.toList= .range)(ev:Value)(w:World)(hv:w.cell? ⟨10,0,none⟩=some ev)(hev:ev= .nilIface∨ ∃te pe,ev= .iface te pe):
  Calls Tryz.prog 318 #[.string s] w fun e w'=> ∃N,e= .returned (.tuple #[.int .i64 (Lib.atoiSat s.data.toList),.iface 398 (.pointer (some ⟨N,0,none⟩))])/\w.heap.size<=N/\w'.heap[N]? =some (.cells #[.string ⟨#[65,116,111,105]⟩,.string s,ev] 405 (0,0))/\Below w.heap.size w w':=Any.strconv_Atoi_range Tryz.laysC172 s hlim h ev w hv hev
def Tryz.lays144_ren:Go.Shelf.Ren:=⟨fun|144=>251|143=>282|219=>298|217=>312|225=>313|224=>314|267=>315|266=>321|314=>322|n=>n,fun|9=>9|4=>4|3=>3|5=>5|46=>273|146=>386|51=>326|n=>n,fun|1=>6|n=>n⟩
theorem Tryz.lays144:Go.Proofs.Lays.n144 Tryz.prog Tryz.lays144_ren:={
 mixed:=by kernel_rfl
 f143:=Tryz.func282.trans (congrArg some (by kernel_rfl))
 f144:=Tryz.func251.trans (congrArg some (by kernel_rfl))
 f217:=Tryz.func312.trans (congrArg some (by kernel_rfl))
 f219:=Tryz.func298.trans (congrArg some (by kernel_rfl))
 f224:=Tryz.func314.trans (congrArg some (by kernel_rfl))
 f225:=Tryz.func313.trans (congrArg some (by kernel_rfl))
 f266:=Tryz.func321.trans (congrArg some (by kernel_rfl))
 f267:=Tryz.func315.trans (congrArg some (by kernel_rfl))
 f314:=Tryz.func322.trans (congrArg some (by kernel_rfl))
 t3:=Tryz.underlying3
 a3:=Tryz.isAgg3
 z3:=Tryz.sizeOf3
 v3:=Tryz.zeroValue3
 t4:=Tryz.underlying4
 a4:=Tryz.isAgg4
 z4:=Tryz.sizeOf4
 v4:=Tryz.zeroValue4
 t5:=Tryz.underlying5
 a5:=Tryz.isAgg5
 z5:=Tryz.sizeOf5
 v5:=Tryz.zeroValue5
 t9:=Tryz.underlying9
 a9:=Tryz.isAgg9
 z9:=Tryz.sizeOf9
 v9:=Tryz.zeroValue9
 t46:=Tryz.underlying273
 a46:=Tryz.isAgg273
 z46:=Tryz.sizeOf273
 v46:=Tryz.zeroValue273
 t51:=Tryz.underlying326
 a51:=Tryz.isAgg326
 z51:=Tryz.sizeOf326
 v51:=Tryz.zeroValue326
 t146:=Tryz.underlying386
 a146:=Tryz.isAgg386
 z146:=Tryz.sizeOf386
 v146:=Tryz.zeroValue386
 g1:=by kernel_rfl}
open Go.RowKit Go.Lib in
theorem Tryz.strings_Contains(s sub:ByteArray)(m:Int)(w:World)(hs:s.size<4294967281)(hm:w.cell? ⟨6,0,none⟩=some (.int .i64 m)):
  Calls Tryz.prog 251 #[.string s,.string sub] w fun e w'=>e= .returned (.bool (Lib.contains s.data.toList sub.data.toList))/\w'=w:=Any.strings_Contains Tryz.lays144 s sub m w hs hm
def Tryz.lays190_ren:Go.Shelf.Ren:=⟨fun|190=>137|125=>180|258=>179|128=>237|129=>238|302=>228|303=>229|304=>230|305=>231|306=>232|307=>233|308=>234|309=>235|310=>236|333=>270|329=>271|330=>272|334=>273|335=>274|336=>275|344=>297|n=>n,fun|31=>70|9=>9|3=>3|46=>273|0=>0|51=>326|53=>221|4=>4|183=>319|182=>318|131=>112|5=>5|218=>356|222=>353|228=>371|229=>341|n=>n,fun|n=>n⟩
theorem Tryz.lays190:Go.Proofs.Lays.n190 Tryz.prog Tryz.lays190_ren:={
 mixed:=by kernel_rfl
 f125:=Tryz.func180.trans (congrArg some (by kernel_rfl))
 f128:=Tryz.func237.trans (congrArg some (by kernel_rfl))
 f129:=Tryz.func238.trans (congrArg some (by kernel_rfl))
 f190:=Tryz.func137.trans (congrArg some (by kernel_rfl))
 f258:=Tryz.func179.trans (congrArg some (by kernel_rfl))
 f302:=Tryz.func228.trans (congrArg some (by kernel_rfl))
 f303:=Tryz.func229.trans (congrArg some (by kernel_rfl))
 f304:=Tryz.func230.trans (congrArg some (by kernel_rfl))
 f305:=Tryz.func231.trans (congrArg some (by kernel_rfl))
 f306:=Tryz.func232.trans (congrArg some (by kernel_rfl))
 f307:=Tryz.func233.trans (congrArg some (by kernel_rfl))
 f308:=Tryz.func234.trans (congrArg some (by kernel_rfl))
 f309:=Tryz.func235.trans (congrArg some (by kernel_rfl))
 f310:=Tryz.func236.trans (congrArg some (by kernel_rfl))
 f329:=Tryz.func271.trans (congrArg some (by kernel_rfl))
 f330:=Tryz.func272.trans (congrArg some (by kernel_rfl))
 f333:=Tryz.func270.trans (congrArg some (by kernel_rfl))
 f334:=Tryz.func273.trans (congrArg some (by kernel_rfl))
 f335:=Tryz.func274.trans (congrArg some (by kernel_rfl))
 f336:=Tryz.func275.trans (congrArg some (by kernel_rfl))
 f344:=Tryz.func297.trans (congrArg some (by kernel_rfl))
 t0:=Tryz.underlying0
 a0:=Tryz.isAgg0
 z0:=Tryz.sizeOf0
 v0:=Tryz.zeroValue0
 t3:=Tryz.underlying3
 a3:=Tryz.isAgg3
 z3:=Tryz.sizeOf3
 v3:=Tryz.zeroValue3
 t4:=Tryz.underlying4
 a4:=Tryz.isAgg4
 z4:=Tryz.sizeOf4
 v4:=Tryz.zeroValue4
 t5:=Tryz.underlying5
 a5:=Tryz.isAgg5
 z5:=Tryz.sizeOf5
 v5:=Tryz.zeroValue5
 t9:=Tryz.underlying9
 a9:=Tryz.isAgg9
 z9:=Tryz.sizeOf9
 v9:=Tryz.zeroValue9
 t31:=Tryz.underlying70
 a31:=Tryz.isAgg70
 z31:=Tryz.sizeOf70
 v31:=Tryz.zeroValue70
 t46:=Tryz.underlying273
 a46:=Tryz.isAgg273
 z46:=Tryz.sizeOf273
 v46:=Tryz.zeroValue273
 t51:=Tryz.underlying326
 a51:=Tryz.isAgg326
 z51:=Tryz.sizeOf326
 v51:=Tryz.zeroValue326
 t53:=Tryz.underlying221
 a53:=Tryz.isAgg221
 z53:=Tryz.sizeOf221
 v53:=Tryz.zeroValue221
 t131:=Tryz.underlying112
 a131:=Tryz.isAgg112
 z131:=Tryz.sizeOf112
 v131:=Tryz.zeroValue112
 t182:=Tryz.underlying318
 a182:=Tryz.isAgg318
 z182:=Tryz.sizeOf318
 v182:=Tryz.zeroValue318
 t183:=Tryz.underlying319
 a183:=Tryz.isAgg319
 z183:=Tryz.sizeOf319
 v183:=Tryz.zeroValue319
 t218:=Tryz.underlying356
 a218:=Tryz.isAgg356
 z218:=Tryz.sizeOf356
 v218:=Tryz.zeroValue356
 t222:=Tryz.underlying353
 a222:=Tryz.isAgg353
 z222:=Tryz.sizeOf353
 v222:=Tryz.zeroValue353
 t228:=Tryz.underlying371
 a228:=Tryz.isAgg371
 z228:=Tryz.sizeOf371
 v228:=Tryz.zeroValue371
 t229:=Tryz.underlying341
 a229:=Tryz.isAgg341
 z229:=Tryz.sizeOf341
 v229:=Tryz.zeroValue341}
open Go.Sort Go.RowKit in
theorem Tryz.slices_Sort_string(blk off cap:Nat)(ss:List (List UInt8))(w:World)(hH:Holds encStr w blk off ss.toArray)(hblk:blk<w.heap.size)(hsz:ss.length<4611686018427387904):
  Calls Tryz.prog 137 #[.slice (some ⟨blk,off,none⟩) ss.length cap] w fun e w'=>
   e= .returned (.tuple #[])/\ ∃n os,w'=grow (putRow encStr (Sort.ahead w n) blk off (ss.mergeSort fun x y=>decide (x<=y)).toArray) os:=Any.slices_Sort_string Tryz.lays190 blk off cap ss w hH hblk hsz
def Tryz.lays146_ren:Go.Shelf.Ren:=⟨fun|146=>302|221=>316|268=>323|138=>324|143=>282|195=>328|197=>329|218=>330|219=>298|260=>336|217=>312|225=>313|224=>314|267=>315|266=>321|314=>322|n=>n,fun|9=>9|31=>70|3=>3|4=>4|0=>0|105=>393|21=>21|5=>5|46=>273|119=>348|139=>351|138=>350|146=>386|51=>326|n=>n,fun|1=>6|3=>3|4=>4|n=>n⟩
theorem Tryz.lays146:Go.Proofs.Lays.n146 Tryz.prog Tryz.lays146_ren:={
 mixed:=by kernel_rfl
 f138:=Tryz.func324.trans (congrArg some (by kernel_rfl))
 f143:=Tryz.func282.trans (congrArg some (by kernel_rfl))
 f146:=Tryz.func302.trans (congrArg some (by kernel_rfl))
 f195:=Tryz.func328.trans (congrArg some (by kernel_rfl))
 f197:=Tryz.func329.trans (congrArg some (by kernel_rfl))
 f217:=Tryz.func312.trans (congrArg some (by kernel_rfl))
 f218:=Tryz.func330.trans (congrArg some (by kernel_rfl))
 f219:=Tryz.func298.trans (congrArg some (by kernel_rfl))
 f221:=Tryz.func316.trans (congrArg some (by kernel_rfl))
 f224:=Tryz.func314.trans (congrArg some (by kernel_rfl))
 f225:=Tryz.func313.trans (congrArg some (by kernel_rfl))
 f260:=Tryz.func336.trans (congrArg some (by kernel_rfl))
 f266:=Tryz.func321.trans (congrArg some (by kernel_rfl))
 f267:=Tryz.func315.trans (congrArg some (by kernel_rfl))
 f268:=Tryz.func323.trans (congrArg some (by kernel_rfl))
 f314:=Tryz.func322.trans (congrArg some (by kernel_rfl))
 t0:=Tryz.underlying0
 a0:=Tryz.isAgg0
 z0:=Tryz.sizeOf0
 v0:=Tryz.zeroValue0
 t3:=Tryz.underlying3
 a3:=Tryz.isAgg3
 z3:=Tryz.sizeOf3
 v3:=Tryz.zeroValue3
 t4:=Tryz.underlying4
 a4:=Tryz.isAgg4
 z4:=Tryz.sizeOf4
 v4:=Tryz.zeroValue4
 t5:=Tryz.underlying5
 a5:=Tryz.isAgg5
 z5:=Tryz.sizeOf5
 v5:=Tryz.zeroValue5
 t9:=Tryz.underlying9
 a9:=Tryz.isAgg9
 z9:=Tryz.sizeOf9
 v9:=Tryz.zeroValue9
 t21:=Tryz.underlying21
 a21:=Tryz.isAgg21
 z21:=Tryz.sizeOf21
 v21:=Tryz.zeroValue21
 t31:=Tryz.underlying70
 a31:=Tryz.isAgg70
 z31:=Tryz.sizeOf70
 v31:=Tryz.zeroValue70
 t46:=Tryz.underlying273
 a46:=Tryz.isAgg273
 z46:=Tryz.sizeOf273
 v46:=Tryz.zeroValue273
 t51:=Tryz.underlying326
 a51:=Tryz.isAgg326
 z51:=Tryz.sizeOf326
 v51:=Tryz.zeroValue326
 t105:=Tryz.underlying393
 a105:=Tryz.isAgg393
 z105:=Tryz.sizeOf393
 v105:=Tryz.zeroValue393
 t119:=Tryz.underlying348
 a119:=Tryz.isAgg348
 z119:=Tryz.sizeOf348
 t138:=Tryz.underlying350
 a138:=Tryz.isAgg350
 z138:=Tryz.sizeOf350
 v138:=Tryz.zeroValue350
 t139:=Tryz.underlying351
 a139:=Tryz.isAgg351
 z139:=Tryz.sizeOf351
 v139:=Tryz.zeroValue351
 t146:=Tryz.underlying386
 a146:=Tryz.isAgg386
 z146:=Tryz.sizeOf386
 v146:=Tryz.zeroValue386
 g1:=by kernel_rfl
 g3:=by kernel_rfl
 g4:=by kernel_rfl}
open Go.RowKit Go.Lib in
theorem Tryz.strings_Split(s sep:ByteArray)(m:Int)(w:World)(hs:s.size<4294967281)(hm:w.cell? ⟨6,0,none⟩=some (.int .i64 m))(h1:1<=sep.size):
  Calls Tryz.prog 302 #[.string s,.string sep] w fun e w'=>
   e= .returned (.slice (some ⟨w.heap.size,0,none⟩) (Lib.countB s sep+1) (Lib.countB s sep+1))/\w'=w.alloc (.cells ((Lib.splitB sep 0 (Lib.countB s sep) s).map Value.string).toArray 9):=Any.strings_Split Tryz.lays146 (by kernel_rfl) s sep m w hs hm h1
def Tryz.lays194_ren:Go.Shelf.Ren:=⟨fun|194=>220|n=>n,fun|31=>70|9=>9|3=>3|4=>4|0=>0|n=>n,fun|n=>n⟩
theorem Tryz.lays194:Go.Proofs.Lays.n194 Tryz.prog Tryz.lays194_ren:={
 mixed:=by kernel_rfl
 f194:=Tryz.func220.trans (congrArg some (by kernel_rfl))
 t0:=Tryz.underlying0
 a0:=Tryz.isAgg0
 z0:=Tryz.sizeOf0
 v0:=Tryz.zeroValue0
 t3:=Tryz.underlying3
 a3:=Tryz.isAgg3
 z3:=Tryz.sizeOf3
 v3:=Tryz.zeroValue3
 t4:=Tryz.underlying4
 a4:=Tryz.isAgg4
 z4:=Tryz.sizeOf4
 v4:=Tryz.zeroValue4
 t9:=Tryz.underlying9
 a9:=Tryz.isAgg9
 z9:=Tryz.sizeOf9
 v9:=Tryz.zeroValue9
 t31:=Tryz.underlying70
 a31:=Tryz.isAgg70
 z31:=Tryz.sizeOf70
 v31:=Tryz.zeroValue70}
open Go.RowKit Go.Lib Go.Sort in
theorem Tryz.slices_Compact_string(blk off cap:Nat)(zs:List (List UInt8))(w:World)(hH:Holds encStr w blk off zs.toArray)(hsz:zs.length<=9223372036854775807)(hcap:zs.length<=cap):
  Calls Tryz.prog 220 #[.slice (some ⟨blk,off,none⟩) zs.length cap] w fun e w'=>e= .returned (.slice (some ⟨blk,off,none⟩) (Lib.compact zs).length cap)/\ ∃q,w'=putRow encStr (Sort.ahead w q) blk off (Lib.compact zs++List.replicate (zs.length - (Lib.compact zs).length) []).toArray:=Any.slices_Compact_string Tryz.lays194 blk off cap zs w hH hsz hcap
open Go.RowKit Go.Lib Go.Sort in
theorem Tryz.slices_Compact_string_empty(a:Option Addr)(cap:Nat)(w:World):
  Calls Tryz.prog 220 #[.slice a 0 cap] w fun e w'=>e= .returned (.slice a 0 cap)/\w'=w:=Any.slices_Compact_string_empty Tryz.lays194 a cap w
def Tryz.laysNm224_ren:Go.Shelf.Ren:=⟨fun|24=>227|n=>n,fun|24=>70|9=>9|3=>3|4=>4|0=>0|n=>n,fun|n=>n⟩
theorem Tryz.laysNm224:Go.Proofs.Lays2.n24 Tryz.prog Tryz.laysNm224_ren:={
 mixed:=by kernel_rfl
 f24:=Tryz.func227.trans (congrArg some (by kernel_rfl))
 t0:=Tryz.underlying0
 a0:=Tryz.isAgg0
 z0:=Tryz.sizeOf0
 v0:=Tryz.zeroValue0
 t3:=Tryz.underlying3
 a3:=Tryz.isAgg3
 z3:=Tryz.sizeOf3
 v3:=Tryz.zeroValue3
 t4:=Tryz.underlying4
 a4:=Tryz.isAgg4
 z4:=Tryz.sizeOf4
 v4:=Tryz.zeroValue4
 t9:=Tryz.underlying9
 a9:=Tryz.isAgg9
 z9:=Tryz.sizeOf9
 v9:=Tryz.zeroValue9
 t24:=Tryz.underlying70
 a24:=Tryz.isAgg70
 z24:=Tryz.sizeOf70
 v24:=Tryz.zeroValue70
 i9:=by kernel_rfl}
open Go.RowKit Go.Lib Go.Sort in
theorem Tryz.slices_Delete_string(blk off cap i j:Nat)(zs:List (List UInt8))(w:World)(hH:Holds encStr w blk off zs.toArray)(hcap:zs.length<=cap)(hm:cap<=9223372036854775807)(hij:i<=j)(hj:j<=zs.length):
  Calls Tryz.prog 227 #[.slice (some ⟨blk,off,none⟩) zs.length cap,.int .i64 i,.int .i64 j] w fun e w'=>e= .returned (.slice (some ⟨blk,off,none⟩) (zs.length - (j - i)) cap)/\ ∃q,w'=putRow encStr (Sort.ahead w q) blk off (zs.take i++zs.drop j++List.replicate (j - i) []).toArray:=Any.slices_Delete_string Tryz.laysNm224 blk off cap i j zs w hH hcap hm hij hj
open Go.RowKit Go.Sort in
theorem Tryz.slices_Sort_string_none(p:Option Addr)(cap:Nat)(w:World):
  Calls Tryz.prog 137 #[.slice p 0 cap] w fun e w'=>e= .returned (.tuple #[])/\w'=w:=Any.slices_Sort_string_none Tryz.lays190 p cap w
def Tryz.lays196_ren:Go.Shelf.Ren:=⟨fun|196=>206|259=>263|n=>n,fun|9=>9|4=>4|3=>3|5=>5|12=>12|119=>348|0=>0|46=>273|139=>351|138=>350|53=>221|n=>n,fun|3=>3|4=>4|n=>n⟩
theorem Tryz.lays196:Go.Proofs.Lays.n196 Tryz.prog Tryz.lays196_ren:={
 mixed:=by kernel_rfl
 f196:=Tryz.func206.trans (congrArg some (by kernel_rfl))
 f259:=Tryz.func263.trans (congrArg some (by kernel_rfl))
 t0:=Tryz.underlying0
 a0:=Tryz.isAgg0
 z0:=Tryz.sizeOf0
 v0:=Tryz.zeroValue0
 t3:=Tryz.underlying3
 a3:=Tryz.isAgg3
 z3:=Tryz.sizeOf3
 v3:=Tryz.zeroValue3
 t4:=Tryz.underlying4
 a4:=Tryz.isAgg4
 z4:=Tryz.sizeOf4
 v4:=Tryz.zeroValue4
 t5:=Tryz.underlying5
 a5:=Tryz.isAgg5
 z5:=Tryz.sizeOf5
 v5:=Tryz.zeroValue5
 t9:=Tryz.underlying9
 a9:=Tryz.isAgg9
 z9:=Tryz.sizeOf9
 v9:=Tryz.zeroValue9
 t12:=Tryz.underlying12
 a12:=Tryz.isAgg12
 z12:=Tryz.sizeOf12
 v12:=Tryz.zeroValue12
 t46:=Tryz.underlying273
 a46:=Tryz.isAgg273
 z46:=Tryz.sizeOf273
 v46:=Tryz.zeroValue273
 t53:=Tryz.underlying221
 a53:=Tryz.isAgg221
 z53:=Tryz.sizeOf221
 v53:=Tryz.zeroValue221
 t119:=Tryz.underlying348
 a119:=Tryz.isAgg348
 z119:=Tryz.sizeOf348
 t138:=Tryz.underlying350
 a138:=Tryz.isAgg350
 z138:=Tryz.sizeOf350
 v138:=Tryz.zeroValue350
 t139:=Tryz.underlying351
 a139:=Tryz.isAgg351
 z139:=Tryz.sizeOf351
 v139:=Tryz.zeroValue351
 g3:=by kernel_rfl
 g4:=by kernel_rfl}
def Tryz.sorted221_ren:Go.Shelf.Ren:=⟨fun|6=>221|8=>268|9=>137|11=>296|13=>180|12=>179|23=>237|24=>238|14=>228|15=>229|16=>230|17=>231|18=>232|19=>233|20=>234|21=>235|22=>236|25=>270|26=>271|27=>272|28=>273|29=>274|30=>275|31=>297|n=>n,fun|26=>9|28=>311|24=>70|0=>0|3=>3|37=>273|48=>326|50=>221|4=>4|40=>319|39=>318|45=>112|5=>5|9=>9|51=>356|55=>353|57=>371|58=>341|33=>264|n=>n,fun|n=>n⟩
theorem Tryz.sorted221:Go.Proofs.SlLaysZ.n6 Tryz.prog Tryz.sorted221_ren:={
 mixed:=by kernel_rfl
 f6:=⟨Tryz.f221.name,by decide,Tryz.func221.trans (congrArg some (by kernel_rfl))⟩
 f8:=⟨Tryz.f268.name,by decide,Tryz.func268.trans (congrArg some (by kernel_rfl))⟩
 f11:=⟨Tryz.f296.name,by decide,Tryz.func296.trans (congrArg some (by kernel_rfl))⟩
 t0:=Tryz.underlying0
 a0:=Tryz.isAgg0
 z0:=Tryz.sizeOf0
 v0:=Tryz.zeroValue0
 t24:=Tryz.underlying70
 a24:=Tryz.isAgg70
 z24:=Tryz.sizeOf70
 v24:=Tryz.zeroValue70
 t26:=Tryz.underlying9
 a26:=Tryz.isAgg9
 z26:=Tryz.sizeOf9
 v26:=Tryz.zeroValue9
 t28:=Tryz.underlying311
 a28:=Tryz.isAgg311
 z28:=Tryz.sizeOf311
 v28:=Tryz.zeroValue311
 i26:=by kernel_rfl}
end Go.Proofs
end
noncomputable section
set_option maxRecDepth 100000
namespace Go.Fl
open Go Go.Proofs Go.RowKit Go.Maps Go.Sort Go.Shelf
variable {P:Program}{ρ:Ren}
def v79(F:Fence)(n:Nat)(P:Program)(g:Nat)(lb:Array Value)(ss:List (List UInt8))(w:World):Prop:=
 ∀(l:Nat) (J:List (List UInt8)->World->Prop) (W:World),Below w.heap.size w W->AbidesFrom W.heap.size J->(∀pre W1,J pre W1->Below w.heap.size w W1)->
  (∀pre x W1,J pre W1->pre.length<ss.length->YieldAt F (n - 1) P l #[encStr x] W1 fun e W'=>e= .returned (.bool true)/\J (pre++[x]) W'/\KeepsWalks W1 W')->
  J [] W->CallsIn F n P g (#[.func (.yield l) #[] #[]]++lb) W fun e W'=>(∃v,e= .returned v)/\J ss W'
theorem w2e{W:World}{base j:Nat}{e:TypeId}{v:Value}{k:Nat}{xs:List Value}{o:Obj}(h:W.ownsRow base e 1 v k xs)(hj:W.heap[j]? =some o)(hno: ∀cur,o≠ .cells cur e (0,0))(o':Obj):(W.putObj j o').ownsRow base e 1 v k xs:=
 h.kept (grownBy_putObj_a W j o') (ownsRow_ne_a h hj hno)
set_option maxHeartbeats 2000000 in
theorem j75(L:SlLaysZ.n11 P ρ)(F:Fence)(n:Nat)(hf:F.fn (ρ.f 11))(hro:F.round=none)(hn:2<=n)(g:Nat)(lb:Array Value)(hg:F.fn g)(eg: ∀args w,(callFunc g args).run P w= .ok (.enter g args) w)
  (ss:List (List UInt8))(hN:ss.length<=maxLen)(hNb:ss.length*16<=140737488355328)(w:World)(hseq:v79 F (n - 1) P g lb ss w):
  CallsIn F n P (ρ.f 11) #[.slice none 0 0,.func (.func g) #[] lb] w fun e w'=> ∃v,e= .returned v/\w'.ownsRow w.heap.size (ρ.t 26) 1 v ss.length (ss.map encStr)/\Below w.heap.size w w':=by
 have mixed:=L.mixed;have t0:=L.t0;have a0:=L.a0;have z0:=L.z0;have v0:=L.v0;have t24:=L.t24;have a24:=L.a24;have z24:=L.z24;have v24:=L.v24;have t26:=L.t26;have a26:=L.a26;have z26:=L.z26;have v26:=L.v26
 have u0:=run_underlying L.t0;have u24:=run_underlying L.t24;have u26:=run_underlying L.t26
 have apart:ρ.t 24≠ρ.t 26:=fun e=>by have h:=L.t24;rw[e,L.t26] at h;cases h
 obtain⟨_,_,body⟩:=L.f11
 refine callsIn_of_wp_marks body rfl hf ?_ hro
 simp only[SlBodyZ.n11_ntmps ρ,List.size_toArray,List.length_cons,List.length_nil,Nat.reduceAdd,Nat.reduceSub,Array.replicate_succ,Array.replicate_zero,List.push_toArray,List.append_toArray,List.nil_append,List.cons_append]
 gi_wp2
 refine wpIn_rangeFunc fun fn hfn=> ?_
 rw[hro]
 generalize hA:w.alloc (.cells #[.slice none 0 0] (ρ.t 24))=A
 have sA:A.heap.size=w.heap.size+1:=by rw[←hA];simp
 have bA:Below w.heap.size w A:=by rw[←hA];exact (Below.refl _ w).alloc (Nat.le_refl _) _
 have xA:A.heap[w.heap.size]? =some (.cells #[.slice none 0 0] (ρ.t 24) (0,0)):=by rw[←hA];exact World.alloc_heap_new w _
 generalize hrec:AnyZ.apRec ρ fn (.func (.func g) #[] lb) w.heap.size A.heap.size .ready none=rec
 generalize hB:(A.alloc (.deferred (some []))).alloc (.loop rec)=B
 have oldB: ∀k,k<A.heap.size->B.heap[k]? =A.heap[k]? :=fun k hk=>by rw[←hB];exact (Below.heap_alloc _ _ k (by simp;omega)).trans (Below.heap_alloc _ _ k hk)
 have bB:Below w.heap.size w B:=by rw[←hB];exact (bA.alloc bA.size _).alloc (by have:=bA.size;simp;omega) _
 have dB:B.heap[A.heap.size]? =some (.deferred (some [])):=by rw[←hB];exact (Below.heap_alloc _ _ _ (by simp)).trans (World.alloc_heap_new A _)
 have lB:B.heap[A.heap.size+1]? =some (.loop rec):=by rw[←hB];have:=World.alloc_heap_new (A.alloc (.deferred (some []))) (.loop rec);rwa [World.size_alloc] at this
 have start:AnyZ.ApAt ρ w fn (.func (.func g) #[] lb) w.heap.size (A.heap.size+1) A.heap.size [] B:=
  ⟨⟨_,(oldB _ (by omega)).trans xA,⟨rfl,.inl ⟨rfl,rfl⟩⟩,by simp⟩,by rw[hrec];exact lB,dB,bB⟩
 refine⟨A.heap.size+1,[{target:= .collected A.heap.size,args:= #[]}],B,{target:= .fn (.func g) lb,args:= #[.func (.yield (A.heap.size+1)) #[] #[]]},B,g,#[.func (.yield (A.heap.size+1)) #[] #[]]++lb,B,?_,?_,?_,?_,fun _=>(by omega),?_⟩
 ·rw[←hB,←hrec];exact run_enterLoop_outer _ _ _ _ _
 ·simp[resolve,go_sem]
 ·intro f' h';simp[Target.leads] at h';exact h'▸hg
 ·simp[invoke,go_sem,eg]
 refine (hseq _ (AnyZ.ApAt ρ w fn (.func (.func g) #[] lb) w.heap.size (A.heap.size+1) A.heap.size) B bB (AnyZ.ap_abides ρ _ _ _ _ _ _ _ bB.size) (fun _ _ h=>h.below)
  (fun pre x W h hl=>AnyZ.apYield {L with} F _ w fn hfn _ _ _ _ (by omega) (by omega) (by omega) (Nat.le_refl _) (by omega) ss.length hN hNb pre x W h hl) start).mono ?_
 rintro e C ⟨⟨_,rfl⟩,hC⟩
 obtain⟨v,hv,hrow,_⟩:=hC.box
 have hend:=run_endLoop (P:=P) hC.L (by simp[AnyZ.apRec])
 generalize hD:C.putObj (A.heap.size+1) (.loop {AnyZ.apRec ρ fn (.func (.func g) #[] lb) w.heap.size A.heap.size .ready none with state:= .exhausted})=D at hend
 have rowD:D.ownsRow w.heap.size (ρ.t 26) 1 v ss.length (ss.map encStr):=by rw[←hD];exact w2e hrow hC.L (fun _ h=>by cases h) _
 have boxD:D.heap[w.heap.size]? =some (.cells #[v] (ρ.t 24) (0,0)):=by rw[←hD];exact (World.putObj_heap_other (by omega)).trans hv
 have defD:D.heap[A.heap.size]? =some (.deferred (some [])):=by rw[←hD];exact (World.putObj_heap_other (by omega)).trans hC.K
 have belD:Below w.heap.size w D:=by rw[←hD];exact hC.below.grown (grownBy_putObj_a _ _ _) hC.below.size (fun k h=>by cases h;omega)
 obtain⟨cellD,markD⟩:=cell_of_box_a boxD
 clear hD
 refine⟨none,D,hend,?_⟩
 gi_wp2
 rw[←sA]
 refine⟨by simp,.inl ⟨_,_,rfl,run_takeDeferred defD,?_⟩⟩
 exact⟨_,results_tmp rfl _ _ _,v,rfl,w2e rowD defD (fun _ h=>by cases h) _,belD.grown (grownBy_putObj_a _ _ _) belD.size (fun k h=>by cases h;omega)⟩
end Go.Fl
end
noncomputable section
set_option maxRecDepth 100000
namespace Go.Proofs.YtkbjibhkaddepaaGreatDoor
open Go Go.Proofs Go.RowKit Go.Fl Go.Maps Go.Sort Go.Shelf
attribute [local go_sem] Oper.semAt_some
set_option maxHeartbeats 2000000 in
theorem w9u(n:Nat)(hn:1<=n)(w W:World)(l Bs b off cap:Nat)(zs:List (List UInt8))(hreach:zs.length<=140737488355328)(hBs:Bs<w.heap.size)(hb:b<w.heap.size)(J:List (List UInt8)->World->Prop)
  (hJ: ∀pre W1,J pre W1->Below w.heap.size w W1)(hc:w.cell? ⟨Bs,0,none⟩=some (.slice (some ⟨b,off,none⟩) zs.length cap))(hcs: ∀j,j<zs.length->w.cell? ⟨b,off+j,none⟩=some (encStr (zs[j]?.getD [])))
  (hY: ∀pre x W1,J pre W1->pre.length<zs.length->YieldAt Fence.wide (n - 1) Tryz.prog l #[encStr x] W1 fun e W'=>e= .returned (.bool true)/\J (pre++[x]) W'/\KeepsWalks W1 W')(h0:J [] W):
  CallsIn Fence.wide n Tryz.prog 269 #[.func (.yield l) #[] #[],.pointer (some ⟨Bs,0,none⟩)] W fun e W'=>(∃v,e= .returned v)/\J zs W':=by
 have hc0:=((hJ _ _ h0).cell (p:=⟨Bs,0,none⟩) hBs).trans hc
 refine callsIn_of_wp Tryz.func269 rfl trivial ?_ rfl
 simp only[Tryz.ntmps269,List.size_toArray,List.length_cons,List.length_nil,Nat.reduceAdd,Nat.reduceSub,Array.replicate_succ,Array.replicate_zero,List.push_toArray,List.append_toArray,List.nil_append,List.cons_append]
 gi_wp2
 gi_loopw [7] (fun i wr=> ∃k:Nat,k<=zs.length/\i= .int .i64 k/\J (zs.take k) wr) (fun i _=>zs.length - (intOf i).toNat)
 case atStart=>exact⟨0,Nat.zero_le _,rfl,h0⟩
 case round=>
  obtain⟨k,hk,rfl,hJk⟩:=hrel
  by_cases hlt:k<zs.length
  ·have hck:=((hJ _ _ hJk).cell (p:=⟨b,off+k,none⟩) hb).trans (hcs k hlt)
   obtain⟨fn,tmps,assign,body,hy,hR⟩:=hY _ zs[k] wr hJk (by rw[List.length_take];omega)
   gi_wp2
   refine hR.mono ?_
   rintro e W3 ⟨rfl,hJ3,_⟩
   gi_wp2
   go_roundw
   case rel=>exact⟨k+1,by omega,by simp,by rw[List.take_succ_eq_append_getElem hlt];exact hJ3⟩
   case measure=>simp[intOf];omega
  ·obtain rfl:k=zs.length:=by omega
   rw[List.take_length] at hJk
   gi_wp2
   go_end0
   exact⟨⟨_,rfl⟩,hJk⟩
set_option maxHeartbeats 2000000 in
theorem w9v(n:Nat)(w W:World)(l Bs cap:Nat)(a:Option Addr)(hBs:Bs<w.heap.size)(J:List (List UInt8)->World->Prop)(hJ: ∀pre W1,J pre W1->Below w.heap.size w W1)(hc:w.cell? ⟨Bs,0,none⟩=some (.slice a 0 cap))(h0:J [] W):
  CallsIn Fence.wide n Tryz.prog 269 #[.func (.yield l) #[] #[],.pointer (some ⟨Bs,0,none⟩)] W fun e W'=>(∃v,e= .returned v)/\J [] W':=by
 have hc0:=((hJ _ _ h0).cell (p:=⟨Bs,0,none⟩) hBs).trans hc
 refine callsIn_of_wp Tryz.func269 rfl trivial ?_ rfl
 simp only[Tryz.ntmps269,List.size_toArray,List.length_cons,List.length_nil,Nat.reduceAdd,Nat.reduceSub,Array.replicate_succ,Array.replicate_zero,List.push_toArray,List.append_toArray,List.nil_append,List.cons_append]
 gi_wp2
 gi_loopw [7] (fun i wr=>i= .int .i64 0/\J [] wr) (fun _ _=>0)
 case atStart=>exact⟨rfl,h0⟩
 case round=>
  obtain⟨rfl,hJs⟩:=hrel
  gi_wp2
  go_end0
  exact⟨⟨_,rfl⟩,hJs⟩
theorem u1v{σ:Hv}{w:World}(Bs:Nat)(v:Value)(l:List ByteArray)(hV:View σ w)(hB:σ Bs=some (.cells #[v] 70 (0,0)))(hr:RSl 1 (REnc Qf) σ v l)(hs:Sml l.length):
  Calls Tryz.prog 296 #[.slice none 0 0,.func (.func 269) #[] #[.pointer (some ⟨Bs,0,none⟩)]] w fun e w1=> ∃v1,e= .returned v1/\Grow [] σ w σ w1/\((vec v1 9 1 l.length (l.flatMap Qf)).ok w1/\ ∀k,(vec v1 9 1 l.length (l.flatMap Qf)).foot=some k->w.heap.size<=k/\σ k=none):=by
 have hBw:=hV _ _ hB
 have hBl:=lt_of_block hBw
 have hBc:w.cell? ⟨Bs,0,none⟩=some v:=by simp[World.cell?,hBw]
 have hlen:(l.map (·.data.toList)).length=l.length:=List.length_map _
 have hgive:v79 Fence.wide 2 Tryz.prog 269 #[.pointer (some ⟨Bs,0,none⟩)] (l.map (·.data.toList)) w:=by
  intro lp J W _ _ hJB hY h0
  obtain⟨a,cap,rfl,h1,h2,hel⟩:=hr
  cases hl0:l with
  |nil=>
   subst hl0
   exact w9v 2 w W lp Bs cap a hBl J hJB hBc h0
  |cons x l'=>
   obtain⟨ad,cs,rfl,_,hrow0,hcs0⟩:=hel 0 x (by rw[hl0];rfl)
   have cell0:=(hrow0.row hV) 0 _ (by rw[hcs0];rfl)
   obtain⟨ab,ao,asp⟩:=ad
   have hsp:asp=none:=by
    cases asp with
    |none=>rfl
    |some s=>
     have:=hrow0 0 (.string x) (by rw[hcs0];rfl)
     simp[Hv.cell,Addr.add] at this
     split at this<;>simp at this
   subst hsp
   have hbl:ab<w.heap.size:=by
    have:=hrow0 0 (.string x) (by rw[hcs0];rfl)
    simp only[V0] at this
    unfold Hv.cell at this
    simp only at this
    cases hq:σ ab with
    |none=>rw[hq] at this;simp at this
    |some o=>exact lt_of_block (hV _ _ hq)
   rw[←hl0]
   have hcome:=w9u 2 (by omega) w W lp Bs ab ao cap (l.map (·.data.toList)) (by rw[hlen];exact h2) hBl hbl J hJB (by rw[hlen];exact hBc) (fun j hj=>by
    rw[hlen] at hj
    obtain⟨y,hy⟩:=getq hj
    obtain⟨ad',cs',had,_,hrow,hcs⟩:=hel j y hy
    cases had
    have hc:=(hrow.row hV) 0 (.string y) (by rw[hcs];rfl)
    rw[B7,V0] at hc
    rw[List.getElem?_map,hy]
    simpa [encStr] using hc) hY h0
   exact hcome
 refine (callsIn_wide (n:=3)).1 ((j75 (ρ:=Tryz.sorted221_ren) {Tryz.sorted221 with} Fence.wide 3 trivial rfl (by omega) 269 _ trivial (enters_of Tryz.func269 (by kernel_rfl) rfl) (l.map (·.data.toList)) (by rw[hlen];exact (q5h hs (show 16<=32768 by omega)).2) (by rw[hlen];exact (q5h hs (by omega)).1) w hgive).mono ?_)
 rintro e w1 ⟨v1,rfl,hown,hbel⟩
 rw[hlen] at hown
 have hfl:(l.map (·.data.toList)).map encStr=l.flatMap Qf:=(Rw l).symm
 rw[hfl] at hown
 have hsame: ∀b,b<w.heap.size->w1.heap[b]? =w.heap[b]? :=fun b hb=>hbel.block b hb
 refine⟨v1,rfl,⟨⟨hbel.os,hbel.tape,hbel.output,hbel.size,fun k hk _=>hbel.block k hk⟩,fun b o hb=>(hbel.block b (lt_of_block (hV b o hb))).trans (hV b o hb),.refl _,fun _ _ _=>rfl⟩,?_,?_⟩
 ·exact⟨hown.1,hown.2.imp id fun ⟨g,cap,cur,e1,_,e3⟩=>⟨g,cap,cur,e1,Nat.zero_le _,e3⟩⟩
 ·intro k hk
  have hge:w.heap.size<=k:=(hown.lt k hk).1
  refine⟨hge,?_⟩
  cases hq:σ k with
  |none=>rfl
  |some o=>have:=lt_of_block (hV k o hq);omega
end Go.Proofs.YtkbjibhkaddepaaGreatDoor
end
noncomputable section
set_option maxRecDepth 100000
namespace Go.Proofs.YtkbjibhkaddepaaGreatDoor
open Go Go.Proofs Go.RowKit Go.Fl
set_option maxHeartbeats 2000000 in
theorem q4b{σ:Hv}{w:World}(s_p:(List ByteArray))(v1:Value){K:(List ByteArray)->Prop}(hV:View σ w)(hr1:RSl 1 (REnc Qf) σ v1 s_p)(hP:Ze s_p K):
    Calls Tryz.prog 143 #[v1] w (fun e w1=> ∃(r1:(List ByteArray)) (v2:Value),e= .returned v2/\St ⟨w,σ,[]⟩ w1 σ [vec v2 9 1 r1.length ((r1).flatMap Qf)]/\Sml r1.length/\K r1):=by
 unfold Ze at hP
 obtain⟨a1,cap1,rfl⟩:=hr1.shape
 refine enter Tryz.func143 rfl rfl rfl ?_
 have hS:=St.start hV
 refine Qs (Qt (v:=(.slice none 0 0)) rfl (wpList_nil (Qn (wp_seq (Qs (Q7 (v:=(.slice a1 s_p.length cap1)) rfl ?_))))))
 replace hP:=hP a1.isNone (RSl.isNil hr1)
 obtain⟨r1_,hn1⟩: ∃r:Bool,a1.isNone=r:=⟨_,rfl⟩
 rw[hn1] at hP
 refine y01 Tryz.underlying70 rfl hn1 (wpList_nil (Qn ?_))
 refine if_b rfl (fun ht1=> ?_) (fun ht1=> ?_)
 ·
  replace hP:=hP.1 ht1
  refine Qs (Qt (v:=(.slice none 0 0)) rfl (wpList_nil (Qn (wp_ret (Bp (ret1 rfl (show ev _ _ _=(.slice none 0 0) from rfl) ?_))))))
  have hS1:=hS.addNil 9 1
  exact⟨[],(.slice none 0 0),rfl,(St.back hS1 (Sub.refl _)),(by simp[Sml]),hP⟩
 ·
  replace hP:=hP.2 (by first|(rw[ht1];exact Bool.false_ne_true)|simp[ht1])
  refine wp_skip (Qn (Qs (j59 (cs:=[]) (e:=9) hS (fun _=>by kernel_rfl) ?_)))
  intro b1 w1 hS2
  refine Q7 (v:=(.slice a1 s_p.length cap1)) rfl ?_
  have hS3:=hS2.asVec (i:=0) (ms':=[vec (.slice (some ⟨b1,0,none⟩) 0 0) 9 1 0 []]) (size:=1) rfl rfl (by unfold maxLen;omega) rfl
  obtain⟨hsm1,hP⟩:=hP
  refine y8p (enc:=Qf) (l:=s_p) (Ms:=fun v3=>[vec v3 9 1 s_p.length ((s_p).flatMap Qf)]) (k':=s_p.length) (xs':=(s_p).flatMap Qf) Tryz.underlying70 Tryz.type9 rfl rfl (bytes:=16) rfl rfl (Nat.succ_pos _) hS3 rfl (q:=0) rfl rfl hr1 hS3.view q5g v6e hsm1 (by omega) (by first|rfl|exact List.length_append.symm|simp) (List.nil_append _) (fun _=>rfl) ?_
  intro v3 w2 ho1 hS4
  refine Qt (v:=v3) rfl (wpList_nil (Qn (wp_ret (ret1 rfl (show ev _ _ _=v3 from rfl) ?_))))
  exact⟨s_p,v3,rfl,(St.back hS4 (Sub.refl _)),hsm1,hP⟩
set_option maxHeartbeats 2000000 in
theorem q4c{σ:Hv}{w:World}(s_p:(List ByteArray))(v_p:ByteArray)(v1:Value){K:Int->Prop}(hV:View σ w)(hr1:RSl 1 (REnc Qf) σ v1 s_p)(hP:Zf s_p v_p K):
    Calls Tryz.prog 79 #[v1,(.string v_p)] w (fun e w1=> ∃(r1:Int),e= .returned (.int .i64 r1)/\Grow [] σ w σ w1/\K r1):=by
 unfold Zf at hP
 obtain⟨a1,cap1,rfl⟩:=hr1.shape
 refine enter Tryz.func79 rfl rfl rfl ?_
 have hS:=St.start hV
 refine Qs (Qt (v:=(.int .i64 (0:Int))) rfl (wpList_nil (Qn (wp_seq (Qs (Q7 (v:=(.slice a1 s_p.length cap1)) rfl (z2a rfl Tryz.underlying70 ?_)))))))
 have hlen1:=RSl.len63 hr1
 replace hP:=hP hlen1
 refine Q7 (v:=(.int .i64 (0:Int))) rfl (wpList_nil (Qn (wp_block ?_)))
 refine w2z (fun k_2 f z=> ∃(σ1:Hv) (g:Fr),f=(upd (upd (upd (upd g 0 (.slice a1 s_p.length cap1)) 1 (.string v_p)) 7 (.int .i64 ((s_p.length:Nat):Int))) 8 (.int .i64 ((k_2:Nat):Int)))/\St ⟨w,σ,[]⟩ z σ1 []/\Sub σ σ1) hP ⟨σ,_,(Zz rfl (Zz rfl (Zz rfl (Zz rfl rfl)))),hS,(Sub.refl _)⟩ ?_
 clear hP
 rintro k_2 Y1 hP f w1 ⟨σ1,g,rfl,hS1,hsub1⟩
 refine Qs (v54 (r:=(decide (((k_2:Nat):Int)<((s_p.length:Nat):Int)))) rfl rfl rfl (wpList_nil (Qn (wp_seq ?_))))
 refine if_d (((k_2:Nat):Int)<((s_p.length:Nat):Int)) rfl (fun ht1=> ?_) (fun ht1=> ?_)
 ·
  replace hP:=hP.1 ht1
  refine wp_skip (Qn (wp_seq (wp_block (Qs (Q7 (v:=(.int .i64 ((k_2:Nat):Int))) rfl (Qt (v:=(.int .i64 ((k_2:Nat):Int))) rfl (wpList_nil (Qn (Qs (Q7 (v:=(.string v_p)) rfl (Q7 (v:=(.slice a1 s_p.length cap1)) rfl (Q7 (v:=(.int .i64 ((k_2:Nat):Int))) rfl ?_))))))))))))
  obtain⟨x1_,hx1⟩:=getq (l:=s_p) (k:=k_2) (by have:=ht1;omega)
  replace hP:=hP x1_ hx1
  obtain⟨ad1,cs1,ha1,hl1,hr2,hR1,hlt1⟩:=RSl.at hr1 hx1
  cases hR1
  refine Ru (k:=k_2) (a':=(ad1.add (k_2*1))) (congrArg (fun z=>Value.slice z _ _) ha1) rfl rfl hlt1 Tryz.underlying70 Tryz.sizeOf9 rfl (q78 (v:=(.string x1_)) rfl Tryz.isAgg9 (hr2.cell (View.of hsub1 hS1.view) 0 rfl rfl) (y8h (r:=(decide (v_p=x1_))) rfl rfl rfl (wpList_nil (Qn ?_))))
  refine if_d (v_p=x1_) rfl (fun ht2=> ?_) (fun ht2=> ?_)
  ·
   replace hP:=hP.1 ht2
   refine Qs (Q7 (v:=(.int .i64 ((k_2:Nat):Int))) rfl (Qt (v:=(.int .i64 ((k_2:Nat):Int))) rfl (wpList_nil (Qn (wp_ret (j46 (Bp (Bp (j46 (Bp (ret1 rfl (show ev _ _ _=(.int .i64 ((k_2:Nat):Int)) from rfl) ?_)))))))))))
   exact⟨((k_2:Nat):Int),rfl,hS1.done.forget,hP⟩
  ·
   replace hP:=hP.2 ht2
   refine wp_skip (v3k (Qn (j2o (v3j (r:=((k_2+1:Nat):Int)) rfl rfl (nw (by omega) (by omega) (by have:=hlen1;omega)) (Q7 (v:=(.int .i64 ((k_2+1:Nat):Int))) rfl (wpList_nil (Qn ?_)))))))
   exact⟨k_2+1,_,rfl,hP,σ1,_,(Zz rfl (Zz rfl (Zz rfl (Zz rfl rfl)))),hS1,hsub1⟩
 ·
  replace hP:=hP.2 ht1
  refine wp_exit (z8b (z8b (j62 (Qn (Qs (Qt (v:=(.int .i64 (-1:Int))) rfl (wpList_nil (Qn (wp_ret (ret1 rfl (show ev _ _ _=(.int .i64 (-1:Int)) from rfl) ?_))))))))))
  exact⟨(-1:Int),rfl,hS1.done.forget,hP⟩
set_option maxHeartbeats 2000000 in
theorem Vs{σ:Hv}{w:World}(s_p:(List ByteArray))(v_p:ByteArray)(v1:Value){K:Bool->Prop}(hV:View σ w)(hr1:RSl 1 (REnc Qf) σ v1 s_p)(hP:Qy s_p v_p K):
    Calls Tryz.prog 45 #[v1,(.string v_p)] w (fun e w1=> ∃(r1:Bool),e= .returned (.bool (r1))/\Grow [] σ w σ w1/\K r1):=by
 unfold Qy at hP
 obtain⟨a1,cap1,rfl⟩:=hr1.shape
 refine enter Tryz.func45 rfl rfl rfl ?_
 have hS:=St.start hV
 refine Qs (Qt (v:=(.bool false)) rfl (wpList_nil (Qn (Qs (Q7 (v:=(.slice a1 s_p.length cap1)) rfl (Q7 (v:=(.string v_p)) rfl ?_))))))
 obtain⟨Y1,hK1,hc1⟩:=hP
 refine q9q (args:=[(.slice a1 s_p.length cap1),(.string v_p)]) rfl Tryz.call79 (Calls.mono (q4c s_p v_p (.slice a1 s_p.length cap1) hS.view hr1 hc1) ?_)
 rintro _ w1 ⟨r1_,rfl,hg1,hY1⟩
 refine⟨_,rfl,?_⟩
 have hS1:=hS.grow hg1
 replace hP:=hK1 r1_ hY1
 refine y8g (r:=(decide ((0:Int)<=r1_))) rfl rfl rfl (Qt (v:=(.bool (decide ((0:Int)<=r1_)))) rfl (wpList_nil (Qn (wp_ret (ret1 rfl (show ev _ _ _=(.bool (decide ((0:Int)<=r1_))) from rfl) ?_)))))
 exact⟨(decide ((0:Int)<=r1_)),rfl,hS1.done.forget,hP⟩
set_option maxHeartbeats 2000000 in
theorem w_graph_Order{σ:Hv}{w:World}(nodes_p:(List ByteArray))(edges_p:(List (ByteArray×ByteArray)))(v1:Value)(v2:Value){K:(List ByteArray)->Int->Prop}(hV:View σ w)(hr1:RSl 1 (REnc Qf) σ v1 nodes_p)(hr2:RSl 2 (REnc y8q) σ v2 edges_p)(hP:P_graph_Order nodes_p edges_p K):
    Calls Tryz.prog 178 #[v1,v2] w (fun e w1=> ∃(r1:(List ByteArray)) (r2:Int) (v3:Value),e= .returned (.tuple #[v3,(.int .i64 r2)])/\St ⟨w,σ,[]⟩ w1 σ [vec v3 9 1 r1.length ((r1).flatMap Qf)]/\Sml r1.length/\K r1 r2):=by
 unfold P_graph_Order at hP
 obtain⟨a1,cap1,rfl⟩:=hr1.shape
 obtain⟨a2,cap2,rfl⟩:=hr2.shape
 refine enter Tryz.func178 rfl rfl rfl ?_
 have hS:=St.start hV
 refine Qs (Qt (v:=(.slice none 0 0)) rfl (Qt (v:=(.int .i64 (0:Int))) rfl (wpList_nil (Qn (Qs (Q7 (v:=(.slice a1 nodes_p.length cap1)) rfl (q9q (args:=[(.slice a1 nodes_p.length cap1)]) rfl Tryz.call222 ?_)))))))
 refine enter Tryz.func222 rfl rfl rfl ?_
 refine Qs (u02 (cs:=[(.slice a1 nodes_p.length cap1)]) hS rfl rfl ?_)
 intro b1 w1 hS1
 refine Qt (v:= .nilFunc) rfl (wpList_nil (Qn (Qs (j2p (la:=[]) (lb:=[(.pointer (some ⟨b1,0,none⟩))]) rfl rfl (Qt (v:=(.func (.func 269) #[] #[(.pointer (some ⟨b1,0,none⟩))])) rfl (wpList_nil (Qn (wp_ret (ret1 rfl (show ev _ _ _=(.func (.func 269) #[] #[(.pointer (some ⟨b1,0,none⟩))]) from rfl) ?_)))))))))
 refine⟨_,rfl,?_⟩
 refine q9q (args:=[(.func (.func 269) #[] #[(.pointer (some ⟨b1,0,none⟩))])]) rfl Tryz.call221 ?_
 refine enter Tryz.func221 rfl rfl rfl ?_
 refine Qs (Qt (v:=(.slice none 0 0)) rfl (wpList_nil (Qn (Qs (Q7 (v:=(.func (.func 269) #[] #[(.pointer (some ⟨b1,0,none⟩))])) rfl (q9q (args:=[(.func (.func 269) #[] #[(.pointer (some ⟨b1,0,none⟩))])]) rfl Tryz.call268 ?_))))))
 refine enter Tryz.func268 rfl rfl rfl ?_
 refine Qs (Qt (v:=(.slice none 0 0)) rfl (wpList_nil (Qn (Qs (Q7 (v:=(.func (.func 269) #[] #[(.pointer (some ⟨b1,0,none⟩))])) rfl ?_)))))
 obtain⟨σ1,hS2,hsub1,hfr1⟩:=hS1.freeze' (i:=0) rfl rfl
 have hB1:σ1 b1=some (.cells #[(.slice a1 nodes_p.length cap1)] 70 (0,0)):=(hfr1 _ rfl).trans (hS1.get (i:=0) rfl)
 obtain⟨hsm1,hP⟩:=hP
 refine q9q (args:=[(.slice none 0 0),(.func (.func 269) #[] #[(.pointer (some ⟨b1,0,none⟩))])]) rfl Tryz.call296 (Calls.mono (u1v b1 (.slice a1 nodes_p.length cap1) nodes_p hS2.view hB1 (RSl.menc hsub1 hr1) hsm1) ?_)
 rintro _ w2 ⟨v4,rfl,hg1,ho1⟩
 refine⟨_,rfl,?_⟩
 have hS3:=hS2.growAdd hg1 (o:=vec v4 9 1 nodes_p.length ((nodes_p).flatMap Qf)) ho1
 refine Qt (v:=v4) rfl (wpList_nil (Qn (wp_ret (ret1 rfl (show ev _ _ _=v4 from rfl) ?_))))
 refine⟨_,rfl,?_⟩
 refine Qt (v:=v4) rfl (wpList_nil (Qn (Qs (Q7 (v:=v4) rfl ?_))))
 refine q9q (args:=[v4]) rfl Tryz.call137 (Calls.mono (v1q Tryz.slices_Sort_string Tryz.slices_Sort_string_none hS3.view (hS3.get (i:=0) rfl) rfl (fun b hb=>hS3.off _ (List.mem_of_getElem? (i:=0) rfl) b hb) (by have:=hsm1;unfold Sml at this;omega)) ?_)
 rintro _ w3 ⟨rfl,hg2,ho2⟩
 refine⟨_,rfl,?_⟩
 have hS4:=hS3.growV (i:=0) (o':=vec v4 9 1 nodes_p.length ((srt nodes_p).flatMap Qf)) rfl hg2 rfl ho2 (ms':=[vec v4 9 1 nodes_p.length ((srt nodes_p).flatMap Qf)]) rfl
 have hS5:=hS4.re (ms':=[vec v4 9 1 ((srt nodes_p).length) ((srt nodes_p).flatMap Qf)]) (by simp only[J7])
 refine wpList_nil (Qn (Qs (Q7 (v:=v4) rfl (Qt (v:=v4) rfl (wpList_nil (Qn (wp_ret (ret1 rfl (show ev _ _ _=v4 from rfl) ?_))))))))
 refine⟨_,rfl,?_⟩
 refine Qt (v:=v4) rfl (wpList_nil (Qn (wp_seq (Qs (Q7 (v:=v4) rfl ?_)))))
 obtain⟨σ2,hS6,hsub2,hr4⟩:=hS5.peek (i:=0) rfl q5g (show Sml (srt nodes_p).length by rw[J7];exact hsm1)
 obtain⟨Y1,hK1,hc1⟩:=hP
 refine q9q (args:=[v4]) rfl Tryz.call143 (Calls.mono (q4b (srt nodes_p) v4 hS6.view hr4 hc1) ?_)
 rintro _ w4 ⟨r1_,v5,rfl,hg3,hl1,hY1⟩
 refine⟨_,rfl,?_⟩
 have hS7:=St.callM (ins:=[]) (rest:=[vec v4 9 1 ((srt nodes_p).length) ((srt nodes_p).flatMap Qf)]) (ms':=[vec v5 9 1 r1_.length ((r1_).flatMap Qf),vec v4 9 1 ((srt nodes_p).length) ((srt nodes_p).flatMap Qf)]) hS5 (St.back hg3 hsub2) rfl
 replace hP:=hK1 r1_ hY1
 obtain⟨hsm2,hP⟩:=hP
 refine q9q (args:=[v5]) rfl Tryz.call220 (Calls.mono (j69 Tryz.slices_Compact_string Tryz.slices_Compact_string_empty hS7.view (hS7.get (i:=0) rfl) rfl (fun b hb=>hS7.off _ (List.mem_of_getElem? (i:=0) rfl) b hb) (by have:=hl1;unfold Sml at this;omega)) ?_)
 rintro _ w5 ⟨v6,rfl,hf1,hg4,ho3⟩
 refine⟨_,rfl,?_⟩
 have ho4:=q0r ho3
 have hS8:=hS7.growV (i:=0) (o':=vec v6 9 1 ((cpt r1_).length) ((cpt r1_).flatMap Qf)) rfl hg4 hf1 ho3 (ms':=[vec v6 9 1 ((cpt r1_).length) ((cpt r1_).flatMap Qf),vec v4 9 1 ((srt nodes_p).length) ((srt nodes_p).flatMap Qf)]) rfl
 refine j0d hS8 rfl (i:=0) rfl Tryz.underlying70 ?_
 have hlen1:(cpt r1_).length<=9223372036854775807:=by have:=hsm2;unfold Sml at this;omega
 replace hP:=hP hlen1
 refine Q7 (v:=v4) rfl (j0d hS8 rfl (i:=1) rfl Tryz.underlying70 ?_)
 have hlen2:(srt nodes_p).length<=9223372036854775807:=by have:=(show Sml (srt nodes_p).length by rw[J7];exact hsm1);unfold Sml at this;omega
 replace hP:=hP hlen2
 refine u00 (r:=(!decide ((((cpt r1_).length:Nat):Int)=(((srt nodes_p).length:Nat):Int)))) rfl rfl rfl (wpList_nil (Qn ?_))
 refine y8i ((((cpt r1_).length:Nat):Int)=(((srt nodes_p).length:Nat):Int)) rfl (fun ht1=> ?_) (fun ht1=> ?_)
 ·
  replace hP:=hP.2 ht1
  refine Qs (Qt (v:=(.slice none 0 0)) rfl (Qt (v:=(.int .i64 (10:Int))) rfl (wpList_nil (Qn (wp_ret (Bp (ret2 rfl (show ev _ _ _=(.slice none 0 0) from rfl) (show ev _ _ _=(.int .i64 (10:Int)) from rfl) ?_)))))))
  have hS9:=hS8.addNil 9 1
  exact⟨[],(10:Int),(.slice none 0 0),rfl,(St.back (hS9.keep 1 (ms':=[vec (.slice none 0 0) 9 1 0 []]) rfl) (Sub.refl _)),(by simp[Sml]),hP⟩
 ·
  replace hP:=hP.1 ht1
  refine wp_skip (Qn (Qs (v3o 9 1 Qf hS8 ?_)))
  intro b2 w6 hS10
  refine w82 (cs:=[(.map none)]) hS10 Tryz.zeroValue313 rfl ?_
  intro b3 w7 hS11
  refine w81 (T:=313) (vs:=[(.map (some b2))]) (cs':=[(.map (some b2))]) (ms':=(blk b3 313 [(.map (some b2))]::smap b2 (asl [])::vec v6 9 1 ((cpt r1_).length) ((cpt r1_).flatMap Qf)::vec v4 9 1 ((srt nodes_p).length) ((srt nodes_p).flatMap Qf)::Hz 9 1 Qf [])) (i:=0) hS11 rfl rfl rfl Tryz.sizeOf313 rfl (ones rfl) rfl (Nat.le_of_ble_eq_true rfl) rfl rfl ?_
  intro w8 hS12
  refine wpList_nil (Qn (wp_seq (Qs (Q7 (v:=(.slice a2 edges_p.length cap2)) rfl (z2a rfl Tryz.underlying177 ?_)))))
  have hlen3:=RSl.len63 hr2
  replace hP:=hP hlen3
  refine Q7 (v:=(.int .i64 (0:Int))) rfl (wpList_nil (Qn (wp_block ?_)))
  have hS13:=hS12.front 3 rfl (ms':=(vec v4 9 1 ((srt nodes_p).length) ((srt nodes_p).flatMap Qf)::blk b3 313 [(.map (some b2))]::smap b2 (asl [])::vec v6 9 1 ((cpt r1_).length) ((cpt r1_).flatMap Qf)::Hz 9 1 Qf [])) rfl
  have hS14:=hS13.front 3 rfl (ms':=(vec v6 9 1 ((cpt r1_).length) ((cpt r1_).flatMap Qf)::vec v4 9 1 ((srt nodes_p).length) ((srt nodes_p).flatMap Qf)::blk b3 313 [(.map (some b2))]::smap b2 (asl [])::Hz 9 1 Qf [])) rfl
  have hS15:=hS14.front 2 rfl (ms':=(blk b3 313 [(.map (some b2))]::vec v6 9 1 ((cpt r1_).length) ((cpt r1_).flatMap Qf)::vec v4 9 1 ((srt nodes_p).length) ((srt nodes_p).flatMap Qf)::smap b2 (asl [])::Hz 9 1 Qf [])) rfl
  have hS16:=hS15.front 3 rfl (ms':=(smap b2 (asl [])::blk b3 313 [(.map (some b2))]::vec v6 9 1 ((cpt r1_).length) ((cpt r1_).flatMap Qf)::vec v4 9 1 ((srt nodes_p).length) ((srt nodes_p).flatMap Qf)::Hz 9 1 Qf [])) rfl
  refine y0y (fun k_3 F_2 f z=> ∃(es2:EL ByteArray) (σ3:Hv) (g:Fr),f=(upd (upd (upd (upd (upd g 6 v4) 7 (.pointer (some ⟨b3,0,none⟩))) 24 (.slice a2 edges_p.length cap2)) 25 (.int .i64 ((edges_p.length:Nat):Int))) 26 (.int .i64 ((k_3:Nat):Int)))/\St ⟨w,σ,[]⟩ z σ3 (smap b2 (asl es2)::blk b3 313 [(.map (some b2))]::vec v6 9 1 ((cpt r1_).length) ((cpt r1_).flatMap Qf)::vec v4 9 1 ((srt nodes_p).length) ((srt nodes_p).flatMap Qf)::Hz 9 1 Qf es2)/\Sub σ1 σ3/\ELF es2 F_2) hP ⟨[],σ1,_,(Zz rfl (Zz rfl (Zz rfl (Zz rfl (Zz rfl rfl))))),hS16,(Sub.refl _),ELF.nil⟩ ?_
  clear hP
  rintro k_3 F_2 Y2 hP f w9 ⟨es2,σ3,g,rfl,hS17,hsub3,hF2⟩
  refine Qs (v54 (r:=(decide (((k_3:Nat):Int)<((edges_p.length:Nat):Int)))) rfl rfl rfl (wpList_nil (Qn (wp_seq ?_))))
  refine if_d (((k_3:Nat):Int)<((edges_p.length:Nat):Int)) rfl (fun ht2=> ?_) (fun ht2=> ?_)
  ·
   replace hP:=hP.1 ht2
   refine wp_skip (Qn (wp_seq (wp_block (Qs ?_))))
   obtain⟨x1_,hx1⟩:=getq (l:=edges_p) (k:=k_3) (by have:=ht2;omega)
   replace hP:=hP x1_ hx1
   obtain⟨ad1,cs1,ha1,hl2,hr6,hR1,hlt1⟩:=RSl.at hr2 hx1
   cases hR1
   refine Ru (k:=k_3) (a':=(ad1.add (k_3*2))) (congrArg (fun z=>Value.slice z _ _) ha1) rfl rfl hlt1 Tryz.underlying177 Tryz.sizeOf238 rfl (y4w (cs:=[(.string x1_.1),(.string x1_.2)]) rfl Tryz.isAgg238 Tryz.sizeOf238 rfl (hr6.row (View.of (Sub.trans hsub1 hsub3) hS17.view)) (w82 (cs:=[(.string (⟨#[]⟩:ByteArray)),(.string (⟨#[]⟩:ByteArray))]) hS17 Tryz.zeroValue238 rfl ?_))
   intro b4 w10 hS18
   refine w81 (T:=238) (vs:=[(.string x1_.1),(.string x1_.2)]) (cs':=[(.string x1_.1),(.string x1_.2)]) (ms':=(blk b4 238 [(.string x1_.1),(.string x1_.2)]::smap b2 (asl es2)::blk b3 313 [(.map (some b2))]::vec v6 9 1 ((cpt r1_).length) ((cpt r1_).flatMap Qf)::vec v4 9 1 ((srt nodes_p).length) ((srt nodes_p).flatMap Qf)::Hz 9 1 Qf es2)) (i:=0) hS18 rfl rfl rfl Tryz.sizeOf238 rfl (ones rfl) rfl (Nat.le_of_ble_eq_true rfl) rfl rfl ?_
   intro w11 hS19
   refine wpList_nil (Qn (wp_seq (Qs (Q7 (v:=v4) rfl (j60 (a':=⟨b4,0,none⟩) rfl Tryz.underlying238 rfl Tryz.sizeOf9 rfl (q78 (v:=(.string x1_.1)) rfl Tryz.isAgg9 (hS19.cell (i:=0) rfl rfl) ?_))))))
   obtain⟨σ4,hS20,hsub4,hr7⟩:=hS19.peek (i:=4) rfl q5g (show Sml (srt nodes_p).length by rw[J7];exact hsm1)
   obtain⟨Y3,hK2,hc2⟩:=hP
   refine q9q (args:=[v4,(.string x1_.1)]) rfl Tryz.call45 (Calls.mono (Vs (srt nodes_p) x1_.1 v4 hS20.view hr7 hc2) ?_)
   rintro _ w12 ⟨r2_,rfl,hg5,hY2⟩
   refine⟨_,rfl,?_⟩
   have hg5b:=hg5.back hsub4
   have hS21:=hS19.grow hg5b
   replace hP:=hK2 r2_ hY2
   refine y0s (r:=(!r2_)) rfl rfl ?_
   rcases Bool.eq_false_or_eq_true (r2_) with hb1|hb1
   ·
    replace hP:=hP.1 hb1
    refine Q7 (v:=(.bool false)) (congrArg Value.bool (congrArg Bool.not hb1)) (o_on rfl rfl (Q7 (v:=v4) rfl (o_on rfl rfl (j60 (a':=⟨b4,1,none⟩) rfl Tryz.underlying238 rfl Tryz.sizeOf9 rfl (o_on rfl rfl (q78 (v:=(.string x1_.2)) rfl Tryz.isAgg9 (hS21.cell (i:=0) rfl rfl) (o_on rfl rfl ?_)))))))
    obtain⟨σ5,hS22,hsub5,hr8⟩:=hS21.peek (i:=4) rfl q5g (show Sml (srt nodes_p).length by rw[J7];exact hsm1)
    obtain⟨Y4,hK3,hc3⟩:=hP
    refine q9q (args:=[v4,(.string x1_.2)]) rfl Tryz.call45 (Calls.mono (Vs (srt nodes_p) x1_.2 v4 hS22.view hr8 hc3) ?_)
    rintro _ w13 ⟨r3_,rfl,hg6,hY3⟩
    refine⟨_,rfl,?_⟩
    have hg6b:=hg6.back hsub5
    have hS23:=hS21.grow hg6b
    replace hP:=hK3 r3_ hY3
    refine o_on rfl rfl (y0s (r:=(!r3_)) rfl rfl (y0q (v:=(.bool (!r3_))) rfl rfl (wpList_nil (Qn ?_))))
    refine y8j rfl (fun ht3=> ?_) (fun ht3=> ?_)
    ·
     replace hP:=hP.2 (by first|(rw[ht3];exact Bool.false_ne_true)|simp[ht3])
     refine Qs (Qt (v:=(.slice none 0 0)) rfl (Qt (v:=(.int .i64 (11:Int))) rfl (wpList_nil (Qn (wp_ret (Bp (j46 (Bp (Bp (j46 (Bp (ret2 rfl (show ev _ _ _=(.slice none 0 0) from rfl) (show ev _ _ _=(.int .i64 (11:Int)) from rfl) ?_))))))))))))
     have hS24:=hS23.addNil 9 1
     exact⟨[],(11:Int),(.slice none 0 0),rfl,(St.back (hS24.keep 1 (ms':=[vec (.slice none 0 0) 9 1 0 []]) rfl) (Sub.refl _)),(by simp[Sml]),hP⟩
    ·
     replace hP:=hP.1 ht3
     refine wp_skip (Qn (dr (fun z=>St ⟨w,σ,[]⟩ z σ3 [blk b4 238 [(.string x1_.1),(.string x1_.2)],blk b3 313 [(.map (some b2))],vec v6 9 1 ((cpt r1_).length) ((cpt r1_).flatMap Qf),vec v4 9 1 ((srt nodes_p).length) ((srt nodes_p).flatMap Qf)]) (by kernel_rfl) rfl ?_))
     have hS25:=hS23.drew
     refine dt 0 1 (v:=(.map (some b2))) (by kernel_rfl) rfl rfl (fun _ _ _ h=>h) (hS25.sublist (.cons_cons _ (.cons _ (.cons_cons _ (.cons_cons _ (.cons_cons _ (List.nil_sublist _))))))) (fun _ hJ _ hK=>q78 (v:=(.map (some b2))) rfl Tryz.isAgg313 (hJ.cell (i:=1) rfl rfl) ⟨rfl,hK⟩) (dt 1 3 (v:=(.pointer (some ⟨b4,0,none⟩))) (by kernel_rfl) rfl rfl (fun _ _ _ h=>h) (hS25.sublist (.cons_cons _ (.cons _ (.cons_cons _ (.cons_cons _ (.cons_cons _ (List.nil_sublist _))))))) (fun _ _ _ hK=>j60 (a':=⟨b4,0,none⟩) rfl Tryz.underlying238 rfl Tryz.sizeOf9 rfl ⟨rfl,hK⟩) (dt 2 7 (v:=(.string x1_.1)) (by kernel_rfl) rfl rfl (fun _ _ _ h=>h) (hS25.sublist (.cons_cons _ (.cons _ (.cons_cons _ (.cons_cons _ (.cons_cons _ (List.nil_sublist _))))))) (fun _ hJ _ hK=>q78 (v:=(.string x1_.1)) rfl Tryz.isAgg9 (hJ.cell (i:=0) rfl rfl) ⟨rfl,hK⟩) (dt 3 15 (v:=(.map (some b2))) (by kernel_rfl) rfl rfl (fun _ _ _ h=>h) (hS25.sublist (.cons_cons _ (.cons _ (.cons_cons _ (.cons_cons _ (.cons_cons _ (List.nil_sublist _))))))) (fun _ hJ _ hK=>q78 (v:=(.map (some b2))) rfl Tryz.isAgg313 (hJ.cell (i:=1) rfl rfl) ⟨rfl,hK⟩) (dt 4 31 (v:=(.pointer (some ⟨b4,0,none⟩))) (by kernel_rfl) rfl rfl (fun _ _ _ h=>h) (hS25.sublist (.cons_cons _ (.cons _ (.cons_cons _ (.cons_cons _ (.cons_cons _ (List.nil_sublist _))))))) (fun _ _ _ hK=>j60 (a':=⟨b4,0,none⟩) rfl Tryz.underlying238 rfl Tryz.sizeOf9 rfl ⟨rfl,hK⟩) (dt 5 63 (v:=(.string x1_.1)) (by kernel_rfl) rfl rfl (fun _ _ _ h=>h) (hS25.sublist (.cons_cons _ (.cons _ (.cons_cons _ (.cons_cons _ (.cons_cons _ (List.nil_sublist _))))))) (fun _ hJ _ hK=>q78 (v:=(.string x1_.1)) rfl Tryz.isAgg9 (hJ.cell (i:=0) rfl rfl) ⟨rfl,hK⟩) (dt 7 191 (v:=(.pointer (some ⟨b4,1,none⟩))) (by kernel_rfl) rfl rfl (fun _ _ _ h=>h) (hS25.sublist (.cons_cons _ (.cons _ (.cons_cons _ (.cons_cons _ (.cons_cons _ (List.nil_sublist _))))))) (fun _ _ _ hK=>j60 (a':=⟨b4,1,none⟩) rfl Tryz.underlying238 rfl Tryz.sizeOf9 rfl ⟨rfl,hK⟩) (dt 8 447 (v:=(.string x1_.2)) (by kernel_rfl) rfl rfl (fun _ _ _ h=>h) (hS25.sublist (.cons_cons _ (.cons _ (.cons_cons _ (.cons_cons _ (.cons_cons _ (List.nil_sublist _))))))) (fun _ hJ _ hK=>q78 (v:=(.string x1_.2)) rfl Tryz.isAgg9 (hJ.cell (i:=0) rfl rfl) ⟨rfl,hK⟩) ?_)))))))
     refine d2 6 9 511 959 (by kernel_rfl) rfl rfl rfl rfl ?_ ?_
     ·
      obtain⟨v7,hv1⟩: ∃v,(asl es2 x1_.1).getD (.slice none 0 0)=v:=⟨_,rfl⟩
      refine v6d (i:=1) (v:=v7) hS25 rfl rfl rfl Tryz.underlying313 Tryz.underlying9 Tryz.zeroValue70 hv1 (wpList_nil ?_)
      refine⟨rfl,(hS25.sublist (.cons_cons _ (.cons _ (.cons_cons _ (.cons_cons _ (.cons_cons _ (List.nil_sublist _))))))),?_⟩
      refine d1 9 1023 (by kernel_rfl) rfl (j59 (cs:=[(.string x1_.2)]) (e:=9) hS25 (fun _=>by kernel_rfl) ?_)
      intro b5 w14 hS26
      refine wpList_nil ?_
      refine⟨rfl,(hS26.sublist (.cons _ (.cons_cons _ (.cons _ (.cons_cons _ (.cons_cons _ (.cons_cons _ (List.nil_sublist _)))))))),?_⟩
      refine d1 10 2047 (by kernel_rfl) rfl ?_
      obtain⟨es3,hS27,hL1,hl3⟩:=St.borrow (ms:=[blk b5 9 [(.string x1_.2)],blk b4 238 [(.string x1_.1),(.string x1_.2)],smap b2 (asl es2),blk b3 313 [(.map (some b2))],vec v6 9 1 ((cpt r1_).length) ((cpt r1_).flatMap Qf),vec v4 9 1 ((srt nodes_p).length) ((srt nodes_p).flatMap Qf)]) hS26 hF2 x1_.1 hv1
      obtain⟨hsm3,hP⟩:=hP
      refine y43 (Ms:=fun v8=>(vec v8 9 1 ((((F_2 x1_.1).getD [])++[x1_.2]).length) ((((F_2 x1_.1).getD [])++[x1_.2]).flatMap Qf)::blk b5 9 [(.string x1_.2)]::blk b4 238 [(.string x1_.1),(.string x1_.2)]::smap b2 (asl es2)::blk b3 313 [(.map (some b2))]::vec v6 9 1 ((cpt r1_).length) ((cpt r1_).flatMap Qf)::vec v4 9 1 ((srt nodes_p).length) ((srt nodes_p).flatMap Qf)::Hz 9 1 Qf es3)) (k':=(((F_2 x1_.1).getD [])++[x1_.2]).length) (xs':=(((F_2 x1_.1).getD [])++[x1_.2]).flatMap Qf) Tryz.underlying70 Tryz.type9 rfl rfl (bytes:=16) rfl rfl (Nat.succ_pos _) hS27 rfl (q:=0) rfl rfl rfl (z0n (hS27.get (i:=1) rfl)) (ones rfl) hsm3 (by omega) (by first|rfl|exact List.length_append.symm|simp) (by simp[Qf]) (fun _=>rfl) ?_
      intro v8 w15 ho5 hS28
      have hS29:=hS28.drop 1 (ms':=(vec v8 9 1 ((((F_2 x1_.1).getD [])++[x1_.2]).length) ((((F_2 x1_.1).getD [])++[x1_.2]).flatMap Qf)::blk b4 238 [(.string x1_.1),(.string x1_.2)]::smap b2 (asl es2)::blk b3 313 [(.map (some b2))]::vec v6 9 1 ((cpt r1_).length) ((cpt r1_).flatMap Qf)::vec v4 9 1 ((srt nodes_p).length) ((srt nodes_p).flatMap Qf)::Hz 9 1 Qf es3)) rfl
      refine wpList_nil ?_
      refine⟨rfl,(hS29.sublist (.cons _ (.cons_cons _ (.cons _ (.cons_cons _ (.cons_cons _ (.cons_cons _ (List.nil_sublist _)))))))),?_⟩
      refine d1 11 4095 (by kernel_rfl) rfl (y40 (v:=v8) (i:=2) (ms':=(vec v8 9 1 ((((F_2 x1_.1).getD [])++[x1_.2]).length) ((((F_2 x1_.1).getD [])++[x1_.2]).flatMap Qf)::blk b4 238 [(.string x1_.1),(.string x1_.2)]::smap b2 (fun k'=>if k'=x1_.1 then some v8 else asl es2 k')::blk b3 313 [(.map (some b2))]::vec v6 9 1 ((cpt r1_).length) ((cpt r1_).flatMap Qf)::vec v4 9 1 ((srt nodes_p).length) ((srt nodes_p).flatMap Qf)::Hz 9 1 Qf es3)) hS29 rfl rfl rfl rfl Tryz.underlying313 Tryz.underlying9 rfl ?_)
      intro w16 hS30
      have hS32:=St.giveback (ms:=[blk b4 238 [(.string x1_.1),(.string x1_.2)],smap b2 (fun k'=>if k'=x1_.1 then some v8 else asl es2 k'),blk b3 313 [(.map (some b2))],vec v6 9 1 ((cpt r1_).length) ((cpt r1_).flatMap Qf),vec v4 9 1 ((srt nodes_p).length) ((srt nodes_p).flatMap Qf)]) (ms':=[blk b4 238 [(.string x1_.1),(.string x1_.2)],smap b2 (asl ((x1_.1,v8,((F_2 x1_.1).getD [])++[x1_.2])::es3)),blk b3 313 [(.map (some b2))],vec v6 9 1 ((cpt r1_).length) ((cpt r1_).flatMap Qf),vec v4 9 1 ((srt nodes_p).length) ((srt nodes_p).flatMap Qf)]) (i:=1) hS30 hL1 rfl rfl
      have hF3:=ELF.put (v:=v8) hF2 hL1 hsm3
      refine wpList_nil ?_
      refine⟨rfl,(hS32.sublist (.cons_cons _ (.cons _ (.cons_cons _ (.cons_cons _ (.cons_cons _ (List.nil_sublist _))))))),j6a (J':=fun z=>St ⟨w,σ,[]⟩ z σ3 (blk b4 238 [(.string x1_.1),(.string x1_.2)]::smap b2 (asl ((x1_.1,v8,((F_2 x1_.1).getD [])++[x1_.2])::es3))::blk b3 313 [(.map (some b2))]::vec v6 9 1 ((cpt r1_).length) ((cpt r1_).flatMap Qf)::vec v4 9 1 ((srt nodes_p).length) ((srt nodes_p).flatMap Qf)::Hz 9 1 Qf ((x1_.1,v8,((F_2 x1_.1).getD [])++[x1_.2])::es3))) (fun w h=>h.sublist (.cons_cons _ (.cons _ (.cons_cons _ (.cons_cons _ (.cons_cons _ (List.nil_sublist _))))))) _ _ _ _ ?_⟩
      refine dz (by kernel_rfl) (v3k (Qn (j2o (v3j (r:=((k_3+1:Nat):Int)) rfl rfl (nw (by omega) (by omega) (by have:=hlen3;omega)) (Q7 (v:=(.int .i64 ((k_3+1:Nat):Int))) rfl (wpList_nil (Qn ?_)))))))
      exact⟨k_3+1,(put F_2 x1_.1 (((F_2 x1_.1).getD [])++[x1_.2])),_,rfl,hP,((x1_.1,v8,((F_2 x1_.1).getD [])++[x1_.2])::es3),σ3,_,(Zz rfl (Zz rfl (Zz rfl (Zz rfl (Zz rfl rfl))))),(hS32.sublist (ms':=(smap b2 (asl ((x1_.1,v8,((F_2 x1_.1).getD [])++[x1_.2])::es3))::blk b3 313 [(.map (some b2))]::vec v6 9 1 ((cpt r1_).length) ((cpt r1_).flatMap Qf)::vec v4 9 1 ((srt nodes_p).length) ((srt nodes_p).flatMap Qf)::Hz 9 1 Qf ((x1_.1,v8,((F_2 x1_.1).getD [])++[x1_.2])::es3))) (.cons _ (List.Sublist.refl _))),hsub3,hF3⟩
     ·
      refine j59 (cs:=[(.string x1_.2)]) (e:=9) hS25 (fun _=>by kernel_rfl) ?_
      intro b5 w14 hS26
      refine wpList_nil ?_
      refine⟨rfl,(hS26.sublist (.cons _ (.cons_cons _ (.cons _ (.cons_cons _ (.cons_cons _ (.cons_cons _ (List.nil_sublist _)))))))),?_⟩
      refine d1 6 1023 (by kernel_rfl) rfl ?_
      obtain⟨v7,hv1⟩: ∃v,(asl es2 x1_.1).getD (.slice none 0 0)=v:=⟨_,rfl⟩
      refine v6d (i:=2) (v:=v7) hS26 rfl rfl rfl Tryz.underlying313 Tryz.underlying9 Tryz.zeroValue70 hv1 (wpList_nil ?_)
      refine⟨rfl,(hS26.sublist (.cons _ (.cons_cons _ (.cons _ (.cons_cons _ (.cons_cons _ (.cons_cons _ (List.nil_sublist _)))))))),?_⟩
      refine d1 10 2047 (by kernel_rfl) rfl ?_
      obtain⟨es3,hS27,hL1,hl3⟩:=St.borrow (ms:=[blk b5 9 [(.string x1_.2)],blk b4 238 [(.string x1_.1),(.string x1_.2)],smap b2 (asl es2),blk b3 313 [(.map (some b2))],vec v6 9 1 ((cpt r1_).length) ((cpt r1_).flatMap Qf),vec v4 9 1 ((srt nodes_p).length) ((srt nodes_p).flatMap Qf)]) hS26 hF2 x1_.1 hv1
      obtain⟨hsm3,hP⟩:=hP
      refine y43 (Ms:=fun v8=>(vec v8 9 1 ((((F_2 x1_.1).getD [])++[x1_.2]).length) ((((F_2 x1_.1).getD [])++[x1_.2]).flatMap Qf)::blk b5 9 [(.string x1_.2)]::blk b4 238 [(.string x1_.1),(.string x1_.2)]::smap b2 (asl es2)::blk b3 313 [(.map (some b2))]::vec v6 9 1 ((cpt r1_).length) ((cpt r1_).flatMap Qf)::vec v4 9 1 ((srt nodes_p).length) ((srt nodes_p).flatMap Qf)::Hz 9 1 Qf es3)) (k':=(((F_2 x1_.1).getD [])++[x1_.2]).length) (xs':=(((F_2 x1_.1).getD [])++[x1_.2]).flatMap Qf) Tryz.underlying70 Tryz.type9 rfl rfl (bytes:=16) rfl rfl (Nat.succ_pos _) hS27 rfl (q:=0) rfl rfl rfl (z0n (hS27.get (i:=1) rfl)) (ones rfl) hsm3 (by omega) (by first|rfl|exact List.length_append.symm|simp) (by simp[Qf]) (fun _=>rfl) ?_
      intro v8 w15 ho5 hS28
      have hS29:=hS28.drop 1 (ms':=(vec v8 9 1 ((((F_2 x1_.1).getD [])++[x1_.2]).length) ((((F_2 x1_.1).getD [])++[x1_.2]).flatMap Qf)::blk b4 238 [(.string x1_.1),(.string x1_.2)]::smap b2 (asl es2)::blk b3 313 [(.map (some b2))]::vec v6 9 1 ((cpt r1_).length) ((cpt r1_).flatMap Qf)::vec v4 9 1 ((srt nodes_p).length) ((srt nodes_p).flatMap Qf)::Hz 9 1 Qf es3)) rfl
      refine wpList_nil ?_
      refine⟨rfl,(hS29.sublist (.cons _ (.cons_cons _ (.cons _ (.cons_cons _ (.cons_cons _ (.cons_cons _ (List.nil_sublist _)))))))),?_⟩
      refine d1 11 4095 (by kernel_rfl) rfl (y40 (v:=v8) (i:=2) (ms':=(vec v8 9 1 ((((F_2 x1_.1).getD [])++[x1_.2]).length) ((((F_2 x1_.1).getD [])++[x1_.2]).flatMap Qf)::blk b4 238 [(.string x1_.1),(.string x1_.2)]::smap b2 (fun k'=>if k'=x1_.1 then some v8 else asl es2 k')::blk b3 313 [(.map (some b2))]::vec v6 9 1 ((cpt r1_).length) ((cpt r1_).flatMap Qf)::vec v4 9 1 ((srt nodes_p).length) ((srt nodes_p).flatMap Qf)::Hz 9 1 Qf es3)) hS29 rfl rfl rfl rfl Tryz.underlying313 Tryz.underlying9 rfl ?_)
      intro w16 hS30
      have hS32:=St.giveback (ms:=[blk b4 238 [(.string x1_.1),(.string x1_.2)],smap b2 (fun k'=>if k'=x1_.1 then some v8 else asl es2 k'),blk b3 313 [(.map (some b2))],vec v6 9 1 ((cpt r1_).length) ((cpt r1_).flatMap Qf),vec v4 9 1 ((srt nodes_p).length) ((srt nodes_p).flatMap Qf)]) (ms':=[blk b4 238 [(.string x1_.1),(.string x1_.2)],smap b2 (asl ((x1_.1,v8,((F_2 x1_.1).getD [])++[x1_.2])::es3)),blk b3 313 [(.map (some b2))],vec v6 9 1 ((cpt r1_).length) ((cpt r1_).flatMap Qf),vec v4 9 1 ((srt nodes_p).length) ((srt nodes_p).flatMap Qf)]) (i:=1) hS30 hL1 rfl rfl
      have hF3:=ELF.put (v:=v8) hF2 hL1 hsm3
      refine wpList_nil ?_
      refine⟨rfl,(hS32.sublist (.cons_cons _ (.cons _ (.cons_cons _ (.cons_cons _ (.cons_cons _ (List.nil_sublist _))))))),j6a (J':=fun z=>St ⟨w,σ,[]⟩ z σ3 (blk b4 238 [(.string x1_.1),(.string x1_.2)]::smap b2 (asl ((x1_.1,v8,((F_2 x1_.1).getD [])++[x1_.2])::es3))::blk b3 313 [(.map (some b2))]::vec v6 9 1 ((cpt r1_).length) ((cpt r1_).flatMap Qf)::vec v4 9 1 ((srt nodes_p).length) ((srt nodes_p).flatMap Qf)::Hz 9 1 Qf ((x1_.1,v8,((F_2 x1_.1).getD [])++[x1_.2])::es3))) (fun w h=>h.sublist (.cons_cons _ (.cons _ (.cons_cons _ (.cons_cons _ (.cons_cons _ (List.nil_sublist _))))))) _ _ _ _ ?_⟩
      refine dz (by kernel_rfl) (v3k (Qn (j2o (v3j (r:=((k_3+1:Nat):Int)) rfl rfl (nw (by omega) (by omega) (by have:=hlen3;omega)) (Q7 (v:=(.int .i64 ((k_3+1:Nat):Int))) rfl (wpList_nil (Qn ?_)))))))
      exact⟨k_3+1,(put F_2 x1_.1 (((F_2 x1_.1).getD [])++[x1_.2])),_,rfl,hP,((x1_.1,v8,((F_2 x1_.1).getD [])++[x1_.2])::es3),σ3,_,(Zz rfl (Zz rfl (Zz rfl (Zz rfl (Zz rfl rfl))))),(hS32.sublist (ms':=(smap b2 (asl ((x1_.1,v8,((F_2 x1_.1).getD [])++[x1_.2])::es3))::blk b3 313 [(.map (some b2))]::vec v6 9 1 ((cpt r1_).length) ((cpt r1_).flatMap Qf)::vec v4 9 1 ((srt nodes_p).length) ((srt nodes_p).flatMap Qf)::Hz 9 1 Qf ((x1_.1,v8,((F_2 x1_.1).getD [])++[x1_.2])::es3))) (.cons _ (List.Sublist.refl _))),hsub3,hF3⟩
   ·
    replace hP:=hP.2 (by first|(rw[hb1];exact Bool.false_ne_true)|simp[hb1])
    refine Q7 (v:=(.bool true)) (congrArg Value.bool (congrArg Bool.not hb1)) (v52 rfl rfl (v52 rfl rfl (v52 rfl rfl (v52 rfl rfl (v52 rfl rfl (y0p (v:=(.bool true)) rfl rfl (wpList_nil (Qn (if_t rfl (Qs (Qt (v:=(.slice none 0 0)) rfl (Qt (v:=(.int .i64 (11:Int))) rfl (wpList_nil (Qn (wp_ret (Bp (j46 (Bp (Bp (j46 (Bp (ret2 rfl (show ev _ _ _=(.slice none 0 0) from rfl) (show ev _ _ _=(.int .i64 (11:Int)) from rfl) ?_))))))))))))))))))))))
    have hS33:=hS21.addNil 9 1
    exact⟨[],(11:Int),(.slice none 0 0),rfl,(St.back (hS33.keep 1 (ms':=[vec (.slice none 0 0) 9 1 0 []]) rfl) (Sub.refl _)),(by simp[Sml]),hP⟩
  ·
   replace hP:=hP.2 ht2
   refine wp_exit (z8b (z8b (j62 (Qn (Qs (Qt (v:=(.slice none 0 0)) rfl (wpList_nil (Qn (Qs (y41 (fun y:Bool=>(Value.bool (y))) hS17 ?_))))))))))
   intro b6 w17 hS34
   refine w82 (cs:=[(.map none)]) hS34 Tryz.zeroValue60 rfl ?_
   intro b7 w18 hS35
   refine w81 (T:=60) (vs:=[(.map (some b6))]) (cs':=[(.map (some b6))]) (ms':=(blk b7 60 [(.map (some b6))]::emap b6 (fun y:Bool=>(Value.bool (y))) (fun _=>none)::smap b2 (asl es2)::blk b3 313 [(.map (some b2))]::vec v6 9 1 ((cpt r1_).length) ((cpt r1_).flatMap Qf)::vec v4 9 1 ((srt nodes_p).length) ((srt nodes_p).flatMap Qf)::Hz 9 1 Qf es2)) (i:=0) hS35 rfl rfl rfl Tryz.sizeOf60 rfl (ones rfl) rfl (Nat.le_of_ble_eq_true rfl) rfl rfl ?_
   intro w19 hS36
   refine wpList_nil (Qn (wp_seq (wp_block ?_)))
   obtain⟨σ6,hS37,hsub6,hr9⟩:=St.freezeL (ms:=[blk b7 60 [(.map (some b6))],emap b6 (fun y:Bool=>(Value.bool (y))) (fun _=>none),smap b2 (asl es2),blk b3 313 [(.map (some b2))],vec v6 9 1 ((cpt r1_).length) ((cpt r1_).flatMap Qf),vec v4 9 1 ((srt nodes_p).length) ((srt nodes_p).flatMap Qf)]) (ms':=[blk b7 60 [(.map (some b6))],emap b6 (fun y:Bool=>(Value.bool (y))) (fun _=>none),blk b3 313 [(.map (some b2))],vec v6 9 1 ((cpt r1_).length) ((cpt r1_).flatMap Qf),vec v4 9 1 ((srt nodes_p).length) ((srt nodes_p).flatMap Qf)]) (i:=2) hS36 hF2 q5g rfl rfl
   have hS38:=hS37.addNil 9 1
   have hS39:=hS38.front 4 rfl (ms':=[vec v6 9 1 ((cpt r1_).length) ((cpt r1_).flatMap Qf),vec (.slice none 0 0) 9 1 0 [],blk b7 60 [(.map (some b6))],emap b6 (fun y:Bool=>(Value.bool (y))) (fun _=>none),blk b3 313 [(.map (some b2))],vec v4 9 1 ((srt nodes_p).length) ((srt nodes_p).flatMap Qf)]) rfl
   have hS40:=hS39.front 4 rfl (ms':=[blk b3 313 [(.map (some b2))],vec v6 9 1 ((cpt r1_).length) ((cpt r1_).flatMap Qf),vec (.slice none 0 0) 9 1 0 [],blk b7 60 [(.map (some b6))],emap b6 (fun y:Bool=>(Value.bool (y))) (fun _=>none),vec v4 9 1 ((srt nodes_p).length) ((srt nodes_p).flatMap Qf)]) rfl
   have hS41:=hS40.front 3 rfl (ms':=[blk b7 60 [(.map (some b6))],blk b3 313 [(.map (some b2))],vec v6 9 1 ((cpt r1_).length) ((cpt r1_).flatMap Qf),vec (.slice none 0 0) 9 1 0 [],emap b6 (fun y:Bool=>(Value.bool (y))) (fun _=>none),vec v4 9 1 ((srt nodes_p).length) ((srt nodes_p).flatMap Qf)]) rfl
   have hS42:=hS41.front 4 rfl (ms':=[emap b6 (fun y:Bool=>(Value.bool (y))) (fun _=>none),blk b7 60 [(.map (some b6))],blk b3 313 [(.map (some b2))],vec v6 9 1 ((cpt r1_).length) ((cpt r1_).flatMap Qf),vec (.slice none 0 0) 9 1 0 [],vec v4 9 1 ((srt nodes_p).length) ((srt nodes_p).flatMap Qf)]) rfl
   have hS43:=hS42.front 4 rfl (ms':=[vec (.slice none 0 0) 9 1 0 [],emap b6 (fun y:Bool=>(Value.bool (y))) (fun _=>none),blk b7 60 [(.map (some b6))],blk b3 313 [(.map (some b2))],vec v6 9 1 ((cpt r1_).length) ((cpt r1_).flatMap Qf),vec v4 9 1 ((srt nodes_p).length) ((srt nodes_p).flatMap Qf)]) rfl
   have hS44:=hS43.front 5 rfl (ms':=[vec v4 9 1 ((srt nodes_p).length) ((srt nodes_p).flatMap Qf),vec (.slice none 0 0) 9 1 0 [],emap b6 (fun y:Bool=>(Value.bool (y))) (fun _=>none),blk b7 60 [(.map (some b6))],blk b3 313 [(.map (some b2))],vec v6 9 1 ((cpt r1_).length) ((cpt r1_).flatMap Qf)]) rfl
   refine y0z (fun left_3 out_3 F_4 f z=> ∃(v13:Value) (v14:Value) (σ7:Hv) (g:Fr),f=(upd (upd (upd (upd g 6 v13) 7 (.pointer (some ⟨b3,0,none⟩))) 10 v14) 11 (.pointer (some ⟨b7,0,none⟩)))/\St ⟨w,σ,[]⟩ z σ7 [vec v13 9 1 left_3.length ((left_3).flatMap Qf),vec v14 9 1 out_3.length ((out_3).flatMap Qf),emap b6 (fun y:Bool=>(Value.bool (y))) F_4,blk b7 60 [(.map (some b6))],blk b3 313 [(.map (some b2))],vec v6 9 1 ((cpt r1_).length) ((cpt r1_).flatMap Qf)]/\Sub σ6 σ7/\v13.oneCell'=true/\Sml left_3.length/\v14.oneCell'=true/\Sml out_3.length) hP ⟨v4,(.slice none 0 0),σ6,_,(Zz rfl (Zz rfl (Zz rfl (Zz rfl rfl)))),hS44,(Sub.refl _),(q0r ho1.1),(show Sml (srt nodes_p).length by rw[J7];exact hsm1),rfl,(by simp[Sml])⟩ ?_
   clear hP
   rintro left_3 out_3 F_4 Y5 hP f w20 ⟨v13,v14,σ7,g,rfl,hS45,hsub7,ho10,hl8,ho11,hl9⟩
   refine wp_seq (Qs (Q7 (v:=v13) rfl (j0d hS45 rfl (i:=0) rfl Tryz.underlying70 ?_)))
   have hlen4:left_3.length<=9223372036854775807:=by have:=hl8;unfold Sml at this;omega
   replace hP:=hP hlen4
   refine u01 (r:=(decide ((0:Int)<((left_3.length:Nat):Int)))) rfl rfl rfl (wpList_nil (Qn ?_))
   refine if_d ((0:Int)<((left_3.length:Nat):Int)) rfl (fun ht4=> ?_) (fun ht4=> ?_)
   ·
    replace hP:=hP.1 ht4
    refine wp_skip (Qn (wp_block (Qs (Q7 (v:=v13) rfl (j2p (la:=[]) (lb:=[(.pointer (some ⟨b3,0,none⟩)),(.pointer (some ⟨b7,0,none⟩))]) rfl rfl ?_)))))
    obtain⟨Y6,hK4,hP⟩:=hP
    refine q9q (args:=[v13,(.func (.func 224) #[] #[(.pointer (some ⟨b3,0,none⟩)),(.pointer (some ⟨b7,0,none⟩))])]) rfl Tryz.call223 (Calls.mono (R:=fun e z=> ∃(r_1:Int) (σ8:Hv),e= .returned (.int .i64 r_1)/\Y6 r_1/\St ⟨w,σ,[]⟩ z σ8 [vec v13 9 1 left_3.length ((left_3).flatMap Qf),vec v14 9 1 out_3.length ((out_3).flatMap Qf),emap b6 (fun y:Bool=>(Value.bool (y))) F_4,blk b7 60 [(.map (some b6))],blk b3 313 [(.map (some b2))],vec v6 9 1 ((cpt r1_).length) ((cpt r1_).flatMap Qf)]/\Sub σ7 σ8) ?_ ?_)
    ·
     refine enter Tryz.func223 rfl rfl rfl ?_
     refine Qs (Qt (v:=(.int .i64 (0:Int))) rfl (wpList_nil (Qn (wp_seq (Qs (Q7 (v:=v13) rfl (j0d hS45 rfl (i:=0) rfl Tryz.underlying70 (Q7 (v:=(.int .i64 (0:Int))) rfl (wpList_nil (Qn (wp_block ?_)))))))))))
     refine w2z (fun k_5 f z=> ∃(σ9:Hv) (g:Fr),f=(upd (upd (upd (upd g 0 v13) 1 (.func (.func 224) #[] #[(.pointer (some ⟨b3,0,none⟩)),(.pointer (some ⟨b7,0,none⟩))])) 7 (.int .i64 ((left_3.length:Nat):Int))) 8 (.int .i64 ((k_5:Nat):Int)))/\St ⟨w,σ,[]⟩ z σ9 [vec v13 9 1 left_3.length ((left_3).flatMap Qf),vec v14 9 1 out_3.length ((out_3).flatMap Qf),emap b6 (fun y:Bool=>(Value.bool (y))) F_4,blk b7 60 [(.map (some b6))],blk b3 313 [(.map (some b2))],vec v6 9 1 ((cpt r1_).length) ((cpt r1_).flatMap Qf)]/\Sub σ7 σ9) hP ⟨σ7,_,(Zz rfl (Zz rfl (Zz rfl (Zz rfl rfl)))),hS45,(Sub.refl _)⟩ ?_
     clear hP
     rintro k_5 Y7 hP f w21 ⟨σ9,g,rfl,hS46,hsub9⟩
     refine Qs (v54 (r:=(decide (((k_5:Nat):Int)<((left_3.length:Nat):Int)))) rfl rfl rfl (wpList_nil (Qn (wp_seq ?_))))
     refine if_d (((k_5:Nat):Int)<((left_3.length:Nat):Int)) rfl (fun ht5=> ?_) (fun ht5=> ?_)
     ·
      replace hP:=hP.1 ht5
      refine wp_skip (Qn (wp_seq (wp_block (Qs (Q7 (v:=(.int .i64 ((k_5:Nat):Int))) rfl (Qt (v:=(.int .i64 ((k_5:Nat):Int))) rfl (wpList_nil (Qn (Qs (Q7 (v:=(.func (.func 224) #[] #[(.pointer (some ⟨b3,0,none⟩)),(.pointer (some ⟨b7,0,none⟩))])) rfl (Q7 (v:=v13) rfl (Q7 (v:=(.int .i64 ((k_5:Nat):Int))) rfl ?_))))))))))))
      obtain⟨x2_,hx2⟩:=getq (l:=left_3) (k:=k_5) (by have:=ht5;omega)
      replace hP:=hP x2_ hx2
      obtain⟨g1,cp1,hv2⟩:=w29 (hS46.get (i:=0) rfl) (Qd hx2)
      refine Ru (k:=k_5) (a':=⟨g1,k_5*1,none⟩) hv2 rfl rfl (Qd hx2) Tryz.underlying70 Tryz.sizeOf9 (by simp[V0]) (q78 (v:=(.string x2_)) rfl Tryz.isAgg9 (j7a q5g (j:=0) hv2 (hS46.get (i:=0) rfl) hx2 rfl) (v57 (args:=[(.string x2_),(.pointer (some ⟨b3,0,none⟩)),(.pointer (some ⟨b7,0,none⟩))]) rfl rfl Tryz.call224 ?_))
      refine enter Tryz.func224 rfl rfl rfl ?_
      refine Qs (Qt (v:=(.bool false)) rfl (wpList_nil (Qn (Qs (q78 (v:=(.map (some b2))) rfl Tryz.isAgg313 (hS46.cell (i:=4) rfl rfl) (Q7 (v:=(.string x2_)) rfl ?_))))))
      obtain⟨v15,hl10,hz1⟩:=RMp.at (z:= .slice none 0 0) (z0:=[]) RSl.nil hr9 x2_
      obtain⟨a3,cap3,rfl⟩:=hz1.shape
      refine y44 (v:=(.slice a3 ((F_2 x2_).getD []).length cap3)) hl10 (View.of (Sub.trans hsub7 hsub9) hS46.view) rfl rfl Tryz.underlying313 Tryz.underlying9 Tryz.zeroValue70 (j2p (la:=[]) (lb:=[(.pointer (some ⟨b7,0,none⟩))]) rfl rfl (q9q (args:=[(.slice a3 ((F_2 x2_).getD []).length cap3),(.func (.func 226) #[] #[(.pointer (some ⟨b7,0,none⟩))])]) rfl Tryz.call225 ?_))
      refine enter Tryz.func225 rfl rfl rfl ?_
      refine Qs (Qt (v:=(.bool false)) rfl (wpList_nil (Qn (Qs (Q7 (v:=(.slice a3 ((F_2 x2_).getD []).length cap3)) rfl (Q7 (v:=(.func (.func 226) #[] #[(.pointer (some ⟨b7,0,none⟩))])) rfl ?_))))))
      obtain⟨Y8,hK5,hP⟩:=hP
      refine q9q (args:=[(.slice a3 ((F_2 x2_).getD []).length cap3),(.func (.func 226) #[] #[(.pointer (some ⟨b7,0,none⟩))])]) rfl Tryz.call223 (Calls.mono (R:=fun e z=> ∃(r_2:Int) (σ10:Hv),e= .returned (.int .i64 r_2)/\Y8 r_2/\St ⟨w,σ,[]⟩ z σ10 [vec v13 9 1 left_3.length ((left_3).flatMap Qf),vec v14 9 1 out_3.length ((out_3).flatMap Qf),emap b6 (fun y:Bool=>(Value.bool (y))) F_4,blk b7 60 [(.map (some b6))],blk b3 313 [(.map (some b2))],vec v6 9 1 ((cpt r1_).length) ((cpt r1_).flatMap Qf)]/\Sub σ9 σ10) ?_ ?_)
      ·
       refine enter Tryz.func223 rfl rfl rfl ?_
       refine Qs (Qt (v:=(.int .i64 (0:Int))) rfl (wpList_nil (Qn (wp_seq (Qs (Q7 (v:=(.slice a3 ((F_2 x2_).getD []).length cap3)) rfl (z2a rfl Tryz.underlying70 ?_)))))))
       have hlen6:=RSl.len63 hz1
       replace hP:=hP hlen6
       refine Q7 (v:=(.int .i64 (0:Int))) rfl (wpList_nil (Qn (wp_block ?_)))
       refine w2z (fun k_7 f z=> ∃(σ11:Hv) (g:Fr),f=(upd (upd (upd (upd g 0 (.slice a3 ((F_2 x2_).getD []).length cap3)) 1 (.func (.func 226) #[] #[(.pointer (some ⟨b7,0,none⟩))])) 7 (.int .i64 ((((F_2 x2_).getD []).length:Nat):Int))) 8 (.int .i64 ((k_7:Nat):Int)))/\St ⟨w,σ,[]⟩ z σ11 [vec v13 9 1 left_3.length ((left_3).flatMap Qf),vec v14 9 1 out_3.length ((out_3).flatMap Qf),emap b6 (fun y:Bool=>(Value.bool (y))) F_4,blk b7 60 [(.map (some b6))],blk b3 313 [(.map (some b2))],vec v6 9 1 ((cpt r1_).length) ((cpt r1_).flatMap Qf)]/\Sub σ9 σ11) hP ⟨σ9,_,(Zz rfl (Zz rfl (Zz rfl (Zz rfl rfl)))),hS46,(Sub.refl _)⟩ ?_
       clear hP
       rintro k_7 Y9 hP f w22 ⟨σ11,g,rfl,hS47,hsub11⟩
       refine Qs (v54 (r:=(decide (((k_7:Nat):Int)<((((F_2 x2_).getD []).length:Nat):Int)))) rfl rfl rfl (wpList_nil (Qn (wp_seq ?_))))
       refine if_d (((k_7:Nat):Int)<((((F_2 x2_).getD []).length:Nat):Int)) rfl (fun ht6=> ?_) (fun ht6=> ?_)
       ·
        replace hP:=hP.1 ht6
        refine wp_skip (Qn (wp_seq (wp_block (Qs (Q7 (v:=(.int .i64 ((k_7:Nat):Int))) rfl (Qt (v:=(.int .i64 ((k_7:Nat):Int))) rfl (wpList_nil (Qn (Qs (Q7 (v:=(.func (.func 226) #[] #[(.pointer (some ⟨b7,0,none⟩))])) rfl (Q7 (v:=(.slice a3 ((F_2 x2_).getD []).length cap3)) rfl (Q7 (v:=(.int .i64 ((k_7:Nat):Int))) rfl ?_))))))))))))
        obtain⟨x3_,hx3⟩:=getq (l:=((F_2 x2_).getD [])) (k:=k_7) (by have:=ht6;omega)
        replace hP:=hP x3_ hx3
        obtain⟨ad2,cs2,ha2,hl11,hr10,hR2,hlt2⟩:=RSl.at hz1 hx3
        cases hR2
        refine Ru (k:=k_7) (a':=(ad2.add (k_7*1))) (congrArg (fun z=>Value.slice z _ _) ha2) rfl rfl hlt2 Tryz.underlying70 Tryz.sizeOf9 rfl (q78 (v:=(.string x3_)) rfl Tryz.isAgg9 (hr10.cell (View.of (Sub.trans (Sub.trans hsub7 hsub9) hsub11) hS47.view) 0 rfl rfl) (v57 (args:=[(.string x3_),(.pointer (some ⟨b7,0,none⟩))]) rfl rfl Tryz.call226 ?_))
        refine enter Tryz.func226 rfl rfl rfl ?_
        refine Qs (Qt (v:=(.bool false)) rfl (wpList_nil (Qn (Qs (q78 (v:=(.map (some b6))) rfl Tryz.isAgg60 (hS47.cell (i:=3) rfl rfl) (Q7 (v:=(.string x3_)) rfl (y42 (v:=(.bool (((F_4 x3_).getD false)))) (i:=2) hS47 rfl rfl rfl Tryz.underlying60 Tryz.underlying9 Tryz.zeroValue4 (y00 (fun y:Bool=>(Value.bool (y))) _ rfl) (y0s (r:=(!((F_4 x3_).getD false))) rfl rfl (Qt (v:=(.bool (!((F_4 x3_).getD false)))) rfl (wpList_nil (Qn (wp_ret (ret1 rfl (show ev _ _ _=(.bool (!((F_4 x3_).getD false))) from rfl) ?_)))))))))))))
        refine⟨_,rfl,?_⟩
        refine wpList_nil (Qn ?_)
        refine y8j rfl (fun ht7=> ?_) (fun ht7=> ?_)
        ·
         replace hP:=hP.2 (by first|(rw[ht7];exact Bool.false_ne_true)|simp[ht7])
         refine Qs (Q7 (v:=(.int .i64 ((k_7:Nat):Int))) rfl (Qt (v:=(.int .i64 ((k_7:Nat):Int))) rfl (wpList_nil (Qn (wp_ret (j46 (Bp (Bp (j46 (Bp (ret1 rfl (show ev _ _ _=(.int .i64 ((k_7:Nat):Int)) from rfl) ?_)))))))))))
         exact⟨((k_7:Nat):Int),σ11,rfl,hP,hS47,hsub11⟩
        ·
         replace hP:=hP.1 ht7
         refine wp_skip (v3k (Qn (j2o (v3j (r:=((k_7+1:Nat):Int)) rfl rfl (nw (by omega) (by omega) (by have:=hlen6;omega)) (Q7 (v:=(.int .i64 ((k_7+1:Nat):Int))) rfl (wpList_nil (Qn ?_)))))))
         exact⟨k_7+1,_,rfl,hP,σ11,_,(Zz rfl (Zz rfl (Zz rfl (Zz rfl rfl)))),hS47,hsub11⟩
       ·
        replace hP:=hP.2 ht6
        refine wp_exit (z8b (z8b (j62 (Qn (Qs (Qt (v:=(.int .i64 (-1:Int))) rfl (wpList_nil (Qn (wp_ret (ret1 rfl (show ev _ _ _=(.int .i64 (-1:Int)) from rfl) ?_))))))))))
        exact⟨(-1:Int),σ11,rfl,hP,hS47,hsub11⟩
      ·
       rintro _ w23 ⟨r_2,σ10,rfl,hY4,hS48,hsub10⟩
       refine⟨_,rfl,?_⟩
       replace hP:=hK5 r_2 hY4
       refine y8g (r:=(decide ((0:Int)<=r_2))) rfl rfl rfl (Qt (v:=(.bool (decide ((0:Int)<=r_2)))) rfl (wpList_nil (Qn (wp_ret (ret1 rfl (show ev _ _ _=(.bool (decide ((0:Int)<=r_2))) from rfl) ?_)))))
       refine⟨_,rfl,?_⟩
       refine y0s (r:=(!decide ((0:Int)<=r_2))) rfl rfl (Qt (v:=(.bool (!decide ((0:Int)<=r_2)))) rfl (wpList_nil (Qn (wp_ret (ret1 rfl (show ev _ _ _=(.bool (!decide ((0:Int)<=r_2))) from rfl) ?_)))))
       refine⟨_,rfl,?_⟩
       refine wpList_nil (Qn ?_)
       refine y8i ((0:Int)<=r_2) rfl (fun ht8=> ?_) (fun ht8=> ?_)
       ·
        replace hP:=hP.2 ht8
        refine Qs (Q7 (v:=(.int .i64 ((k_5:Nat):Int))) rfl (Qt (v:=(.int .i64 ((k_5:Nat):Int))) rfl (wpList_nil (Qn (wp_ret (j46 (Bp (Bp (j46 (Bp (ret1 rfl (show ev _ _ _=(.int .i64 ((k_5:Nat):Int)) from rfl) ?_)))))))))))
        exact⟨((k_5:Nat):Int),σ10,rfl,hP,hS48,(Sub.trans hsub9 hsub10)⟩
       ·
        replace hP:=hP.1 ht8
        refine wp_skip (v3k (Qn (j2o (v3j (r:=((k_5+1:Nat):Int)) rfl rfl (nw (by omega) (by omega) (by have:=hlen4;omega)) (Q7 (v:=(.int .i64 ((k_5+1:Nat):Int))) rfl (wpList_nil (Qn ?_)))))))
        exact⟨k_5+1,_,rfl,hP,σ10,_,(Zz rfl (Zz rfl (Zz rfl (Zz rfl rfl)))),hS48,(Sub.trans hsub9 hsub10)⟩
     ·
      replace hP:=hP.2 ht5
      refine wp_exit (z8b (z8b (j62 (Qn (Qs (Qt (v:=(.int .i64 (-1:Int))) rfl (wpList_nil (Qn (wp_ret (ret1 rfl (show ev _ _ _=(.int .i64 (-1:Int)) from rfl) ?_))))))))))
      exact⟨(-1:Int),σ9,rfl,hP,hS46,hsub9⟩
    ·
     rintro _ w24 ⟨r_1,σ8,rfl,hY5,hS49,hsub8⟩
     refine⟨_,rfl,?_⟩
     replace hP:=hK4 r_1 hY5
     refine Qt (v:=(.int .i64 r_1)) rfl (wpList_nil (Qn (wp_seq (Qs (Q7 (v:=(.int .i64 r_1)) rfl (v54 (r:=(decide (r_1<(0:Int)))) rfl rfl rfl (wpList_nil (Qn ?_))))))))
     refine if_d (r_1<(0:Int)) rfl (fun ht9=> ?_) (fun ht9=> ?_)
     ·
      replace hP:=hP.1 ht9
      refine Qs (Qt (v:=(.slice none 0 0)) rfl (Qt (v:=(.int .i64 (12:Int))) rfl (wpList_nil (Qn (wp_ret (Bp (j46 (Bp (j46 (Bp (ret2 rfl (show ev _ _ _=(.slice none 0 0) from rfl) (show ev _ _ _=(.int .i64 (12:Int)) from rfl) ?_)))))))))))
      have hS50:=hS49.addNil 9 1
      exact⟨[],(12:Int),(.slice none 0 0),rfl,(St.back (hS50.keep 1 (ms':=[vec (.slice none 0 0) 9 1 0 []]) rfl) (Sub.refl _)),(by simp[Sml]),hP⟩
     ·
      replace hP:=hP.2 ht9
      refine wp_skip (Qn (Qs (Q7 (v:=v14) rfl (Q7 (v:=v13) rfl (Q7 (v:=(.int .i64 r_1)) rfl ?_)))))
      obtain⟨j1_,hj1,hP⟩:=hP
      obtain⟨x4_,hx4,hP⟩:=hP
      obtain⟨g2,cp2,hv3⟩:=w29 (hS49.get (i:=0) rfl) (Qd hx4)
      refine Ru (k:=j1_) (a':=⟨g2,j1_*1,none⟩) hv3 rfl hj1 (Qd hx4) Tryz.underlying70 Tryz.sizeOf9 (by simp[V0]) (q78 (v:=(.string x4_)) rfl Tryz.isAgg9 (j7a q5g (j:=0) hv3 (hS49.get (i:=0) rfl) hx4 rfl) (j59 (cs:=[(.string x4_)]) (e:=9) hS49 (fun _=>by kernel_rfl) ?_))
      intro b8 w25 hS51
      obtain⟨hsm4,hP⟩:=hP
      refine y43 (Ms:=fun v16=>[blk b8 9 [(.string x4_)],vec v13 9 1 left_3.length ((left_3).flatMap Qf),vec v16 9 1 ((out_3++[x4_]).length) ((out_3++[x4_]).flatMap Qf),emap b6 (fun y:Bool=>(Value.bool (y))) F_4,blk b7 60 [(.map (some b6))],blk b3 313 [(.map (some b2))],vec v6 9 1 ((cpt r1_).length) ((cpt r1_).flatMap Qf)]) (k':=(out_3++[x4_]).length) (xs':=(out_3++[x4_]).flatMap Qf) Tryz.underlying70 Tryz.type9 rfl rfl (bytes:=16) rfl rfl (Nat.succ_pos _) hS51 rfl (q:=2) rfl rfl rfl (z0n (hS51.get (i:=0) rfl)) (ones rfl) hsm4 (by omega) (by first|rfl|exact List.length_append.symm|simp) (by simp[Qf]) (fun _=>rfl) ?_
      intro v16 w26 ho12 hS52
      have hS53:=hS52.drop 0 (ms':=[vec v13 9 1 left_3.length ((left_3).flatMap Qf),vec v16 9 1 ((out_3++[x4_]).length) ((out_3++[x4_]).flatMap Qf),emap b6 (fun y:Bool=>(Value.bool (y))) F_4,blk b7 60 [(.map (some b6))],blk b3 313 [(.map (some b2))],vec v6 9 1 ((cpt r1_).length) ((cpt r1_).flatMap Qf)]) rfl
      refine Qt (v:=v16) rfl (wpList_nil (Qn (wp_seq (dr (fun z=>St ⟨w,σ,[]⟩ z σ8 [vec v13 9 1 left_3.length ((left_3).flatMap Qf),vec v16 9 1 ((out_3++[x4_]).length) ((out_3++[x4_]).flatMap Qf),blk b7 60 [(.map (some b6))],blk b3 313 [(.map (some b2))],vec v6 9 1 ((cpt r1_).length) ((cpt r1_).flatMap Qf)]) (by kernel_rfl) rfl ?_))))
      have hS54:=hS53.drew
      refine dt 0 1 (v:=(.map (some b6))) (by kernel_rfl) rfl rfl (fun _ _ _ h=>h) (hS54.sublist (.cons_cons _ (.cons_cons _ (.cons _ (List.Sublist.refl _))))) (fun _ hJ _ hK=>q78 (v:=(.map (some b6))) rfl Tryz.isAgg60 (hJ.cell (i:=2) rfl rfl) ⟨rfl,hK⟩) (dt 1 3 (v:=v13) (by kernel_rfl) rfl rfl (fun _ _ _ h=>h) (hS54.sublist (.cons_cons _ (.cons_cons _ (.cons _ (List.Sublist.refl _))))) (fun _ _ _ hK=>Q7 (v:=v13) rfl ⟨rfl,hK⟩) (dt 2 7 (v:=(.int .i64 r_1)) (by kernel_rfl) rfl rfl (fun _ _ _ h=>h) (hS54.sublist (.cons_cons _ (.cons_cons _ (.cons _ (List.Sublist.refl _))))) (fun _ _ _ hK=>Q7 (v:=(.int .i64 r_1)) rfl ⟨rfl,hK⟩) ?_))
      obtain⟨j2_,hj2,hP⟩:=hP
      obtain⟨x5_,hx5,hP⟩:=hP
      obtain⟨g3,cp3,hv4⟩:=w29 (hS54.get (i:=0) rfl) (Qd hx5)
      refine dt 3 15 (v:=(.pointer (some ⟨g3,j2_*1,none⟩))) (by kernel_rfl) rfl rfl (fun _ _ _ h=>h) (hS54.sublist (.cons_cons _ (.cons_cons _ (.cons _ (List.Sublist.refl _))))) (fun _ _ _ hK=>Ru (k:=j2_) (a':=⟨g3,j2_*1,none⟩) hv4 rfl hj2 (Qd hx5) Tryz.underlying70 Tryz.sizeOf9 (by simp[V0]) ⟨rfl,hK⟩) (dt 4 31 (v:=(.string x5_)) (by kernel_rfl) rfl rfl (fun _ _ _ h=>h) (hS54.sublist (.cons_cons _ (.cons_cons _ (.cons _ (List.Sublist.refl _))))) (fun _ hJ _ hK=>q78 (v:=(.string x5_)) rfl Tryz.isAgg9 (j7a q5g (j:=0) hv4 (hJ.get (i:=0) rfl) hx5 rfl) ⟨rfl,hK⟩) (d1 5 63 (by kernel_rfl) rfl (y8o (y0:=true) (i:=2) (ms':=[vec v13 9 1 left_3.length ((left_3).flatMap Qf),vec v16 9 1 ((out_3++[x4_]).length) ((out_3++[x4_]).flatMap Qf),emap b6 (fun y:Bool=>(Value.bool (y))) (put F_4 x5_ true),blk b7 60 [(.map (some b6))],blk b3 313 [(.map (some b2))],vec v6 9 1 ((cpt r1_).length) ((cpt r1_).flatMap Qf)]) hS54 rfl rfl rfl rfl Tryz.underlying60 Tryz.underlying9 rfl ?_)))
      intro w27 hS55
      refine wpList_nil ?_
      refine⟨rfl,(hS55.sublist (.cons_cons _ (.cons_cons _ (.cons _ (List.Sublist.refl _))))),j6a (J':=fun z=>St ⟨w,σ,[]⟩ z σ8 [vec v13 9 1 left_3.length ((left_3).flatMap Qf),vec v16 9 1 ((out_3++[x4_]).length) ((out_3++[x4_]).flatMap Qf),emap b6 (fun y:Bool=>(Value.bool (y))) (put F_4 x5_ true),blk b7 60 [(.map (some b6))],blk b3 313 [(.map (some b2))],vec v6 9 1 ((cpt r1_).length) ((cpt r1_).flatMap Qf)]) (fun w h=>h.sublist (.cons_cons _ (.cons_cons _ (.cons _ (List.Sublist.refl _))))) _ _ _ _ ?_⟩
      refine dz (by kernel_rfl) (Qn (j2o (Q7 (v:=v13) rfl (Q7 (v:=(.int .i64 r_1)) rfl (Q7 (v:=(.int .i64 r_1)) rfl ?_)))))
      obtain⟨hi1,hP⟩:=hP
      refine v3j (r:=(r_1+(1:Int))) rfl rfl (nwi rfl hi1) ?_
      obtain⟨j3_,hj3,hP⟩:=hP
      obtain⟨hd1,hP⟩:=hP
      obtain⟨hd2,hP⟩:=hP
      obtain⟨hsm5,hP⟩:=hP
      have hd3:r_1=((j3_:Nat):Int)/\(r_1+(1:Int))=((j3_+1:Nat):Int):=⟨by omega,by omega⟩
      refine q9q (args:=[v13,(.int .i64 ((j3_:Nat):Int)),(.int .i64 ((j3_+1:Nat):Int))]) (by rw[←hd3.1,←hd3.2];rfl) Tryz.call227 (Calls.mono (v3m (i:=j3_) (j:=(j3_+1)) Tryz.slices_Delete_string hS55.view (hS55.get (i:=0) rfl) (fun b hb=>hS55.off _ (List.mem_of_getElem? (i:=0) rfl) b hb) (by omega) hd2 hd1) ?_)
      rintro _ w28 ⟨v17,rfl,hf2,hg7,ho13⟩
      refine⟨_,rfl,?_⟩
      have ho14:=q0r ho13
      have hS56:=hS55.growV (i:=0) (o':=vec v17 9 1 ((left_3.take j3_++left_3.drop (j3_+1)).length) ((left_3.take j3_++left_3.drop (j3_+1)).flatMap Qf)) rfl hg7 hf2 ho13 (ms':=[vec v17 9 1 ((left_3.take j3_++left_3.drop (j3_+1)).length) ((left_3.take j3_++left_3.drop (j3_+1)).flatMap Qf),vec v16 9 1 ((out_3++[x4_]).length) ((out_3++[x4_]).flatMap Qf),emap b6 (fun y:Bool=>(Value.bool (y))) (put F_4 x5_ true),blk b7 60 [(.map (some b6))],blk b3 313 [(.map (some b2))],vec v6 9 1 ((cpt r1_).length) ((cpt r1_).flatMap Qf)]) rfl
      refine Qt (v:=v17) rfl (wpList_nil (v3k (Qn ?_)))
      exact⟨left_3.take j3_++left_3.drop (j3_+1),out_3++[x4_],put F_4 x5_ true,_,rfl,hP,v17,v16,σ8,_,(Zz rfl (Zz rfl (Zz rfl (Zz rfl rfl)))),hS56,(Sub.trans hsub7 hsub8),ho14,hsm5,ho12,hsm4⟩
   ·
    replace hP:=hP.2 ht4
    refine wp_exit (z8b (z8b (j62 (Qn (Qs (Q7 (v:=v14) rfl (Qt (v:=v14) rfl (Qt (v:=(.int .i64 (0:Int))) rfl (wpList_nil (Qn (wp_ret (ret2 rfl (show ev _ _ _=v14 from rfl) (show ev _ _ _=(.int .i64 (0:Int)) from rfl) ?_))))))))))))
    have hS57:=hS45.front 1 rfl (ms':=[vec v14 9 1 out_3.length ((out_3).flatMap Qf),vec v13 9 1 left_3.length ((left_3).flatMap Qf),emap b6 (fun y:Bool=>(Value.bool (y))) F_4,blk b7 60 [(.map (some b6))],blk b3 313 [(.map (some b2))],vec v6 9 1 ((cpt r1_).length) ((cpt r1_).flatMap Qf)]) rfl
    exact⟨out_3,(0:Int),v14,rfl,(St.back (hS57.keep 1 (ms':=[vec v14 9 1 out_3.length ((out_3).flatMap Qf)]) rfl) (Sub.refl _)),hl9,hP⟩
end Go.Proofs.YtkbjibhkaddepaaGreatDoor
end
