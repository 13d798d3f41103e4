/- In words: each decision has a value of its type, and its reason is true; for every input the law returns true. This is part 4 of 11. Conditions: those in the statements. -/
import Derived.Test.YtkbjibhkaddepaaGreatDoorProg
import Derived.Test.YtkbjibhkaddepaaGreatDoorRe3
import Derived.Lib.ValidU
import Derived.Lib.ItoaNum
import Derived.KernelRfl
import Derived.Conc.MuLone
import Derived.Shelf.Small.Bits
import Derived.Shelf.Utf8.RuneCount
import Derived.Shelf.Strconv.Atoi
import Derived.Shelf.Strconv.Itoa0
import Derived.Shelf.Strconv.Itoa1
import Derived.Shelf.LaysM
import Derived.Shelf.Strconv.Itoa2
import Derived.Shelf.Strconv.Itoa3
import Derived.Shelf.Strconv.AtoiErrFast
import Derived.Shelf.Strconv.ParseIntEmpty
import Derived.Shelf.Strconv.AtoiFail
import Derived.Shelf.Strconv.Clone
import Derived.Shelf.Strconv.SyntaxError
import Derived.Shelf.LaysC
import Derived.Shelf.Strconv.ToError
import Derived.Shelf.Strconv.Lower
import Derived.Shelf.Strconv.ParseUint10
import Derived.Shelf.Strconv.ParseUint10Empty
import Derived.Shelf.Strconv.ParseUint10Any
import Derived.Shelf.Strconv.ParseInt10
import Derived.Shelf.Strconv.AtoiLong
import Derived.Shelf.Strconv.AtoiInnerAll
import Derived.Shelf.Strconv.RangeError
import Derived.Shelf.Strconv.ToErrorRange
import Derived.Shelf.Strconv.AtoiAll
import Derived.Shelf.Strconv.ErrVarAll
import Derived.Shelf.Strings.Search1
import Derived.Shelf.Strings.Search2
import Derived.Shelf.Strings.Search3
import Derived.Shelf.Strings.Count
import Derived.Shelf.Strings.Shaped
import Derived.Shelf.Sort.Plain
import Derived.Shelf.Strings.Split
import Derived.Shelf.Strings.SplitShaped
import Derived.Shelf.Unicode.Decode
import Derived.Shelf.Strings.RuneCount
import Derived.Shelf.Strings.Explode
import Derived.Shelf.Unicode.DecodeSlow
import Derived.Shelf.Unicode.DecodeAny
import Derived.Ground.Names2Prog
import Derived.Shelf.Slices.Clone
import Derived.Shelf.Slices.CompactS
import Derived.Shelf.Slices.SearchI
import Derived.Shelf.Slices.Delete
import Derived.Shelf.Slices.Cells
import Derived.Shelf.Slices.In.SortNone
import Derived.Shelf.Slices.Empties
import Derived.Ground.SlgnProg
import Derived.Shelf.SlicesE.Clone
import Derived.Ground.NamesProg
import Derived.Shelf.Unicode.ValidAny
import Derived.Shelf.SlIter.Sorted
import Derived.Ground.GgzProg
import Derived.Shelf.SlIter.Collect
import Derived.WalkKit
import Derived.OwnWalkIn
import Derived.TacticsInMore
import Derived.LoopNIn
import Derived.LoopIn
import Derived.RangeFuncLeaves
noncomputable section
set_option maxRecDepth 100000
open Go Go.RowKit Go.Fl Go.Fl.Lk Go.Fx
namespace Go.En
abbrev Vc:Type:=(List (Decl)->Prop)->Prop
def U9:Vc:=fun K=>K [Decl.mk (ByteArray.mk (Array.mk [100,101,118,105,99,101])) (ByteArray.mk (Array.mk [99,111,114,101,115])) (2:Int),Decl.mk (ByteArray.mk (Array.mk [100,101,118,105,99,101])) (ByteArray.mk (Array.mk [111,115])) (3:Int),Decl.mk (ByteArray.mk (Array.mk [117,115,101,114])) (ByteArray.mk (Array.mk [97,103,101])) (2:Int),Decl.mk (ByteArray.mk (Array.mk [117,115,101,114])) (ByteArray.mk (Array.mk [97,112,112])) (4:Int),Decl.mk (ByteArray.mk (Array.mk [117,115,101,114])) (ByteArray.mk (Array.mk [98,101,116,97])) (1:Int),Decl.mk (ByteArray.mk (Array.mk [117,115,101,114])) (ByteArray.mk (Array.mk [99,111,117,110,116,114,121])) (3:Int),Decl.mk (ByteArray.mk (Array.mk [117,115,101,114])) (ByteArray.mk (Array.mk [112,108,97,110])) (3:Int),Decl.mk (ByteArray.mk (Array.mk [117,115,101,114])) (ByteArray.mk (Array.mk [116,97,103,115])) (5:Int)]
abbrev j9v:Type:=List (Int)->Int->(Bool->Int->Prop)->Prop
def w68:j9v:=fun list at_ K=>Fits list->K (decide (at_<(↑list.length:Int))) at_
abbrev Zk:Type:=List (Int)->Int->Int->(Int->Int->Prop)->Prop
def w69(w0a:j9v):Zk:=fun list at_ n K=>w0a list at_ fun Qa Qy=>Cnd (Qa=true) (InI (Qy+1)/\InI (Qy+1 - (1:Int))/\((0:Int)<=Qy+1 - (1:Int)/\Qy+1 - (1:Int)<(↑list.length:Int))/\ ∀y1,list[(Qy+1 - (1:Int)).toNat]? =some y1->InI y1/\n≠(0:Int)/\K (y1.tmod n) (Qy+1)) (K (0:Int) Qy)
def Wb:Zk:=w69 w68
abbrev q14:Type:=List (Int)->Int->(ByteArray->Int->Prop)->Prop
def w7a(Qb:Zk):q14:=fun list at_ K=>Qb list at_ (11:Int) fun Qa Qy=>((0:Int)<=Qa/\Qa<(↑(11:Nat):Int))/\ ∀y1,j3m[Qa.toNat]? =some y1->K y1 Qy
def z33:q14:=w7a Wb
abbrev q7h:Type:=List (Int)->Int->Int->(Int->Int->Prop)->Prop
def w7b(Qb:Zk):q7h:=fun list at_ n K=>Qb list at_ (256:Int) fun Qa Qy=>InI ((256:Int)*Qa)/\Qb list Qy (256:Int) fun Qc Z6=>InI ((256:Int)*Qa+Qc)/\n≠(0:Int)/\K (((256:Int)*Qa+Qc).tmod n) Z6
def z9c:q7h:=w7b Wb
abbrev z9d:Type:=Int->List (ByteArray)->(List (ByteArray)->Prop)->Prop
def j9w:z9d:=fun n l K=>((0:Int)<=n/\n<=(↑l.length:Int))/\K (List.take n.toNat l)
abbrev z34:Type:=List (Int)->Int->(List (ByteArray)->Int->Prop)->Prop
def w7c(Qb:Zk):z34:=fun list at_ K=>Qb list at_ (10:Int) fun Qa Qy=>Lp3 (fun Qc Z6 z8v y4s=>Qb list z8v (4:Int) fun Qf Zs=>Cnd (Z6<Qf) (InI (Qa+Z6)/\(10:Int)≠(0:Int)/\InI ((48:Int)+(Qa+Z6).tmod (10:Int))/\(↑((ByteArray.mk (Array.mk [107])).size+(Go.Utf8.encode (Go.IntKind.i32.wrap ((48:Int)+(Qa+Z6).tmod (10:Int)))).size):Int)<=(9223372036854775807:Int)/\Sml (Qc++[ByteArray.mk (Array.mk [107])++Go.Utf8.encode (Go.IntKind.i32.wrap ((48:Int)+(Qa+Z6).tmod (10:Int)))]).length/\InI (Z6+1)/\y4s (Qc++[ByteArray.mk (Array.mk [107])++Go.Utf8.encode (Go.IntKind.i32.wrap ((48:Int)+(Qa+Z6).tmod (10:Int)))]) (Z6+1) Zs) (Lp2 (fun Qi Um j9k=>Fits Um->CAt Um Qi (fun y5=>InI (Qi - 1)/\((0:Int)<=Qi - 1/\Qi - 1<(↑Um.length:Int))/\ ∀y7,Um[(Qi - 1).toNat]? =some y7->Cnd (Lk.blt y7 y5) (InI (Qi+1)/\j9k (Qi+1) Um) (((0:Int)<=Qi/\Qi<=(↑Um.length:Int))/\K (List.take Qi.toNat Um) Zs)) (K Um Zs)) (1:Int) Qc)) [] (0:Int) Qy
def j3n:z34:=w7c Wb
abbrev j1k:Type:=List (Int)->Int->(ByteArray->Int->Prop)->Prop
def v3s(Qb:Zk):j1k:=fun list at_ K=>Qb list at_ (10:Int) fun Qa Qy=>InI ((48:Int)+Qa)/\(↑((ByteArray.mk (Array.mk [107])).size+(Go.Utf8.encode (Go.IntKind.i32.wrap ((48:Int)+Qa))).size):Int)<=(9223372036854775807:Int)/\K (ByteArray.mk (Array.mk [107])++Go.Utf8.encode (Go.IntKind.i32.wrap ((48:Int)+Qa))) Qy
def w09:j1k:=v3s Wb
abbrev q15:Type:=List (Int)->Int->Int->(Val->Int->Prop)->Prop
def j3o(Qb:Zk)(Wl:q14):q15:=fun list at_ kind K=>Cnd (kind=1) (Qb list at_ (2:Int) fun Qa Qy=>K (Val.mk kind Qa (ByteArray.mk (Array.mk [])) []) Qy) (Cnd (kind=2) ([(0:Int),(1:Int),(17:Int),(18:Int),(19:Int),(-5:Int),(64:Int),(1099511627776:Int),(-1099511627776:Int)].length<=(9223372036854775807:Nat)->Qb list at_ (↑[(0:Int),(1:Int),(17:Int),(18:Int),(19:Int),(-5:Int),(64:Int),(1099511627776:Int),(-1099511627776:Int)].length:Int) fun Qc Z6=>((0:Int)<=Qc/\Qc<(↑[(0:Int),(1:Int),(17:Int),(18:Int),(19:Int),(-5:Int),(64:Int),(1099511627776:Int),(-1099511627776:Int)].length:Int))/\ ∀y2,[(0:Int),(1:Int),(17:Int),(18:Int),(19:Int),(-5:Int),(64:Int),(1099511627776:Int),(-1099511627776:Int)][Qc.toNat]? =some y2->K (Val.mk kind y2 (ByteArray.mk (Array.mk [])) []) Z6) (Cnd (kind=3) (Wl list at_ fun Qa Qy=>K (Val.mk kind (0:Int) Qa []) Qy) (Cnd (kind=4) (Qb list at_ (6:Int) fun Qa Qy=>((0:Int)<=Qa/\Qa<(↑(6:Nat):Int))/\ ∀y1,z62[Qa.toNat]? =some y1->K (Val.mk kind (0:Int) y1 []) Qy) (Qb list at_ (5:Int) fun Qa Qy=>((0:Int)<=Qa/\Qa<(↑(5:Nat):Int))/\ ∀y1,w07[Qa.toNat]? =some y1->Sml ([]++y1).length/\K (Val.mk (5:Int) (0:Int) (ByteArray.mk (Array.mk [])) ([]++y1)) Qy))))
def B7:q15:=j3o Wb z33
abbrev j3p:Type:=List (Int)->Int->(Ex->Int->Prop)->Prop
def w7d(Q5:Vc)(Qb:Zk)(z5w:j1k)(Jj:q15):j3p:=fun list at_ K=>Q5 fun Qa=>Fits Qa->InI ((↑Qa.length:Int)+1)/\Qb list at_ ((↑Qa.length:Int)+1) fun Qf Zs=>Fits Qa->Cnd (Qf=(↑Qa.length:Int)) (z5w list Zs fun Qe Js=>K (Ex.mk (7:Int) (ByteArray.mk (Array.mk [117,115,101,114])) (ByteArray.mk (Array.mk [107,101,121])) [Val.mk (3:Int) (0:Int) Qe []] []) Js) (At Qa Qf fun y4=>Jn1 (fun (Zq:Int×ByteArray×ByteArray×List Val×List Ex×Int×Int×ByteArray×ByteArray×List Val×List Ex×Unit)=>Jj list Zq.2.2.2.2.2.1 y4.3 fun Qv z6s=>K (Ex.mk (7:Int) Zq.2.1 Zq.2.2.1 [Qv] Zq.2.2.2.2.1) z6s) fun (w0b:Int×ByteArray×ByteArray×List Val×List Ex×Int×Int×ByteArray×ByteArray×List Val×List Ex×Unit->Prop)=>Qb list Zs (5:Int) fun Qv z6s=>Jn1 (fun (Wj:Int×Int×ByteArray×ByteArray×List Val×List Ex×Int×ByteArray×ByteArray×List Val×List Ex×Unit)=>Cnd (y4.3=2) (Qb list Wj.1 (4:Int) fun Qq z99=>InI ((12:Int)+Qq)/\Jj list z99 y4.3 fun U7 q0j=>K (Ex.mk ((12:Int)+Qq) Wj.2.2.1 Wj.2.2.2.1 [U7] Wj.2.2.2.2.2.1) q0j) (Cnd (y4.3=3) (Qb list Wj.1 (4:Int) fun Qq z99=>InI ((12:Int)+Qq)/\Jj list z99 y4.3 fun U7 q0j=>K (Ex.mk ((12:Int)+Qq) Wj.2.2.1 Wj.2.2.2.1 [U7] Wj.2.2.2.2.2.1) q0j) (Cnd (y4.3=4) (Qb list Wj.1 (4:Int) fun Qq z99=>InI ((12:Int)+Qq)/\Jj list z99 y4.3 fun U7 q0j=>K (Ex.mk ((12:Int)+Qq) Wj.2.2.1 Wj.2.2.2.1 [U7] Wj.2.2.2.2.2.1) q0j) (w0b (Wj.2.1,Wj.2.2.1,Wj.2.2.2.1,Wj.2.2.2.2.1,Wj.2.2.2.2.2.1,Wj.1,Wj.2.2.2.2.2.2.1,Wj.2.2.2.2.2.2.2.1,Wj.2.2.2.2.2.2.2.2.1,Wj.2.2.2.2.2.2.2.2.2.1,Wj.2.2.2.2.2.2.2.2.2.2.1,()))))) fun (y7l:Int×Int×ByteArray×ByteArray×List Val×List Ex×Int×ByteArray×ByteArray×List Val×List Ex×Unit->Prop)=>Cnd (Qv=0) (K (Ex.mk (6:Int) y4.1 y4.2 [] []) z6s) (Cnd (Qv=1) (Cnd (y4.3=5) (w0b ((0:Int),y4.1,y4.2,[],[],z6s,(0:Int),ByteArray.mk (Array.mk []),ByteArray.mk (Array.mk []),[],[],())) (Lp3 (fun Qq z99 u1o u5n=>Qb list u1o (3:Int) fun U7 q0j=>Cnd (Qq<=U7) (Jj list q0j y4.3 fun Wx z8w=>Sml (z99++[Wx]).length/\InI (Qq+1)/\u5n (Qq+1) (z99++[Wx]) z8w) (K (Ex.mk (8:Int) y4.1 y4.2 z99 []) q0j)) (0:Int) [] z6s)) (Cnd (Qv=2) (Cnd (y4.3=3) (Jj list z6s (3:Int) fun Qq z99=>K (Ex.mk (11:Int) y4.1 y4.2 [Qq] []) z99) (Cnd (y4.3=5) (Jj list z6s (3:Int) fun Qq z99=>K (Ex.mk (11:Int) y4.1 y4.2 [Qq] []) z99) (w0b ((0:Int),y4.1,y4.2,[],[],z6s,(0:Int),ByteArray.mk (Array.mk []),ByteArray.mk (Array.mk []),[],[],())))) (Cnd (Qv=3) (Cnd (y4.3=3) (Qb list z6s (2:Int) fun Qq z99=>InI ((9:Int)+Qq)/\Jj list z99 (3:Int) fun U7 q0j=>K (Ex.mk ((9:Int)+Qq) y4.1 y4.2 [U7] []) q0j) (y7l (z6s,(0:Int),y4.1,y4.2,[],[],(0:Int),ByteArray.mk (Array.mk []),ByteArray.mk (Array.mk []),[],[],()))) (Cnd (Qv=4) (y7l (z6s,(0:Int),y4.1,y4.2,[],[],(0:Int),ByteArray.mk (Array.mk []),ByteArray.mk (Array.mk []),[],[],())) (w0b ((0:Int),y4.1,y4.2,[],[],z6s,(0:Int),ByteArray.mk (Array.mk []),ByteArray.mk (Array.mk []),[],[],())))))))
def z9e:j3p:=w7d U9 Wb w09 B7
abbrev q40:Type:=List (Int)->Int->List (ByteArray)->Int->(Ex->Int->Prop)->Prop
def j9x(Qb:Zk)(j5e:j3p)(X:q40):q40:=fun list at_ segments levels K=>Qb list at_ (8:Int) fun Qa Qy=>Jn1 (fun Qc=>Cnd (Qc=0) (K (Ex.mk (1:Int) (ByteArray.mk (Array.mk [])) (ByteArray.mk (Array.mk [])) [] []) Qy) (Cnd (Qc=3) (Fits segments->Cnd ((0:Int)<(↑segments.length:Int)) (Fits segments->Qb list Qy (↑segments.length:Int) fun Qe Js=>At segments Qe fun y5=>K (Ex.mk (5:Int) (ByteArray.mk (Array.mk [])) y5 [] []) Js) (j5e list Qy fun Qi Um=>K (Ex.mk Qi.1 Qi.2 Qi.3 Qi.4 Qi.5) Um)) (Cnd (Qc=4) (InI (levels - 1)/\X list Qy segments (levels - 1) fun Qf Zs=>K (Ex.mk (4:Int) (ByteArray.mk (Array.mk [])) (ByteArray.mk (Array.mk [])) [] [Ex.mk Qf.1 Qf.2 Qf.3 Qf.4 Qf.5]) Zs) (Jn1 (fun Qf=>Cnd (Qf=true) (Qb list Qy (2:Int) fun Qi Um=>InI ((2:Int)+Qi)/\Qb list Um (2:Int) fun Qe Js=>InI ((2:Int)+Qe)/\LpH (fun (Ql:Int×Int×Int×ByteArray×ByteArray×List Val×List Ex×Unit) (j5f:Int×Int×Int×ByteArray×ByteArray×List Val×List Ex×Unit->Prop)=>Cnd (Ql.1<2+Qe) (InI (levels - 1)/\X list Ql.2.1 segments (levels - 1) fun Zq z2l=>Jn1 (fun (Qv:Int×ByteArray×ByteArray×List Val×List Ex×Unit)=>Sml (Ql.2.2.2.2.2.2.1++[Ex.mk Qv.1 Qv.2.1 Qv.2.2.1 Qv.2.2.2.1 Qv.2.2.2.2.1]).length/\InI (Ql.1+1)/\j5f (Ql.1+1,z2l,Ql.2.2.1,Ql.2.2.2.1,Ql.2.2.2.2.1,Ql.2.2.2.2.2.1,Ql.2.2.2.2.2.2.1++[Ex.mk Qv.1 Qv.2.1 Qv.2.2.1 Qv.2.2.2.1 Qv.2.2.2.2.1],())) fun (y4x:Int×ByteArray×ByteArray×List Val×List Ex×Unit->Prop)=>Cnd (Zq.1=2+Qi) (y4x ((4:Int),ByteArray.mk (Array.mk []),ByteArray.mk (Array.mk []),[],[Ex.mk Zq.1 Zq.2 Zq.3 Zq.4 Zq.5],())) (y4x (Zq.1,Zq.2,Zq.3,Zq.4,Zq.5,()))) (K (Ex.mk Ql.2.2.1 Ql.2.2.2.1 Ql.2.2.2.2.1 Ql.2.2.2.2.2.1 Ql.2.2.2.2.2.2.1) Ql.2.1)) ((0:Int),Js,(2:Int)+Qi,ByteArray.mk (Array.mk []),ByteArray.mk (Array.mk []),[],[],())) (j5e list Qy fun Qi Um=>K (Ex.mk Qi.1 Qi.2 Qi.3 Qi.4 Qi.5) Um)) fun v2s=>Cnd (Qc=5) (v2s (decide (Qc=5))) (v2s (decide (Qc=6))))))) fun w0c=>Cnd (levels<=1) (Cnd ((4:Int)<=Qa) (InI (Qa - 4)/\w0c (Qa - 4)) (w0c Qa)) (w0c Qa)
def j3q:q40:=fun list at_ segments levels K=> ∀X:q40,(∀list at_ segments levels K,j9x Wb z9e X list at_ segments levels K->X list at_ segments levels K)->X list at_ segments levels K
abbrev q5y:Type:=List (Int)->Int->ByteArray->ByteArray->Int->List (Decl)->List (Seg)->List (Flg)->List (Lay_)->List (Exper)->(Int->ByteArray->ByteArray->Int->List (Decl)->List (Seg)->List (Flg)->List (Lay_)->List (Exper)->Prop)->Prop
def z64(Qb:Zk)(q3q:z9d)(q5g:z34)(q5h:q40):q5y:=fun list at_ salt hkind hold attrs segs flags layers expers K=>Qb list at_ (4:Int) fun Qa Qy=>q3q Qa [ByteArray.mk (Array.mk [97,108,112,104,97]),ByteArray.mk (Array.mk [98,101,116,97]),ByteArray.mk (Array.mk [103,97,109,109,97])] fun Qc=>Lp3 (fun Qf Zs w9f u1p=>Fits Qc->CAt Qc Qf (fun y4=>q5g list Zs fun Zq z2l=>q5g list z2l fun Qv z6s=>Jn2 (fun Wj v2t=>Jn1 (fun (Qq:Int×ByteArray×ByteArray×List Val×List Ex×Int×Unit)=>Sml (w9f++[Seg.mk y4 Wj Zq Qv (Ex.mk Qq.1 Qq.2.1 Qq.2.2.1 Qq.2.2.2.1 Qq.2.2.2.2.1)]).length/\InI (Qf+1)/\u1p (Qf+1) Qq.2.2.2.2.2.1 (w9f++[Seg.mk y4 Wj Zq Qv (Ex.mk Qq.1 Qq.2.1 Qq.2.2.1 Qq.2.2.2.1 Qq.2.2.2.2.1)])) fun (y7m:Int×ByteArray×ByteArray×List Val×List Ex×Int×Unit->Prop)=>Qb list v2t (3:Int) fun U7 q0j=>Cnd ((0:Int)<U7) (((0:Int)<=(0:Int)/\(0:Int)<=Qf/\Qf<=(↑Qc.length:Int))/\q5h list q0j (List.drop (Int.toNat (0:Int)) (List.take Qf.toNat Qc)) (3:Int) fun Wx z8w=>y7m (Wx.1,Wx.2,Wx.3,Wx.4,Wx.5,z8w,())) (y7m ((0:Int),ByteArray.mk (Array.mk []),ByteArray.mk (Array.mk []),[],[],q0j,()))) fun y7l=>Qb list z6s (4:Int) fun Qq z99=>Cnd (Qq=1) (y7l (ByteArray.mk (Array.mk [100,101,118,105,99,101])) z99) (y7l (ByteArray.mk (Array.mk [117,115,101,114])) z99)) (K Zs salt hkind hold attrs w9f flags layers expers)) (0:Int) Qy segs
def z0k:q5y:=z64 Wb j9w j3n j3q
abbrev q16:Type:=Envt->(List (ByteArray)->Prop)->Prop
def q17:q16:=fun v K=>Lp2 (fun Qa Qy q36=>Fits v.3->CAt v.3 Qy (fun y2=>Sml (Qa++[y2.1]).length/\InI (Qy+1)/\q36 (Qa++[y2.1]) (Qy+1)) (K Qa)) [] (0:Int)
abbrev q81:Type:=List (Int)->Int->Int->(List (Rng)->Int->Prop)->Prop
def w1a(Qb:Zk)(W2:q7h):q81:=fun list at_ n K=>Jn4 (fun Qa Qy z6t q4x=>Qb list q4x n fun Qc Z6=>InI ((1:Int)+Qc)/\Jn1 (fun Qf=>Sml (Qa++[Rng.mk Qy (10000:Int) Qf]).length/\K (Qa++[Rng.mk Qy (10000:Int) Qf]) Z6) fun v2s=>Cnd ((1:Int)+Qc=z6t) (n≠(0:Int)/\InI ((1:Int)+((1:Int)+Qc).tmod n)/\v2s ((1:Int)+((1:Int)+Qc).tmod n)) (v2s ((1:Int)+Qc))) fun q5i=>Lp5 (fun Qc Z6 z8v j22 u18 u30=>Qb list u18 (4:Int) fun Qf Zs=>Cnd (j22<Qf) (Cnd ((1:Int)<n) (InI (Z6+1)/\W2 list Zs (5000:Int) fun Qi Um=>InI (Z6+1+Qi)/\Qb list Um n fun Qe Js=>InI ((1:Int)+Qe)/\Jn1 (fun Ql=>Cnd ((10000:Int)<=Z6+1+Qi) (q5i Qc Z6 z8v Js) (Sml (Qc++[Rng.mk Z6 (Z6+1+Qi) Ql]).length/\InI (j22+1)/\u30 (Qc++[Rng.mk Z6 (Z6+1+Qi) Ql]) (Z6+1+Qi) Ql (j22+1) Js)) fun u6e=>Cnd ((1:Int)+Qe=z8v) (n≠(0:Int)/\InI ((1:Int)+((1:Int)+Qe).tmod n)/\u6e ((1:Int)+((1:Int)+Qe).tmod n)) (u6e ((1:Int)+Qe))) (q5i Qc Z6 z8v Zs)) (q5i Qc Z6 z8v Zs)) [] (0:Int) (0:Int) (0:Int) at_
def z65:q81:=w1a Wb z9c
abbrev z66:Type:=List (Int)->Int->Int->(Srv->Int->Prop)->Prop
def w1b(Qb:Zk)(Wl:q14)(q3r:q81)(Q5:Vc):z66:=fun list at_ n K=>Qb list at_ (2:Int) fun Qa Qy=>Cnd (Qa=0) (Qb list Qy n fun Qc Z6=>InI ((1:Int)+Qc)/\K (Srv.mk ((1:Int)+Qc) (ByteArray.mk (Array.mk [])) (ByteArray.mk (Array.mk [])) (ByteArray.mk (Array.mk [])) []) Z6) (Wl list Qy fun Qc Z6=>q3r list Z6 n fun Qf Zs=>Q5 fun Qi=>Qb list Zs (12:Int) fun Qe Js=>Fits Qi->CAt Qi Qe (fun y6=>Cnd (y6.3=5) (K (Srv.mk (0:Int) (ByteArray.mk (Array.mk [117,115,101,114])) (ByteArray.mk (Array.mk [107,101,121])) Qc Qf) Js) (At Qi Qe fun y8=>At Qi Qe fun y10=>K (Srv.mk (0:Int) y8.1 y10.2 Qc Qf) Js)) (K (Srv.mk (0:Int) (ByteArray.mk (Array.mk [117,115,101,114])) (ByteArray.mk (Array.mk [107,101,121])) Qc Qf) Js))
def j3r:z66:=w1b Wb z33 z65 U9
abbrev j3s:Type:=(List (Nd)->(Nd->Option (Int))->Bool->Prop)->Prop
def v0l:j3s:=fun K=>K [] (fun _=>none) false
abbrev Wn:Type:=Int->(Bool->Prop)->Prop
def J5:Wn:=fun op K=>Cnd ((6:Int)<=op) (K (decide (op<=15))) (K false)
abbrev j3t:Type:=List (ByteArray)->List (ByteArray)->(Bool->Prop)->Prop
def j3u:j3t:=fun a b K=>Fits a->Fits b->Cnd ((↑a.length:Int)=(↑b.length:Int)) (Lp1 (fun Qf j21=>Fits a->CAt a Qf (fun y4=>At b Qf fun y6=>Cnd (y4=y6) (InI (Qf+1)/\j21 (Qf+1)) (K false)) (K true)) (0:Int)) (K false)
abbrev q37:Type:=Val->Val->(Bool->Prop)->Prop
def j6a(j5g:j3t):q37:=fun a b K=>Cnd (a.1=b.1) (Cnd (a.2=b.2) (Cnd (a.3=b.3) (j5g a.4 b.4 fun Qa=>K Qa) (K false)) (K false)) (K false)
def q8m:q37:=j6a j3u
abbrev Rg:Type:=List (Val)->List (Val)->(Bool->Prop)->Prop
def q82(U8:q37):Rg:=fun a b K=>Fits a->Fits b->Cnd ((↑a.length:Int)=(↑b.length:Int)) (Lp1 (fun Qf j21=>Fits a->CAt a Qf (fun y4=>At b Qf fun y6=>U8 y4 y6 fun Wj=>Cnd (Wj=true) (InI (Qf+1)/\j21 (Qf+1)) (K false)) (K true)) (0:Int)) (K false)
def Uv:Rg:=q82 q8m
abbrev V6:Type:=Ex->Ex->(Bool->Prop)->Prop
def z35(q3s:Rg)(X:V6):V6:=fun a b K=>Cnd (a.1=b.1) (Cnd (a.2=b.2) (Cnd (a.3=b.3) (q3s a.4 b.4 fun Qa=>Cnd (Qa=true) (Fits a.5->Fits b.5->Cnd ((↑a.5.length:Int)=(↑b.5.length:Int)) (Lp1 (fun Qi j23=>Fits a.5->CAt a.5 Qi (fun y5=>At b.5 Qi fun y7=>X (Ex.mk y5.1 y5.2 y5.3 y5.4 y5.5) (Ex.mk y7.1 y7.2 y7.3 y7.4 y7.5) fun Qq=>Cnd (Qq=true) (InI (Qi+1)/\j23 (Qi+1)) (K false)) (K true)) (0:Int)) (K false)) (K false)) (K false)) (K false)) (K false)
def q18:V6:=fun a b K=> ∀X:V6,(∀a b K,z35 Uv X a b K->X a b K)->X a b K
abbrev q09:Type:=List (Ex)->Ex->(Int->Prop)->Prop
def j1l(q76:V6):q09:=fun l e K=>Lp1 (fun Qa R3=>Fits l->CAt l Qa (fun y2=>q76 (Ex.mk y2.1 y2.2 y2.3 y2.4 y2.5) (Ex.mk e.1 e.2 e.3 e.4 e.5) fun Qe=>Cnd (Qe=true) (K Qa) (InI (Qa+1)/\R3 (Qa+1))) (K (-1:Int))) (0:Int)
def Uk:q09:=j1l q18
abbrev Vd:Type:=List (Ex)->Ex->(List (Ex)->Prop)->Prop
def z1u(Un:q09)(Qx:Wn)(X:Vd):Vd:=fun l e K=>Jn1 (fun Qa=>Lp2 (fun Qc Z6 z8x=>Fits e.5->CAt e.5 Z6 (fun y3=>X Qc (Ex.mk y3.1 y3.2 y3.3 y3.4 y3.5) fun Ql=>InI (Z6+1)/\z8x Ql (Z6+1)) (K Qc)) Qa (0:Int)) fun q5i=>Cnd (e.1=5) (Un l (Ex.mk e.1 e.2 e.3 e.4 e.5) fun Qc=>Cnd (Qc<0) ((Sml ([]++l).length/\Sml ([]++l++[Ex.mk e.1 e.2 e.3 e.4 e.5]).length/\q5i ([]++l++[Ex.mk e.1 e.2 e.3 e.4 e.5]))/\Sml ([]++l).length/\Sml ([]++l++[Ex.mk e.1 e.2 e.3 e.4 e.5]).length/\q5i ([]++l++[Ex.mk e.1 e.2 e.3 e.4 e.5])) (q5i l)) (Qx e.1 fun Qc=>Cnd (Qc=true) (Un l (Ex.mk e.1 e.2 e.3 e.4 e.5) fun Qf=>Cnd (Qf<0) ((Sml ([]++l).length/\Sml ([]++l++[Ex.mk e.1 e.2 e.3 e.4 e.5]).length/\q5i ([]++l++[Ex.mk e.1 e.2 e.3 e.4 e.5]))/\Sml ([]++l).length/\Sml ([]++l++[Ex.mk e.1 e.2 e.3 e.4 e.5]).length/\q5i ([]++l++[Ex.mk e.1 e.2 e.3 e.4 e.5])) (q5i l)) (q5i l))
def q41:Vd:=fun l e K=> ∀X:Vd,(∀l e K,z1u Uk J5 X l e K->X l e K)->X l e K
abbrev Rh:Type:=List (Rul)->(List (Ex)->Prop)->Prop
def q83(q5j:Vd):Rh:=fun l K=>Lp2 (fun Qa Qy q36=>Fits l->CAt l Qy (fun y2=>q5j Qa (Ex.mk y2.2.1 y2.2.2 y2.2.3 y2.2.4 y2.2.5) fun Qe=>InI (Qy+1)/\q36 Qe (Qy+1)) (K Qa)) [] (0:Int)
def q19:Rh:=q83 q41
abbrev Wc:Type:=List (Nd)->(Nd->Option (Int))->Bool->Int->(Bool->List (Nd)->(Nd->Option (Int))->Bool->Prop)->Prop
def Gg:Wc:=fun ns ids full id K=>Cnd ((-1002:Int)<id) (Fits ns->K (decide (id<(↑ns.length:Int))) ns ids full) (K false ns ids full)
abbrev q0p:Type:=List (Nd)->(Nd->Option (Int))->Bool->Int->((Int->Option (Bool))->List (Nd)->(Nd->Option (Int))->Bool->Prop)->Prop
def q0q:q0p:=fun ns ids full id K=>Lp2 (fun Qa R3 q36=>Fits Qa->Cnd ((0:Int)<(↑Qa.length:Int)) (Fits Qa->InI ((↑Qa.length:Int) - 1)/\((0:Int)<=(↑Qa.length:Int) - 1/\(↑Qa.length:Int) - 1<(↑Qa.length:Int))/\ ∀y3,Qa[((↑Qa.length:Int) - 1).toNat]? =some y3->Fits Qa->InI ((↑Qa.length:Int) - 1)/\((0:Int)<=(↑Qa.length:Int) - 1/\(↑Qa.length:Int) - 1<=(↑Qa.length:Int))/\Cnd ((R3 y3).getD false=true) (q36 (List.take ((↑Qa.length:Int) - 1).toNat Qa) R3) (Cnd ((0:Int)<=y3) (At ns y3 fun y6=>At ns y3 fun y8=>Sml (List.take ((↑Qa.length:Int) - 1).toNat Qa++[y6.2.1,y8.2.2]).length/\q36 (List.take ((↑Qa.length:Int) - 1).toNat Qa++[y6.2.1,y8.2.2]) (put R3 y3 true)) (q36 (List.take ((↑Qa.length:Int) - 1).toNat Qa) (put R3 y3 true)))) (K R3 ns ids full)) [id] fun _=>none
abbrev Uw:Type:=List (Nd)->(Nd->Option (Int))->Bool->Int->(List (Int)->List (Nd)->(Nd->Option (Int))->Bool->Prop)->Prop
def z2s(Q1:Wc)(q01:q0p):Uw:=fun ns ids full id K=>Q1 ns ids full id fun Qa (Qy:List (Int×Int×Int)) q36 q4x=>Cnd (Qa=true) (q01 Qy q36 q4x id fun w0c (Z6:List (Int×Int×Int)) z8x j22=>Lp2 (fun Qf Zs q7c=>Cnd (Zs<=1000) (InI ((-1:Int) - Zs)/\Cnd ((w0c ((-1:Int) - Zs)).getD false=true) (Sml (Qf++[Zs]).length/\InI (Zs+1)/\q7c (Qf++[Zs]) (Zs+1)) (InI (Zs+1)/\q7c Qf (Zs+1))) (K Qf Z6 z8x j22)) [] (0:Int)) (K [] Qy q36 q4x)
def R8:Uw:=z2s Gg q0q
abbrev Zl:Type:=List (Nd)->(Nd->Option (Int))->Bool->Int->(Bool->List (Nd)->(Nd->Option (Int))->Bool->Prop)->Prop
def q69(Q1:Wc)(Bn:Uw):Zl:=fun ns ids full id K=>Q1 ns ids full id fun Qa (Qy:List (Int×Int×Int)) q36 q4x=>Cnd (Qa=true) (Bn Qy q36 q4x id fun Qc (Z6:List (Int×Int×Int)) z8x j22=>Lp1 (fun Qf j21=>Fits Qc->CAt Qc Qf (fun y4=>Cnd ((1:Int)<y4) (K false Z6 z8x j22) (InI (Qf+1)/\j21 (Qf+1))) (K true Z6 z8x j22)) (0:Int)) (K false Qy q36 q4x)
def J2:Zl:=q69 Gg R8
abbrev Ve:Type:=List (Nd)->(Nd->Option (Int))->Bool->Int->(Int->List (Nd)->(Nd->Option (Int))->Bool->Prop)->Prop
def Wd:Ve:=fun ns ids full id K=>Cnd (id<0) (K (1001:Int) ns ids full) (At ns id fun y0=>K y0.1 ns ids full)
abbrev He:Type:=List (Nd)->(Nd->Option (Int))->Bool->Int->Int->(Int->Int->List (Nd)->(Nd->Option (Int))->Bool->Prop)->Prop
def z6d(Zb:Ve):He:=fun ns ids full id test K=>Zb ns ids full id fun Qa (Qy:List (Int×Int×Int)) q36 q4x=>Cnd (Qa=test) (At Qy id fun y1=>At Qy id fun y3=>K y1.2.1 y3.2.2 Qy q36 q4x) (K id id Qy q36 q4x)
def Wo:He:=z6d Wd
abbrev Vo:Type:=List (Nd)->(Nd->Option (Int))->Bool->Int->Int->Int->(Int->List (Nd)->(Nd->Option (Int))->Bool->Prop)->Prop
def z67(Q1:Wc)(Zb:Ve):Vo:=fun ns ids full test yes no K=>Cnd (test<0) (K (-1002:Int) ns ids full) (Cnd ((1000:Int)<test) (K (-1002:Int) ns ids full) (Q1 ns ids full yes fun Qa (Qy:List (Int×Int×Int)) q36 q4x=>Cnd (Qa=true) (Q1 Qy q36 q4x no fun Qc (Z6:List (Int×Int×Int)) z8x j22=>Cnd (Qc=true) (Zb Z6 z8x j22 yes fun Qf (Zs:List (Int×Int×Int)) q7c w4b=>Cnd (Qf<=test) (K (-1002:Int) Zs q7c w4b) (Zb Zs q7c w4b no fun Qi (Um:List (Int×Int×Int)) j9k y4y=>Cnd (Qi<=test) (K (-1002:Int) Um j9k y4y) (Cnd (yes=no) (K yes Um j9k y4y) (Cnd ((j9k (test,yes,no)).isSome=true) (K ((j9k (test,yes,no)).getD (0:Int)) Um j9k y4y) (Fits Um->Cnd ((4000:Int)<=(↑Um.length:Int)) (K (-1002:Int) Um j9k true) (Fits Um->Sml (Um++[(test,yes,no)]).length/\((Um++[(test,yes,no)]).length<=(9223372036854775807:Nat)->InI ((↑(Um++[(test,yes,no)]).length:Int) - 1)/\K ((↑(Um++[(test,yes,no)]).length:Int) - 1) (Um++[(test,yes,no)]) (put j9k (test,yes,no) (↑Um.length:Int)) y4y))))))) (K (-1002:Int) Z6 z8x j22)) (K (-1002:Int) Qy q36 q4x)))
def Ji:Vo:=z67 Gg Wd
abbrev Jq:Type:=List (Nd)->(Nd->Option (Int))->Bool->Int->Int->Int->(A3->Option (Int))->(Int->List (Nd)->(Nd->Option (Int))->Bool->(A3->Option (Int))->Prop)->Prop
def Ux(Zb:Ve)(V3:He)(Jz:Vo)(X:Jq):Jq:=fun ns ids full f g h known K=>Cnd (f=(-2:Int)) (K g ns ids full known) (Cnd (g=h) (K g ns ids full known) (Cnd (f=(-1:Int)) (K h ns ids full known) (Cnd ((known (f,g,h)).isSome=true) (K ((known (f,g,h)).getD (0:Int)) ns ids full known) (Zb ns ids full f fun Qa (Qy:List (Int×Int×Int)) q36 q4x=>Zb Qy q36 q4x g fun Qc (Z6:List (Int×Int×Int)) z8x j22=>Zb Z6 z8x j22 h fun Qf (Zs:List (Int×Int×Int)) q7c w4b=>V3 Zs q7c w4b f (Min.min (Min.min Qa Qc) Qf) fun Qi Um (u6g:List (Int×Int×Int)) u6h u6i=>V3 u6g u6h u6i g (Min.min (Min.min Qa Qc) Qf) fun Qe Js (j5h:List (Int×Int×Int)) u19 u5o=>V3 j5h u19 u5o h (Min.min (Min.min Qa Qc) Qf) fun Ql q7d (u5p:List (Int×Int×Int)) u1q u6j=>X u5p u1q u6j Qi Qe Ql known fun Zq (z2l:List (Int×Int×Int)) y4z w9c u6k=>X z2l y4z w9c Um Js q7d u6k fun Qv (z6s:List (Int×Int×Int)) u2a w9g u2b=>Jn4 (fun Wj (v2t:List (Int×Int×Int)) u6l u5q=>K Wj v2t u5q u6l (put u2b (f,g,h) Wj)) fun y7l=>Cnd (Zq=(-1002:Int)) (y7l (-1002:Int) z6s w9g u2a) (Cnd (Qv=(-1002:Int)) (y7l (-1002:Int) z6s w9g u2a) (Jz z6s u2a w9g (Min.min (Min.min Qa Qc) Qf) Zq Qv fun Qq (z99:List (Int×Int×Int)) u1r y8s=>y7l Qq z99 y8s u1r))))))
def R9:Jq:=fun ns ids full f g h known K=> ∀X:Jq,(∀ns ids full f g h known K,Ux Wd Wo Ji X ns ids full f g h known K->X ns ids full f g h known K)->X ns ids full f g h known K
abbrev Z7:Type:=List (Nd)->(Nd->Option (Int))->Bool->Int->Int->Int->(Int->List (Nd)->(Nd->Option (Int))->Bool->Prop)->Prop
def z2t(Qr:Zl)(Q1:Wc)(Bo:Jq):Z7:=fun ns ids full f g h K=>Qr ns ids full f fun Qa (Qy:List (Int×Int×Int)) q36 q4x=>Cnd (Qa=true) (Q1 Qy q36 q4x g fun Qc (Z6:List (Int×Int×Int)) z8x j22=>Cnd (Qc=true) (Q1 Z6 z8x j22 h fun Qf (Zs:List (Int×Int×Int)) q7c w4b=>Cnd (Qf=true) (Bo Zs q7c w4b f g h (fun _=>none) fun Qi (Um:List (Int×Int×Int)) j9k y4y _=>K Qi Um j9k y4y) (K (-1002:Int) Zs q7c w4b)) (K (-1002:Int) Z6 z8x j22)) (K (-1002:Int) Qy q36 q4x)
def Vj:Z7:=z2t J2 Gg R9
abbrev B8:Type:=List (Nd)->(Nd->Option (Int))->Bool->Int->(Int->List (Nd)->(Nd->Option (Int))->Bool->Prop)->Prop
def j00(Q4:Z7):B8:=fun ns ids full f K=>Q4 ns ids full f (-1:Int) (-2:Int) fun Qa (Qy:List (Int×Int×Int)) q36 q4x=>K Qa Qy q36 q4x
def Hu:B8:=j00 Vj
abbrev B9:Type:=List (Nd)->(Nd->Option (Int))->Bool->Int->Int->(Int->List (Nd)->(Nd->Option (Int))->Bool->Prop)->Prop
def j01(Qr:Zl)(Q4:Z7):B9:=fun ns ids full f g K=>Qr ns ids full g fun Qa (Qy:List (Int×Int×Int)) q36 q4x=>Cnd (Qa=true) (Q4 Qy q36 q4x f g (-1:Int) fun Qc (Z6:List (Int×Int×Int)) z8x j22=>K Qc Z6 z8x j22) (K (-1002:Int) Qy q36 q4x)
def Hw:B9:=j01 J2 Vj
abbrev Gh:Type:=List (Nd)->(Nd->Option (Int))->Bool->Int->Int->(Int->List (Nd)->(Nd->Option (Int))->Bool->Prop)->Prop
def j3v(Qr:Zl)(Q4:Z7):Gh:=fun ns ids full f g K=>Qr ns ids full g fun Qa (Qy:List (Int×Int×Int)) q36 q4x=>Cnd (Qa=true) (Q4 Qy q36 q4x f (-2:Int) g fun Qc (Z6:List (Int×Int×Int)) z8x j22=>K Qc Z6 z8x j22) (K (-1002:Int) Qy q36 q4x)
def Gi:Gh:=j3v J2 Vj
abbrev Wh:Type:=List (Nd)->(Nd->Option (Int))->Bool->List (Ex)->Ex->(Int->List (Nd)->(Nd->Option (Int))->Bool->Prop)->Prop
def q84(q5k:B8)(q5l:B9)(W4:Gh)(Un:q09)(Jz:Vo)(X:Wh):Wh:=fun ns ids full atoms e K=>Cnd (e.1=1) (K (-2:Int) ns ids full) (Cnd (e.1=4) (((0:Int)<=(0:Int)/\(0:Int)<(↑e.5.length:Int))/\ ∀y0,e.5[Int.toNat (0:Int)]? =some y0->X ns ids full atoms (Ex.mk y0.1 y0.2 y0.3 y0.4 y0.5) fun Qf (Zs:List (Int×Int×Int)) q7c w4b=>q5k Zs q7c w4b Qf fun Qi (Um:List (Int×Int×Int)) j9k y4y=>K Qi Um j9k y4y) (Jn1 (fun Qa=>Cnd (Qa=true) (((0:Int)<=(0:Int)/\(0:Int)<(↑e.5.length:Int))/\ ∀y1,e.5[Int.toNat (0:Int)]? =some y1->X ns ids full atoms (Ex.mk y1.1 y1.2 y1.3 y1.4 y1.5) fun Qi (Um:List (Int×Int×Int)) j9k y4y=>Lp5 (fun Qe Js (j5h:List (Int×Int×Int)) y40 u4h u4i=>Fits e.5->CAt e.5 Js (fun y6=>X j5h u4h y40 atoms (Ex.mk y6.1 y6.2 y6.3 y6.4 y6.5) fun Wj (v2t:List (Int×Int×Int)) u4j u6f=>Cnd (e.1=2) (q5l v2t u4j u6f Qe Wj fun Qq (z99:List (Int×Int×Int)) u1r y8s=>InI (Js+1)/\u4i Qq (Js+1) z99 y8s u1r) (W4 v2t u4j u6f Qe Wj fun Qq (z99:List (Int×Int×Int)) u1r y8s=>InI (Js+1)/\u4i Qq (Js+1) z99 y8s u1r)) (K Qe j5h u4h y40)) Qi (1:Int) Um y4y j9k) (Un atoms (Ex.mk e.1 e.2 e.3 e.4 e.5) fun Qc=>Cnd (Qc<0) (K (-1002:Int) ns ids full) (Jz ns ids full Qc (-2:Int) (-1:Int) fun Qf (Zs:List (Int×Int×Int)) q7c w4b=>K Qf Zs q7c w4b))) fun q5i=>Cnd (e.1=2) (q5i (decide (e.1=2))) (q5i (decide (e.1=3)))))
def q2a:Wh:=fun ns ids full atoms e K=> ∀X:Wh,(∀ns ids full atoms e K,q84 Hu Hw Gi Uk Ji X ns ids full atoms e K->X ns ids full atoms e K)->X ns ids full atoms e K
abbrev J6:Type:=List (Rul)->(List (Int)->Int->Bool->Prop)->Prop
def q38(j5i:j3s)(q3t:Rh)(q3u:Wh)(W4:Gh):J6:=fun l K=>j5i fun (Qa:List (Int×Int×Int)) R3 z6t=>q3t l fun Qc=>LpH (fun Qf j21=>Fits l->CAt l Qf.2.2.1 (fun y4=>q3u Qf.2.2.2.1 Qf.2.2.2.2.2.1 Qf.2.2.2.2.1 Qc (Ex.mk y4.2.1 y4.2.2 y4.2.3 y4.2.4 y4.2.5) fun Zq (z2l:List (Int×Int×Int)) y4z w9c=>W4 z2l y4z w9c Qf.1 Zq fun Qv (z6s:List (Int×Int×Int)) u2a w9g=>Cnd (Qv=(-1002:Int)) (Fits z6s->K [] (↑z6s.length:Int) false) (Cnd (Qv=Qf.1) (InI (Qf.2.2.1+1)/\Sml (Qf.2.1++[Qf.2.2.1+1]).length/\InI (Qf.2.2.1+1)/\j21 (Qv,Qf.2.1++[Qf.2.2.1+1],Qf.2.2.1+1,z6s,w9g,u2a,())) (InI (Qf.2.2.1+1)/\j21 (Qv,Qf.2.1,Qf.2.2.1+1,z6s,w9g,u2a,())))) (Fits Qf.2.2.2.1->K Qf.2.1 (↑Qf.2.2.2.1.length:Int) true)) ((-1:Int),[],(0:Int),Qa,z6t,R3,())
def Uy:J6:=q38 v0l q19 q2a Gi
abbrev z68:Type:=List (Int)->Int->ByteArray->(Lay_->Int->Prop)->Prop
def w1c(Wl:q14)(Qb:Zk)(W2:q7h):z68:=fun list at_ key K=>Wl list at_ fun Qa Qy=>Qb list Qy (3:Int) fun Qc Z6=>InI (Qc*50)/\Jn2 (fun Qf Zs=>Jn2 (fun Qi Um=>Lp4 (fun Qe Js j5h y40 u4h=>Qb list y40 (3:Int) fun Ql q7d=>Cnd (Js<Ql) (W2 list q7d (3000:Int) fun Zq z2l=>InI (Qe+Zq)/\InI (Qe+Zq+1)/\W2 list z2l (2000:Int) fun Qv z6s=>InI (Qe+Zq+1+Qv)/\Cnd ((10000:Int)<Qe+Zq+1+Qv) (K (Lay_.mk key Qf Qa Qi (Qc*50) j5h) z6s) (Qb list z6s (200:Int) fun Wj v2t=>Sml (j5h++[Col.mk (Qe+Zq) (Qe+Zq+1+Qv) Wj]).length/\InI (Js+1)/\u4h (Qe+Zq+1+Qv) (Js+1) (j5h++[Col.mk (Qe+Zq) (Qe+Zq+1+Qv) Wj]) v2t)) (K (Lay_.mk key Qf Qa Qi (Qc*50) j5h) q7d)) (0:Int) (0:Int) [] Um) fun y4t=>Qb list Zs (2:Int) fun Qe Js=>Cnd (Qe=1) (W2 list Js (3000:Int) fun Ql q7d=>y4t Ql q7d) (y4t (0:Int) Js)) fun v2s=>Qb list Z6 (4:Int) fun Qi Um=>Cnd (Qi=1) (v2s (ByteArray.mk (Array.mk [100,101,118,105,99,101])) Um) (v2s (ByteArray.mk (Array.mk [117,115,101,114])) Um)
def j3w:z68:=w1c z33 Wb z9c
abbrev z9f:Type:=Int->(Bool->Prop)->Prop
def z9g:z9f:=fun now K=>Cnd ((0:Int)<=now) (K (decide (now<=1099511627776))) (K false)
abbrev We:Type:=Envt->ByteArray->(Int->Prop)->Prop
def V7:We:=fun v key K=>Lp1 (fun Qa R3=>Fits v.5->CAt v.5 Qa (fun y2=>Cnd (y2.1=key) (K Qa) (InI (Qa+1)/\R3 (Qa+1))) (K (-1:Int))) (0:Int)
abbrev q2b:Type:=List (Col)->Int->(List (Int)->Prop)->Prop
def q2c:q2b:=fun l now K=>((0:Int)<=(10000:Int)/\(10000:Int)<=(10000:Int)/\Sml (Int.toNat (10000:Int)))/\Lp2 (fun Qa Qy q36=>Fits Qy->CAt Qy Qa (fun _=>InI (Qa+1)/\q36 (Qa+1) (Qy.set Qa.toNat now)) (Lp2 (fun Qf Zs q7c=>Fits l->CAt l Qf (fun y4=>Lp2 (fun Zq z2l y4z=>At l Qf fun y7=>Cnd (Zq<Min.min y7.2 (10000:Int)) (At z2l Zq fun y9=>At l Qf fun y11=>At z2l Zq fun _=>InI (Zq+1)/\y4z (Zq+1) (z2l.set Zq.toNat (Max.max y9 y11.3))) (InI (Qf+1)/\q7c (Qf+1) z2l)) (Max.max y4.1 (0:Int)) Zs) (K Zs)) (0:Int) Qy)) (0:Int) (List.replicate (Int.toNat (10000:Int)) (0:Int))
abbrev Wp:Type:=List (Bool)->(List (Spn)->Prop)->Prop
def Ri:Wp:=fun set_ K=>Lp2 (fun Qa Qy q36=>Fits set_->CAt set_ Qy (fun y2=>Cnd (y2=true) (Cnd ((0:Int)<Qy) (InI (Qy - 1)/\((0:Int)<=Qy - 1/\Qy - 1<(↑set_.length:Int))/\ ∀y4,set_[(Qy - 1).toNat]? =some y4->Cnd (y4=true) (Fits Qa->InI ((↑Qa.length:Int) - 1)/\InI (Qy+1)/\((0:Int)<=(↑Qa.length:Int) - 1/\(↑Qa.length:Int) - 1<(↑Qa.length:Int))/\ ∀y7,Qa[((↑Qa.length:Int) - 1).toNat]? =some y7->InI (Qy+1)/\q36 (Qa.set ((↑Qa.length:Int) - 1).toNat (Spn.mk y7.1 (Qy+1))) (Qy+1)) (InI (Qy+1)/\Sml (Qa++[Spn.mk Qy (Qy+1)]).length/\InI (Qy+1)/\q36 (Qa++[Spn.mk Qy (Qy+1)]) (Qy+1))) (InI (Qy+1)/\Sml (Qa++[Spn.mk Qy (Qy+1)]).length/\InI (Qy+1)/\q36 (Qa++[Spn.mk Qy (Qy+1)]) (Qy+1))) (InI (Qy+1)/\q36 Qa (Qy+1))) (K Qa)) [] (0:Int)
abbrev q85:Type:=List (Int)->Int->(List (Spn)->Prop)->Prop
def j1m(Q7:Wp):q85:=fun until_ now K=>Fits until_->((0:Int)<=(↑until_.length:Int)/\(↑until_.length:Int)<=(↑until_.length:Int)/\Sml (↑until_.length:Int).toNat)/\Lp2 (fun Qc Z6 z8x=>Fits until_->CAt until_ Qc (fun y3=>At Z6 Qc fun _=>InI (Qc+1)/\z8x (Qc+1) (Z6.set Qc.toNat (decide (now<y3)))) (Q7 Z6 fun Qi=>K Qi)) (0:Int) (List.replicate (↑until_.length:Int).toNat false)
def z36:q85:=j1m Ri
abbrev q0a:Type:=List (Spn)->(List (Bool)->Prop)->Prop
def q86:q0a:=fun l K=>((0:Int)<=(10000:Int)/\(10000:Int)<=(10000:Int)/\Sml (Int.toNat (10000:Int)))/\Lp2 (fun Qa Qy q36=>Fits l->CAt l Qa (fun y2=>Lp2 (fun Qe Js w9d=>At l Qa fun y5=>Cnd (Qe<Min.min y5.2 (10000:Int)) (At Js Qe fun _=>InI (Qe+1)/\w9d (Qe+1) (Js.set Qe.toNat true)) (InI (Qa+1)/\q36 (Qa+1) Js)) (Max.max y2.1 (0:Int)) Qy) (K Qy)) (0:Int) (List.replicate (Int.toNat (10000:Int)) false)
abbrev q87:Type:=List (Spn)->List (Spn)->(List (Spn)->Prop)->Prop
def j1n(Jd:q0a)(Q7:Wp):q87:=fun a b K=>Jd a fun Qa=>Jd b fun Qc=>Lp2 (fun Qf Zs q7c=>Fits Zs->CAt Zs Qf (fun y4=>Cnd (y4=true) (At Zs Qf fun _=>InI (Qf+1)/\q7c (Qf+1) (Zs.set Qf.toNat true)) (At Qc Qf fun y6=>At Zs Qf fun _=>InI (Qf+1)/\q7c (Qf+1) (Zs.set Qf.toNat y6))) (Q7 Zs fun Qe=>K Qe)) (0:Int) Qa
def z38:q87:=j1n q86 Ri
abbrev q88:Type:=Envt->ByteArray->ByteArray->Int->(List (Spn)->Prop)->Prop
def j1o(Q8:We)(q1p:q87)(R0:q2b)(q4y:q85):q88:=fun v layer but now K=>Q8 (Envt.mk (Sett.mk v.1.1 v.1.2 v.1.3) v.2 v.3 v.4 v.5 v.6) layer fun Qa=>Cnd (Qa<0) (K []) (Jn1 (fun Qc=>Lp2 (fun Qf Zs q7c=>Fits v.6->CAt v.6 Zs (fun y4=>Cnd (y4.2=layer) (Cnd (y4.1=but) (InI (Zs+1)/\q7c Qf (Zs+1)) (Cnd (y4.5=3) (InI (Zs+1)/\q7c Qf (Zs+1)) (q1p Qf y4.6 fun Zq=>InI (Zs+1)/\q7c Zq (Zs+1)))) (InI (Zs+1)/\q7c Qf (Zs+1))) (K Qf)) Qc (0:Int)) fun w0c=>At v.5 Qa fun y2=>At v.5 Qa fun y4=>(R0 y4.6 now fun Zq=>q4y Zq now fun Qv=>q1p [Spn.mk (0:Int) y2.4] Qv fun Wj=>w0c Wj)/\R0 y4.6 now fun Zq=>(q4y Zq now fun Qv=>q1p [Spn.mk (0:Int) y2.4] Qv fun Wj=>w0c Wj)/\q4y Zq now fun Qv=>q1p [Spn.mk (0:Int) y2.4] Qv fun Wj=>w0c Wj)
def z39:q88:=j1o V7 z38 q2c z36
abbrev q1a:Type:=List (Spn)->List (Spn)->(List (Spn)->Prop)->Prop
def j1p(Jd:q0a)(Q7:Wp):q1a:=fun a b K=>Jd a fun Qa=>Jd b fun Qc=>Lp2 (fun Qf Zs q7c=>Fits Zs->CAt Zs Qf (fun y4=>Cnd (y4=true) (At Qc Qf fun y6=>At Zs Qf fun _=>InI (Qf+1)/\q7c (Qf+1) (Zs.set Qf.toNat (match decide ((flC C.bool y6).1=true) with|true=>false|false=>true))) (At Zs Qf fun _=>InI (Qf+1)/\q7c (Qf+1) (Zs.set Qf.toNat false))) (Q7 Zs fun Qe=>K Qe)) (0:Int) Qa
def q89:q1a:=j1p q86 Ri
abbrev z2u:Type:=Envt->ByteArray->Int->(List (Spn)->Int->Prop)->Prop
def j6b(j0a:z9f)(Q8:We)(z5x:q88)(G7:q1a):z2u:=fun v layer now K=>j0a now fun Qa=>Cnd (Qa=true) (Q8 (Envt.mk (Sett.mk v.1.1 v.1.2 v.1.3) v.2 v.3 v.4 v.5 v.6) layer fun Qc=>Cnd (Qc<0) (K [] (11:Int)) (z5x (Envt.mk (Sett.mk v.1.1 v.1.2 v.1.3) v.2 v.3 v.4 v.5 v.6) layer (ByteArray.mk (Array.mk [])) now fun Qf=>G7 [Spn.mk (0:Int) (10000:Int)] Qf fun Qi=>K Qi (0:Int))) (K [] (3:Int))
def z9h:z2u:=j6b z9g V7 z39 q89
abbrev q9a:Type:=List (Spn)->Int->(List (Spn)->Prop)->Prop
def j1q(Jd:q0a)(Q7:Wp):q9a:=fun l n K=>Jd l fun Qa=>Lp3 (fun Qc Z6 z8v y4s=>Fits z8v->CAt z8v Z6 (fun y3=>Cnd (y3=true) (Cnd (Qc<=0) (At z8v Z6 fun _=>InI (Z6+1)/\y4s Qc (Z6+1) (z8v.set Z6.toNat false)) (At z8v Z6 fun y5=>Cnd (y5=true) (InI (Qc - 1)/\InI (Z6+1)/\y4s (Qc - 1) (Z6+1) z8v) (InI (Z6+1)/\y4s Qc (Z6+1) z8v))) (At z8v Z6 fun y5=>Cnd (y5=true) (InI (Qc - 1)/\InI (Z6+1)/\y4s (Qc - 1) (Z6+1) z8v) (InI (Z6+1)/\y4s Qc (Z6+1) z8v))) (Q7 z8v fun Qi=>K Qi)) n (0:Int) Qa
def z4a:q9a:=j1q q86 Ri
abbrev V8:Type:=ByteArray->(Bool->Prop)->Prop
def V9(s:ByteArray)(K:Bool->Prop):Prop:=s.size<=(9223372036854775807:Nat)/\K (Go.Lib.validD s.data.toList)
abbrev Jr:Type:=ByteArray->(Bool->Prop)->Prop
def z9i(Z0:V8):Jr:=fun s K=>Cnd ((200:Int)<(↑s.size:Int)) (K false) (Z0 s fun Qa=>Cnd (Qa=true) (Lp1 (fun Qc Bp=>Cnd (Qc<(↑s.size:Int)) (((0:Int)<=Qc/\Qc<(↑s.size:Int))/\ ∀b2,s[Qc.toNat]? =some b2->Cnd ((↑b2.toNat:Int)<32) (K false) (((0:Int)<=Qc/\Qc<(↑s.size:Int))/\ ∀b4,s[Qc.toNat]? =some b4->Cnd ((↑b4.toNat:Int)=127) (K false) (InI (Qc+1)/\Bp (Qc+1)))) (K true)) (0:Int)) (K false))
def V1:Jr:=z9i V9
abbrev j3x:Type:=ByteArray->(Bool->Prop)->Prop
def j3y:j3x:=fun s K=>Lp1 (fun Qa R3=>Cnd (Qa<(↑s.size:Int)) (((0:Int)<=Qa/\Qa<(↑s.size:Int))/\ ∀b1,s[Qa.toNat]? =some b1->Cnd ((97:Int)<=(↑b1.toNat:Int)) (Cnd ((↑b1.toNat:Int)<=122) (InI (Qa+1)/\R3 (Qa+1)) (Cnd (Qa=0) (K false) (Cnd ((48:Int)<=(↑b1.toNat:Int)) (Cnd ((↑b1.toNat:Int)<=57) (InI (Qa+1)/\R3 (Qa+1)) (Cnd ((↑b1.toNat:Int)=45) (InI (Qa+1)/\R3 (Qa+1)) (Cnd ((↑b1.toNat:Int)=95) (InI (Qa+1)/\R3 (Qa+1)) (K false)))) (Cnd ((↑b1.toNat:Int)=45) (InI (Qa+1)/\R3 (Qa+1)) (Cnd ((↑b1.toNat:Int)=95) (InI (Qa+1)/\R3 (Qa+1)) (K false)))))) (Cnd (Qa=0) (K false) (Cnd ((48:Int)<=(↑b1.toNat:Int)) (Cnd ((↑b1.toNat:Int)<=57) (InI (Qa+1)/\R3 (Qa+1)) (Cnd ((↑b1.toNat:Int)=45) (InI (Qa+1)/\R3 (Qa+1)) (Cnd ((↑b1.toNat:Int)=95) (InI (Qa+1)/\R3 (Qa+1)) (K false)))) (Cnd ((↑b1.toNat:Int)=45) (InI (Qa+1)/\R3 (Qa+1)) (Cnd ((↑b1.toNat:Int)=95) (InI (Qa+1)/\R3 (Qa+1)) (K false)))))) (K (decide ((0:Int)<(↑s.size:Int))))) (0:Int)
abbrev q7i:Type:=(List (ByteArray)->Prop)->Prop
def q7j:q7i:=fun K=>K [ByteArray.mk (Array.mk [97,110,100]),ByteArray.mk (Array.mk [97,114,109,115]),ByteArray.mk (Array.mk [97,116,116,114,105,98,117,116,101]),ByteArray.mk (Array.mk [98,111,111,108]),ByteArray.mk (Array.mk [99,108,97,105,109,115]),ByteArray.mk (Array.mk [99,111,110,116,97,105,110,115]),ByteArray.mk (Array.mk [99,111,111,108]),ByteArray.mk (Array.mk [99,111,111,108,105,110,103]),ByteArray.mk (Array.mk [100,101,102,97,117,108,116]),ByteArray.mk (Array.mk [100,114,97,102,116]),ByteArray.mk (Array.mk [101,110,100,115]),ByteArray.mk (Array.mk [101,120,99,108,117,100,101]),ByteArray.mk (Array.mk [101,120,105,115,116,115]),ByteArray.mk (Array.mk [101,120,112,101,114,105,109,101,110,116]),ByteArray.mk (Array.mk [102,97,108,115,101]),ByteArray.mk (Array.mk [102,108,97,103]),ByteArray.mk (Array.mk [104,111,108,100,111,117,116]),ByteArray.mk (Array.mk [105,110]),ByteArray.mk (Array.mk [105,110,99,108,117,100,101]),ByteArray.mk (Array.mk [105,115]),ByteArray.mk (Array.mk [108,97,121,101,114]),ByteArray.mk (Array.mk [108,105,115,116]),ByteArray.mk (Array.mk [109,101,109,98,101,114]),ByteArray.mk (Array.mk [110,101,101,100,115]),ByteArray.mk (Array.mk [110,111,116]),ByteArray.mk (Array.mk [110,117,109,98,101,114]),ByteArray.mk (Array.mk [111,102,102]),ByteArray.mk (Array.mk [111,110]),ByteArray.mk (Array.mk [111,114]),ByteArray.mk (Array.mk [114,117,108,101]),ByteArray.mk (Array.mk [114,117,110,110,105,110,103]),ByteArray.mk (Array.mk [115,97,108,116]),ByteArray.mk (Array.mk [115,101,103,109,101,110,116]),ByteArray.mk (Array.mk [115,101,114,118,101]),ByteArray.mk (Array.mk [115,101,116,116,105,110,103,115]),ByteArray.mk (Array.mk [115,112,108,105,116]),ByteArray.mk (Array.mk [115,116,97,114,116,115]),ByteArray.mk (Array.mk [115,116,111,112,112,101,100]),ByteArray.mk (Array.mk [116,97,114,103,101,116]),ByteArray.mk (Array.mk [116,101,120,116]),ByteArray.mk (Array.mk [116,111]),ByteArray.mk (Array.mk [116,114,117,101]),ByteArray.mk (Array.mk [117,110,116,105,108]),ByteArray.mk (Array.mk [118,97,114,105,97,116,105,111,110,115]),ByteArray.mk (Array.mk [118,101,114,115,105,111,110]),ByteArray.mk (Array.mk [119,104,101,110])]
abbrev Jl:Type:=ByteArray->(Bool->Prop)->Prop
def w7e(j5j:j3x)(q77:q7i):Jl:=fun s K=>j5j s fun Qa=>Cnd (Qa=true) (Cnd ((32:Int)<(↑s.size:Int)) (K false) (q77 fun Qc=>Lp1 (fun Qf j21=>Fits Qc->CAt Qc Qf (fun y4=>Cnd (y4=s) (K false) (InI (Qf+1)/\j21 (Qf+1))) (K true)) (0:Int))) (K false)
def H1:Jl:=w7e j3y q7j
abbrev q2d:Type:=Sett->(Int->Prop)->Prop
def z4b(Qt:Jr)(Qm:Jl):q2d:=fun s K=>Qt s.1 fun Qa=>Cnd (Qa=true) (Cnd (s.3<0) (K (3:Int)) (Cnd ((10000:Int)<s.3) (K (3:Int)) (Qm s.2 fun Qc=>Cnd (Qc=true) (K (0:Int)) (Cnd (s.2=ByteArray.mk (Array.mk [])) (Cnd (s.3=0) (K (0:Int)) (K (6:Int))) (K (6:Int)))))) (K (2:Int))
def q7k:q2d:=z4b V1 H1
abbrev q2e:Type:=List (Decl)->(Int->Prop)->Prop
def z4c(Qm:Jl):q2e:=fun l K=>Fits l->Cnd ((30:Int)<(↑l.length:Int)) (K (5:Int)) (Lp1 (fun Qc Bp=>Fits l->CAt l Qc (fun y3=>Qm y3.1 fun Ql=>Cnd (Ql=true) (At l Qc fun y6=>Qm y6.2 fun Wj=>Cnd (Wj=true) (At l Qc fun y9=>Cnd (y9.2=ByteArray.mk (Array.mk [107,101,121])) (K (6:Int)) (At l Qc fun y11=>Cnd (y11.3<1) (K (7:Int)) (At l Qc fun y13=>Cnd ((5:Int)<y13.3) (K (7:Int)) (Cnd ((0:Int)<Qc) (At l Qc fun y15=>InI (Qc - 1)/\((0:Int)<=Qc - 1/\Qc - 1<(↑l.length:Int))/\ ∀y17,l[(Qc - 1).toNat]? =some y17->Cnd (Lk.blt y15.1 y17.1) (K (9:Int)) (At l Qc fun y19=>InI (Qc - 1)/\((0:Int)<=Qc - 1/\Qc - 1<(↑l.length:Int))/\ ∀y21,l[(Qc - 1).toNat]? =some y21->Cnd (y19.1=y21.1) (At l Qc fun y23=>InI (Qc - 1)/\((0:Int)<=Qc - 1/\Qc - 1<(↑l.length:Int))/\ ∀y25,l[(Qc - 1).toNat]? =some y25->Cnd (Lk.blt y25.2 y23.2) (InI (Qc+1)/\Bp (Qc+1)) (K (9:Int))) (InI (Qc+1)/\Bp (Qc+1)))) (InI (Qc+1)/\Bp (Qc+1)))))) (K (6:Int))) (K (6:Int))) (K (0:Int))) (0:Int))
def q7l:q2e:=z4c H1
abbrev Rj:Type:=List (ByteArray)->(Int->Prop)->Prop
def z69(Qt:Jr):Rj:=fun l K=>Fits l->Cnd ((40:Int)<(↑l.length:Int)) (K (5:Int)) (Lp1 (fun Qc Bp=>Fits l->CAt l Qc (fun y3=>Cnd (y3=ByteArray.mk (Array.mk [])) (K (2:Int)) (At l Qc fun y5=>Qt y5 fun Qv=>Cnd (Qv=true) (Cnd ((0:Int)<Qc) (At l Qc fun y8=>InI (Qc - 1)/\((0:Int)<=Qc - 1/\Qc - 1<(↑l.length:Int))/\ ∀y10,l[(Qc - 1).toNat]? =some y10->Cnd (Lk.blt y10 y8) (InI (Qc+1)/\Bp (Qc+1)) (K (9:Int))) (InI (Qc+1)/\Bp (Qc+1))) (K (2:Int)))) (K (0:Int))) (0:Int))
def q5z:Rj:=z69 V1
abbrev j3z:Type:=Ex->(Bool->Prop)->Prop
def j30:j3z:=fun e K=>Cnd (e.1=0) (Cnd (e.2=ByteArray.mk (Array.mk [])) (Cnd (e.3=ByteArray.mk (Array.mk [])) (Fits e.4->Cnd ((↑e.4.length:Int)=0) (Fits e.5->K (decide ((↑e.5.length:Int)=0))) (K false)) (K false)) (K false)) (K false)
abbrev q9b:Type:=Ex->(Bool->Prop)->Prop
def j1r(Qx:Wn):q9b:=fun e K=>Fits e.5->Fits e.4->Jn2 (fun Qf Zs=>Qx e.1 fun Qi=>Cnd (Qf=true) (Cnd (Zs=true) (Cnd (Qi=true) (Cnd (Qi=true) (K true) (Cnd (e.1=5) (K true) (K (decide (e.3=ByteArray.mk (Array.mk [])))))) (Cnd (e.2=ByteArray.mk (Array.mk [])) (Cnd (Qi=true) (K true) (Cnd (e.1=5) (K true) (K (decide (e.3=ByteArray.mk (Array.mk [])))))) (K false))) (K false)) (K false)) fun v2s=>Cnd (e.1=2) (Fits e.5->v2s (decide ((2:Int)<=(↑e.5.length:Int))) (decide ((↑e.4.length:Int)=0))) (Cnd (e.1=3) (Fits e.5->v2s (decide ((2:Int)<=(↑e.5.length:Int))) (decide ((↑e.4.length:Int)=0))) (Cnd (e.1=4) (Fits e.5->v2s (decide ((↑e.5.length:Int)=1)) (decide ((↑e.4.length:Int)=0))) (Cnd (e.1=8) (Fits e.4->v2s (decide ((↑e.5.length:Int)=0)) (decide ((0:Int)<(↑e.4.length:Int)))) (Qx e.1 fun Qi=>Cnd (Qi=true) (Cnd (e.1=6) (v2s (decide ((↑e.5.length:Int)=0)) (decide ((↑e.4.length:Int)=0))) (Fits e.4->v2s (decide ((↑e.5.length:Int)=0)) (decide ((↑e.4.length:Int)=1)))) (v2s (decide ((↑e.5.length:Int)=0)) (decide ((↑e.4.length:Int)=0)))))))
def z4d:q9b:=j1r J5
abbrev z9j:Type:=Val->(Bool->Prop)->Prop
def q8n:z9j:=fun v K=>Cnd (v.1=1) (Cnd (v.1=3) (Cnd (v.1=5) (K true) (Fits v.4->K (decide ((↑v.4.length:Int)=0)))) (Cnd (v.1=4) (Cnd (v.1=5) (K true) (Fits v.4->K (decide ((↑v.4.length:Int)=0)))) (Cnd (v.3=ByteArray.mk (Array.mk [])) (Cnd (v.1=5) (K true) (Fits v.4->K (decide ((↑v.4.length:Int)=0)))) (K false)))) (Cnd (v.1=3) (Cnd (v.1=2) (Cnd (v.1=5) (K true) (Fits v.4->K (decide ((↑v.4.length:Int)=0)))) (Cnd (v.2=0) (Cnd (v.1=5) (K true) (Fits v.4->K (decide ((↑v.4.length:Int)=0)))) (K false))) (Cnd (v.1=2) (Cnd (v.1=4) (Cnd (v.1=5) (K true) (Fits v.4->K (decide ((↑v.4.length:Int)=0)))) (Cnd (v.3=ByteArray.mk (Array.mk [])) (Cnd (v.1=5) (K true) (Fits v.4->K (decide ((↑v.4.length:Int)=0)))) (K false))) (Cnd (v.2=0) (Cnd (v.1=4) (Cnd (v.1=5) (K true) (Fits v.4->K (decide ((↑v.4.length:Int)=0)))) (Cnd (v.3=ByteArray.mk (Array.mk [])) (Cnd (v.1=5) (K true) (Fits v.4->K (decide ((↑v.4.length:Int)=0)))) (K false))) (K false))))
abbrev q0r:Type:=ByteArray->(Int->Int->Prop)->Prop
def Wq:q0r:=fun s K=>Jn1 (fun Qa=>Lp1 (fun Qc Bp=>Cnd (Qc<(↑Qa.size:Int)) (((0:Int)<=Qc/\Qc<(↑Qa.size:Int))/\ ∀b2,Qa[Qc.toNat]? =some b2->Cnd ((↑b2.toNat:Int)<48) (K (0:Int) (1:Int)) (((0:Int)<=Qc/\Qc<(↑Qa.size:Int))/\ ∀b4,Qa[Qc.toNat]? =some b4->Cnd ((57:Int)<(↑b4.toNat:Int)) (K (0:Int) (1:Int)) (InI (Qc+1)/\Bp (Qc+1)))) (Cnd (Qa=ByteArray.mk (Array.mk [])) (K (0:Int) (1:Int)) (((0:Int)<=(0:Int)/\(0:Int)<(↑Qa.size:Int))/\ ∀b2,Qa[Int.toNat (0:Int)]? =some b2->Cnd ((↑b2.toNat:Int)=48) (Cnd (s=ByteArray.mk (Array.mk [48])) (Cnd ((13:Int)<(↑Qa.size:Int)) (K (0:Int) (3:Int)) (Lp2 (fun Qe Js w9d=>Cnd (Js<(↑Qa.size:Int)) (InI ((10:Int)*Qe)/\((0:Int)<=Js/\Js<(↑Qa.size:Int))/\ ∀b5,Qa[Js.toNat]? =some b5->InI (Go.IntKind.u8.wrap ((↑b5.toNat:Int) - 48))/\InI ((10:Int)*Qe+Go.IntKind.u8.wrap ((↑b5.toNat:Int) - 48))/\InI (Js+1)/\w9d ((10:Int)*Qe+Go.IntKind.u8.wrap ((↑b5.toNat:Int) - 48)) (Js+1)) (Cnd ((1099511627776:Int)<Qe) (K (0:Int) (3:Int)) (Cnd ((↑Qa.size:Int)<(↑s.size:Int)) (InI ((0:Int) - Qe)/\K ((0:Int) - Qe) (0:Int)) (K Qe (0:Int))))) (0:Int) (0:Int))) (K (0:Int) (1:Int))) (Cnd ((13:Int)<(↑Qa.size:Int)) (K (0:Int) (3:Int)) (Lp2 (fun Qe Js w9d=>Cnd (Js<(↑Qa.size:Int)) (InI ((10:Int)*Qe)/\((0:Int)<=Js/\Js<(↑Qa.size:Int))/\ ∀b5,Qa[Js.toNat]? =some b5->InI (Go.IntKind.u8.wrap ((↑b5.toNat:Int) - 48))/\InI ((10:Int)*Qe+Go.IntKind.u8.wrap ((↑b5.toNat:Int) - 48))/\InI (Js+1)/\w9d ((10:Int)*Qe+Go.IntKind.u8.wrap ((↑b5.toNat:Int) - 48)) (Js+1)) (Cnd ((1099511627776:Int)<Qe) (K (0:Int) (3:Int)) (Cnd ((↑Qa.size:Int)<(↑s.size:Int)) (InI ((0:Int) - Qe)/\K ((0:Int) - Qe) (0:Int)) (K Qe (0:Int))))) (0:Int) (0:Int)))))) (0:Int)) fun q5i=>Cnd ((0:Int)<(↑s.size:Int)) (((0:Int)<=(0:Int)/\(0:Int)<(↑s.size:Int))/\ ∀b1,s[Int.toNat (0:Int)]? =some b1->Cnd ((↑b1.toNat:Int)=45) (((0:Int)<=(1:Int)/\(1:Int)<=(↑s.size:Int)/\(↑s.size:Int)<=(↑s.size:Int))/\q5i (s.extract (Int.toNat (1:Int)) (↑s.size:Int).toNat)) (q5i s)) (q5i s)
abbrev q39:Type:=ByteArray->(A3->Bool->Prop)->Prop
def z9k(Hs:q0r):q39:=fun s K=>LpH (fun (Qa:Int×Int×Int×Int×Int×Int×Int×Int×Unit) R3=>Cnd (Qa.2.1<3) (Lp1 (fun Qc Bp=>Cnd (Qc<(↑s.size:Int)) (((0:Int)<=Qc/\Qc<(↑s.size:Int))/\ ∀b2,s[Qc.toNat]? =some b2->Cnd ((↑b2.toNat:Int)=46) (((0:Int)<=Qa.1/\Qa.1<=Qc/\Qc<=(↑s.size:Int))/\Hs (s.extract Qa.1.toNat Qc.toNat) fun Qe Js=>Cnd (Js=0) (Cnd (Qe<0) (K ((0:Int),(0:Int),(0:Int)) false) (Cnd ((999999:Int)<Qe) (K ((0:Int),(0:Int),(0:Int)) false) (Cnd (decide (Qa.2.1<2)=decide (Qc<(↑s.size:Int))) (((0:Int)<=Qa.2.1/\Qa.2.1<(↑(3:Nat):Int))/\((True/\(Qa.2.1=(↑(nat_lit 0):Int)->InI (Qc+1)/\InI (Qa.2.1+1)/\R3 (Qc+1,Qa.2.1+1,Qe,Qa.2.2.2.1,Qa.2.2.2.2.1,Qa.2.2.2.2.2.1,Qa.2.2.2.2.2.2.1,Qa.2.2.2.2.2.2.2.1,())))/\(Qa.2.1=(↑(nat_lit 1):Int)->InI (Qc+1)/\InI (Qa.2.1+1)/\R3 (Qc+1,Qa.2.1+1,Qa.2.2.1,Qe,Qa.2.2.2.2.1,Qa.2.2.2.2.2.1,Qa.2.2.2.2.2.2.1,Qa.2.2.2.2.2.2.2.1,())))/\(Qa.2.1=(↑(nat_lit 2):Int)->InI (Qc+1)/\InI (Qa.2.1+1)/\R3 (Qc+1,Qa.2.1+1,Qa.2.2.1,Qa.2.2.2.1,Qe,Qa.2.2.2.2.2.1,Qa.2.2.2.2.2.2.1,Qa.2.2.2.2.2.2.2.1,()))) (K ((0:Int),(0:Int),(0:Int)) false)))) (K ((0:Int),(0:Int),(0:Int)) false)) (InI (Qc+1)/\Bp (Qc+1))) (((0:Int)<=Qa.1/\Qa.1<=Qc/\Qc<=(↑s.size:Int))/\Hs (s.extract Qa.1.toNat Qc.toNat) fun Qf Zs=>Cnd (Zs=0) (Cnd (Qf<0) (K ((0:Int),(0:Int),(0:Int)) false) (Cnd ((999999:Int)<Qf) (K ((0:Int),(0:Int),(0:Int)) false) (Cnd (decide (Qa.2.1<2)=decide (Qc<(↑s.size:Int))) (((0:Int)<=Qa.2.1/\Qa.2.1<(↑(3:Nat):Int))/\((True/\(Qa.2.1=(↑(nat_lit 0):Int)->InI (Qc+1)/\InI (Qa.2.1+1)/\R3 (Qc+1,Qa.2.1+1,Qf,Qa.2.2.2.1,Qa.2.2.2.2.1,Qa.2.2.2.2.2.1,Qa.2.2.2.2.2.2.1,Qa.2.2.2.2.2.2.2.1,())))/\(Qa.2.1=(↑(nat_lit 1):Int)->InI (Qc+1)/\InI (Qa.2.1+1)/\R3 (Qc+1,Qa.2.1+1,Qa.2.2.1,Qf,Qa.2.2.2.2.1,Qa.2.2.2.2.2.1,Qa.2.2.2.2.2.2.1,Qa.2.2.2.2.2.2.2.1,())))/\(Qa.2.1=(↑(nat_lit 2):Int)->InI (Qc+1)/\InI (Qa.2.1+1)/\R3 (Qc+1,Qa.2.1+1,Qa.2.2.1,Qa.2.2.2.1,Qf,Qa.2.2.2.2.2.1,Qa.2.2.2.2.2.2.1,Qa.2.2.2.2.2.2.2.1,()))) (K ((0:Int),(0:Int),(0:Int)) false)))) (K ((0:Int),(0:Int),(0:Int)) false))) Qa.1) (K (Qa.2.2.1,Qa.2.2.2.1,Qa.2.2.2.2.1) true)) ((0:Int),(0:Int),(0:Int),(0:Int),(0:Int),(0:Int),(0:Int),(0:Int),())
def q4a:q39:=z9k Wq
abbrev z7a:Type:=List (ByteArray)->(Int->Prop)->Prop
def j31(Qt:Jr):z7a:=fun l K=>Fits l->Cnd ((20:Int)<(↑l.length:Int)) (K (5:Int)) (Lp1 (fun Qc Bp=>Fits l->CAt l Qc (fun y3=>Qt y3 fun Ql=>Cnd (Ql=true) (InI (Qc+1)/\Bp (Qc+1)) (K (2:Int))) (Lp1 (fun Qi j23=>Fits l->CAt l Qi (fun y5=>InI (Qi - 1)/\((0:Int)<=Qi - 1/\Qi - 1<(↑l.length:Int))/\ ∀y7,l[(Qi - 1).toNat]? =some y7->Cnd (Lk.blt y7 y5) (InI (Qi+1)/\j23 (Qi+1)) (K (9:Int))) (K (0:Int))) (1:Int))) (0:Int))
def z2v:z7a:=j31 V1
abbrev Ba:Type:=Val->(Int->Prop)->Prop
def z9l(j0b:z9j)(Qt:Jr)(Hz:q39)(j5k:z7a):Ba:=fun v K=>Cnd (v.1<1) (K (7:Int)) (Cnd ((5:Int)<v.1) (K (7:Int)) (j0b v fun Qa=>Cnd (Qa=true) (Cnd (v.1=1) (Cnd (v.2=0) (K (0:Int)) (Cnd (v.2=1) (K (0:Int)) (K (3:Int)))) (Cnd (v.1=2) (Cnd (v.2<(-1099511627776:Int)) (K (3:Int)) (Cnd ((1099511627776:Int)<v.2) (K (3:Int)) (K (0:Int)))) (Cnd (v.1=3) (Qt v.3 fun Qc=>Cnd (Qc=true) (K (0:Int)) (K (2:Int))) (Cnd (v.1=4) (Hz v.3 fun (_:Int×Int×Int) Z6=>Cnd (Z6=true) (K (0:Int)) (K (1:Int))) (Cnd (v.1=5) (j5k v.4 fun Qc=>K Qc) (K (0:Int))))))) (K (15:Int))))
def q1t:Ba:=z9l q8n V1 q4a z2v
abbrev z7b:Type:=Ex->(Int->Prop)->Prop
def w1d(z5y:q9b)(Qx:Wn)(Qm:Jl)(Z3:Ba):z7b:=fun e K=>Cnd (e.1<1) (K (7:Int)) (Cnd ((15:Int)<e.1) (K (7:Int)) (z5y (Ex.mk e.1 e.2 e.3 e.4 e.5) fun Qa=>Cnd (Qa=true) (Fits e.5->Cnd ((12:Int)<(↑e.5.length:Int)) (K (5:Int)) (Fits e.4->Cnd ((20:Int)<(↑e.4.length:Int)) (K (5:Int)) (Lp1 (fun Qi j23=>Fits e.5->CAt e.5 Qi (fun y5=>Cnd (y5.1=e.1) (Cnd (e.1=4) (InI (Qi+1)/\j23 (Qi+1)) (K (15:Int))) (InI (Qi+1)/\j23 (Qi+1))) (Qx e.1 fun Ql=>Cnd (Ql=true) (Qm e.2 fun Zq=>Cnd (Zq=true) (Qx e.1 fun Qv=>Cnd (Qv=true) (Qm e.3 fun Wj=>Cnd (Wj=true) (Lp1 (fun Qq u1s=>Fits e.4->CAt e.4 Qq (fun y11=>Z3 y11 fun Zd=>Cnd (Zd=0) (InI (Qq+1)/\u1s (Qq+1)) (K Zd)) (Cnd (e.1=9) (((0:Int)<=(0:Int)/\(0:Int)<(↑e.4.length:Int))/\ ∀y11,e.4[Int.toNat (0:Int)]? =some y11->Cnd (y11.1=3) (K (0:Int)) (K (8:Int))) (Cnd (e.1=10) (((0:Int)<=(0:Int)/\(0:Int)<(↑e.4.length:Int))/\ ∀y11,e.4[Int.toNat (0:Int)]? =some y11->Cnd (y11.1=3) (K (0:Int)) (K (8:Int))) (Cnd (e.1=11) (((0:Int)<=(0:Int)/\(0:Int)<(↑e.4.length:Int))/\ ∀y11,e.4[Int.toNat (0:Int)]? =some y11->Cnd (y11.1=3) (K (0:Int)) (K (8:Int))) (K (0:Int)))))) (0:Int)) (K (6:Int))) (Cnd (e.1=5) (Qm e.3 fun Wj=>Cnd (Wj=true) (Lp1 (fun Qq u1s=>Fits e.4->CAt e.4 Qq (fun y11=>Z3 y11 fun Zd=>Cnd (Zd=0) (InI (Qq+1)/\u1s (Qq+1)) (K Zd)) (Cnd (e.1=9) (((0:Int)<=(0:Int)/\(0:Int)<(↑e.4.length:Int))/\ ∀y11,e.4[Int.toNat (0:Int)]? =some y11->Cnd (y11.1=3) (K (0:Int)) (K (8:Int))) (Cnd (e.1=10) (((0:Int)<=(0:Int)/\(0:Int)<(↑e.4.length:Int))/\ ∀y11,e.4[Int.toNat (0:Int)]? =some y11->Cnd (y11.1=3) (K (0:Int)) (K (8:Int))) (Cnd (e.1=11) (((0:Int)<=(0:Int)/\(0:Int)<(↑e.4.length:Int))/\ ∀y11,e.4[Int.toNat (0:Int)]? =some y11->Cnd (y11.1=3) (K (0:Int)) (K (8:Int))) (K (0:Int)))))) (0:Int)) (K (6:Int))) (Lp1 (fun Wj u31=>Fits e.4->CAt e.4 Wj (fun y10=>Z3 y10 fun Vv=>Cnd (Vv=0) (InI (Wj+1)/\u31 (Wj+1)) (K Vv)) (Cnd (e.1=9) (((0:Int)<=(0:Int)/\(0:Int)<(↑e.4.length:Int))/\ ∀y10,e.4[Int.toNat (0:Int)]? =some y10->Cnd (y10.1=3) (K (0:Int)) (K (8:Int))) (Cnd (e.1=10) (((0:Int)<=(0:Int)/\(0:Int)<(↑e.4.length:Int))/\ ∀y10,e.4[Int.toNat (0:Int)]? =some y10->Cnd (y10.1=3) (K (0:Int)) (K (8:Int))) (Cnd (e.1=11) (((0:Int)<=(0:Int)/\(0:Int)<(↑e.4.length:Int))/\ ∀y10,e.4[Int.toNat (0:Int)]? =some y10->Cnd (y10.1=3) (K (0:Int)) (K (8:Int))) (K (0:Int)))))) (0:Int)))) (K (6:Int))) (Qx e.1 fun Zq=>Cnd (Zq=true) (Qm e.3 fun Qv=>Cnd (Qv=true) (Lp1 (fun Wj u31=>Fits e.4->CAt e.4 Wj (fun y10=>Z3 y10 fun Vv=>Cnd (Vv=0) (InI (Wj+1)/\u31 (Wj+1)) (K Vv)) (Cnd (e.1=9) (((0:Int)<=(0:Int)/\(0:Int)<(↑e.4.length:Int))/\ ∀y10,e.4[Int.toNat (0:Int)]? =some y10->Cnd (y10.1=3) (K (0:Int)) (K (8:Int))) (Cnd (e.1=10) (((0:Int)<=(0:Int)/\(0:Int)<(↑e.4.length:Int))/\ ∀y10,e.4[Int.toNat (0:Int)]? =some y10->Cnd (y10.1=3) (K (0:Int)) (K (8:Int))) (Cnd (e.1=11) (((0:Int)<=(0:Int)/\(0:Int)<(↑e.4.length:Int))/\ ∀y10,e.4[Int.toNat (0:Int)]? =some y10->Cnd (y10.1=3) (K (0:Int)) (K (8:Int))) (K (0:Int)))))) (0:Int)) (K (6:Int))) (Cnd (e.1=5) (Qm e.3 fun Qv=>Cnd (Qv=true) (Lp1 (fun Wj u31=>Fits e.4->CAt e.4 Wj (fun y10=>Z3 y10 fun Vv=>Cnd (Vv=0) (InI (Wj+1)/\u31 (Wj+1)) (K Vv)) (Cnd (e.1=9) (((0:Int)<=(0:Int)/\(0:Int)<(↑e.4.length:Int))/\ ∀y10,e.4[Int.toNat (0:Int)]? =some y10->Cnd (y10.1=3) (K (0:Int)) (K (8:Int))) (Cnd (e.1=10) (((0:Int)<=(0:Int)/\(0:Int)<(↑e.4.length:Int))/\ ∀y10,e.4[Int.toNat (0:Int)]? =some y10->Cnd (y10.1=3) (K (0:Int)) (K (8:Int))) (Cnd (e.1=11) (((0:Int)<=(0:Int)/\(0:Int)<(↑e.4.length:Int))/\ ∀y10,e.4[Int.toNat (0:Int)]? =some y10->Cnd (y10.1=3) (K (0:Int)) (K (8:Int))) (K (0:Int)))))) (0:Int)) (K (6:Int))) (Lp1 (fun Qv v2q=>Fits e.4->CAt e.4 Qv (fun y9=>Z3 y9 fun Wx=>Cnd (Wx=0) (InI (Qv+1)/\v2q (Qv+1)) (K Wx)) (Cnd (e.1=9) (((0:Int)<=(0:Int)/\(0:Int)<(↑e.4.length:Int))/\ ∀y9,e.4[Int.toNat (0:Int)]? =some y9->Cnd (y9.1=3) (K (0:Int)) (K (8:Int))) (Cnd (e.1=10) (((0:Int)<=(0:Int)/\(0:Int)<(↑e.4.length:Int))/\ ∀y9,e.4[Int.toNat (0:Int)]? =some y9->Cnd (y9.1=3) (K (0:Int)) (K (8:Int))) (Cnd (e.1=11) (((0:Int)<=(0:Int)/\(0:Int)<(↑e.4.length:Int))/\ ∀y9,e.4[Int.toNat (0:Int)]? =some y9->Cnd (y9.1=3) (K (0:Int)) (K (8:Int))) (K (0:Int)))))) (0:Int)))))) (0:Int)))) (K (15:Int))))
def z2w:z7b:=w1d z4d J5 H1 q1t
abbrev q50:Type:=Ex->Int->Int->(Int->Int->Prop)->Prop
def w1e(j5l:z7b)(X:q50):q50:=fun e depth n K=>Cnd ((60:Int)<=n) (K (5:Int) n) (InI (n+1)/\Cnd ((10:Int)<depth) (K (18:Int) (n+1)) (j5l (Ex.mk e.1 e.2 e.3 e.4 e.5) fun Qa=>Cnd (Qa=0) (Lp2 (fun Qc Z6 z8x=>Fits e.5->CAt e.5 Qc (fun y3=>InI (depth+1)/\X (Ex.mk y3.1 y3.2 y3.3 y3.4 y3.5) (depth+1) Z6 fun Ql q7d=>Cnd (Ql=0) (InI (Qc+1)/\z8x (Qc+1) q7d) (K Ql q7d)) (K (0:Int) Z6)) (0:Int) (n+1)) (K Qa (n+1))))
def j32:q50:=fun e depth n K=> ∀X:q50,(∀e depth n K,w1e z2w X e depth n K->X e depth n K)->X e depth n K
abbrev q2f:Type:=Ex->(Int->Prop)->Prop
def w1f(j5m:q50):q2f:=fun e K=>j5m (Ex.mk e.1 e.2 e.3 e.4 e.5) (1:Int) (0:Int) fun Qa _=>K Qa
def z2x:q2f:=w1f j32
abbrev q51:Type:=Seg->(Int->Prop)->Prop
def z7c(Qm:Jl)(Vh:Rj)(j5n:j3z)(Ug:q2f):q51:=fun g K=>Qm g.1 fun Qa=>Cnd (Qa=true) (Qm g.2 fun Qc=>Cnd (Qc=true) (Vh g.3 fun Qf=>Cnd (Qf=0) (Vh g.4 fun Qi=>Cnd (Qi=0) (j5n (Ex.mk g.5.1 g.5.2 g.5.3 g.5.4 g.5.5) fun Qe=>Cnd (Qe=true) (K (0:Int)) (Ug (Ex.mk g.5.1 g.5.2 g.5.3 g.5.4 g.5.5) fun Ql=>K Ql)) (K Qi)) (K Qf)) (K (6:Int))) (K (6:Int))
def z0l:q51:=z7c H1 q5z j30 z2x
abbrev q2g:Type:=List (Seg)->(Int->Prop)->Prop
def z4e(z1f:q51):q2g:=fun l K=>Fits l->Cnd ((20:Int)<(↑l.length:Int)) (K (5:Int)) (Lp1 (fun Qc Bp=>Fits l->CAt l Qc (fun y3=>z1f (Seg.mk y3.1 y3.2 y3.3 y3.4 (Ex.mk y3.5.1 y3.5.2 y3.5.3 y3.5.4 y3.5.5)) fun Ql=>Cnd (Ql=0) (Cnd ((0:Int)<Qc) (At l Qc fun y6=>InI (Qc - 1)/\((0:Int)<=Qc - 1/\Qc - 1<(↑l.length:Int))/\ ∀y8,l[(Qc - 1).toNat]? =some y8->Cnd (Lk.blt y8.1 y6.1) (InI (Qc+1)/\Bp (Qc+1)) (K (9:Int))) (InI (Qc+1)/\Bp (Qc+1))) (K Ql)) (K (0:Int))) (0:Int))
def q7m:q2g:=z4e z0l
abbrev Rk:Type:=Flg->(Int->Prop)->Prop
def q9c(Z3:Ba):Rk:=fun f K=>Fits f.3->Cnd ((8:Int)<(↑f.3.length:Int)) (K (5:Int)) (Cnd ((↑f.3.length:Int)=0) (K (3:Int)) (Lp1 (fun Qc Bp=>CAt f.3 Qc (fun y2=>Z3 y2 fun Qe=>Cnd (Qe=0) (At f.3 Qc fun y5=>Cnd (y5.1=f.2) (InI (Qc+1)/\Bp (Qc+1)) (K (8:Int))) (K Qe)) (Cnd (f.5<1) (K (3:Int)) (Cnd ((↑f.3.length:Int)<f.5) (K (3:Int)) (K (0:Int))))) (0:Int)))
def q2h:Rk:=q9c q1t
abbrev Ua:Type:=List (Prq)->(Int->Prop)->Prop
def q2i(Qm:Jl):Ua:=fun l K=>Fits l->Cnd ((4:Int)<(↑l.length:Int)) (K (5:Int)) (Lp1 (fun Qc Bp=>Fits l->CAt l Qc (fun y3=>Qm y3.1 fun Ql=>Cnd (Ql=true) (Cnd ((0:Int)<Qc) (At l Qc fun y6=>InI (Qc - 1)/\((0:Int)<=Qc - 1/\Qc - 1<(↑l.length:Int))/\ ∀y8,l[(Qc - 1).toNat]? =some y8->Cnd (Lk.blt y8.1 y6.1) (At l Qc fun y10=>Cnd (y10.2<1) (K (3:Int)) (At l Qc fun y12=>Cnd ((8:Int)<y12.2) (K (3:Int)) (InI (Qc+1)/\Bp (Qc+1)))) (K (9:Int))) (At l Qc fun y6=>Cnd (y6.2<1) (K (3:Int)) (At l Qc fun y8=>Cnd ((8:Int)<y8.2) (K (3:Int)) (InI (Qc+1)/\Bp (Qc+1))))) (K (6:Int))) (K (0:Int))) (0:Int))
def H2:Ua:=q2i H1
abbrev q52:Type:=List (Tgt)->Int->(Int->Prop)->Prop
def z7d(Qm:Jl)(Vh:Rj):q52:=fun l n K=>Fits l->Cnd ((8:Int)<(↑l.length:Int)) (K (5:Int)) (Lp1 (fun Qc Bp=>Fits l->CAt l Qc (fun y3=>Qm y3.1 fun Ql=>Cnd (Ql=true) (At l Qc fun y6=>Cnd (y6.2<1) (K (3:Int)) (At l Qc fun y8=>Cnd (n<y8.2) (K (3:Int)) (At l Qc fun y10=>Fits y10.3->Cnd ((↑y10.3.length:Int)=0) (K (3:Int)) (At l Qc fun y13=>Vh y13.3 fun v2r=>Cnd (v2r=0) (InI (Qc+1)/\Bp (Qc+1)) (K v2r))))) (K (6:Int))) (K (0:Int))) (0:Int))
def z0m:q52:=z7d H1 q5z
abbrev q8o:Type:=List (Rng)->Int->(Int->Prop)->Prop
def z2y:q8o:=fun l variations K=>Fits l->Cnd ((16:Int)<(↑l.length:Int)) (K (5:Int)) (Lp2 (fun Qc Z6 z8x=>Fits l->CAt l Z6 (fun y3=>Cnd (y3.3<1) (K (3:Int)) (At l Z6 fun y5=>Cnd (variations<y5.3) (K (3:Int)) (At l Z6 fun y7=>Cnd (y7.1=Qc) (At l Z6 fun y9=>Cnd (y9.2<=Qc) (K (9:Int)) (Cnd ((0:Int)<Z6) (At l Z6 fun y11=>InI (Z6 - 1)/\((0:Int)<=Z6 - 1/\Z6 - 1<(↑l.length:Int))/\ ∀y13,l[(Z6 - 1).toNat]? =some y13->Cnd (y11.3=y13.3) (K (9:Int)) (At l Z6 fun y15=>InI (Z6+1)/\z8x y15.2 (Z6+1))) (At l Z6 fun y11=>InI (Z6+1)/\z8x y11.2 (Z6+1)))) (K (9:Int))))) (Cnd (Qc=10000) (K (0:Int)) (K (3:Int)))) (0:Int) (0:Int))
abbrev q4b:Type:=Srv->Int->(Int->Prop)->Prop
def j6c(Qm:Jl)(Qt:Jr)(Bq:q8o):q4b:=fun v variations K=>Cnd (v.1=0) (Qm v.2 fun Qa=>Cnd (Qa=true) (Qm v.3 fun Qc=>Cnd (Qc=true) (Qt v.4 fun Qf=>Cnd (Qf=true) (Bq v.5 variations fun Qi=>K Qi) (K (2:Int))) (K (6:Int))) (K (6:Int))) (Cnd (v.1<1) (K (3:Int)) (Cnd (variations<v.1) (K (3:Int)) (Cnd (v.2=ByteArray.mk (Array.mk [])) (Cnd (v.3=ByteArray.mk (Array.mk [])) (Cnd (v.4=ByteArray.mk (Array.mk [])) (Fits v.5->Cnd ((0:Int)<(↑v.5.length:Int)) (K (15:Int)) (K (0:Int))) (K (15:Int))) (K (15:Int))) (K (15:Int)))))
def z2z:q4b:=j6c H1 V1 z2y
abbrev z22:Type:=List (Rul)->Int->(Int->Prop)->Prop
def j6d(Qm:Jl)(Ug:q2f)(Br:q4b):z22:=fun l n K=>Fits l->Cnd ((12:Int)<(↑l.length:Int)) (K (5:Int)) (Lp1 (fun Qc Bp=>Fits l->CAt l Qc (fun y3=>Qm y3.1 fun Ql=>Cnd (Ql=true) (Lp1 (fun Zq v7n=>Cnd (Zq<Qc) (At l Zq fun y7=>At l Qc fun y9=>Cnd (y7.1=y9.1) (K (10:Int)) (InI (Zq+1)/\v7n (Zq+1))) (At l Qc fun y7=>Ug (Ex.mk y7.2.1 y7.2.2 y7.2.3 y7.2.4 y7.2.5) fun Qq=>Cnd (Qq=0) (At l Qc fun y10=>Br (Srv.mk y10.3.1 y10.3.2 y10.3.3 y10.3.4 y10.3.5) n fun Vv=>Cnd (Vv=0) (InI (Qc+1)/\Bp (Qc+1)) (K Vv)) (K Qq))) (0:Int)) (K (6:Int))) (K (0:Int))) (0:Int))
def z9m:z22:=j6d H1 z2x z2z
abbrev z7e:Type:=Flg->(Int->Prop)->Prop
def w1g(Qm:Jl)(q3v:Rk)(H9:Ua)(z1g:q52)(j0c:z22)(Br:q4b):z7e:=fun f K=>Fits f.3->Qm f.1 fun Qc=>Cnd (Qc=true) (Cnd (f.2<1) (K (7:Int)) (Cnd ((5:Int)<f.2) (K (7:Int)) (q3v (Flg.mk f.1 f.2 f.3 f.4 f.5 f.6 f.7 f.8 (Srv.mk f.9.1 f.9.2 f.9.3 f.9.4 f.9.5)) fun Qf=>Cnd (Qf=0) (H9 f.6 fun Qi=>Cnd (Qi=0) (z1g f.7 (↑f.3.length:Int) fun Qe=>Cnd (Qe=0) (j0c f.8 (↑f.3.length:Int) fun Ql=>Cnd (Ql=0) (Br (Srv.mk f.9.1 f.9.2 f.9.3 f.9.4 f.9.5) (↑f.3.length:Int) fun Zq=>K Zq) (K Ql)) (K Qe)) (K Qi)) (K Qf)))) (K (6:Int))
def j33:z7e:=w1g H1 q2h H2 z0m z9m z2z
abbrev z23:Type:=List (Flg)->(Int->Prop)->Prop
def j6e(j5o:z7e):z23:=fun l K=>Fits l->Cnd ((30:Int)<(↑l.length:Int)) (K (5:Int)) (Lp1 (fun Qc Bp=>Fits l->CAt l Qc (fun y3=>j5o (Flg.mk y3.1 y3.2 y3.3 y3.4 y3.5 y3.6 y3.7 y3.8 (Srv.mk y3.9.1 y3.9.2 y3.9.3 y3.9.4 y3.9.5)) fun Ql=>Cnd (Ql=0) (Cnd ((0:Int)<Qc) (At l Qc fun y6=>InI (Qc - 1)/\((0:Int)<=Qc - 1/\Qc - 1<(↑l.length:Int))/\ ∀y8,l[(Qc - 1).toNat]? =some y8->Cnd (Lk.blt y8.1 y6.1) (InI (Qc+1)/\Bp (Qc+1)) (K (9:Int))) (InI (Qc+1)/\Bp (Qc+1))) (K Ql)) (K (0:Int))) (0:Int))
def z9n:z23:=j6e j33
abbrev z25:Type:=Lay_->(Int->Prop)->Prop
def j6f(Qm:Jl)(Qt:Jr):z25:=fun l K=>Qm l.1 fun Qa=>Cnd (Qa=true) (Qm l.2 fun Qc=>Cnd (Qc=true) (Qt l.3 fun Qf=>Cnd (Qf=true) (Cnd (l.4<0) (K (3:Int)) (Cnd ((10000:Int)<l.4) (K (3:Int)) (Cnd (l.5<0) (K (3:Int)) (Cnd ((1099511627776:Int)<l.5) (K (3:Int)) (Fits l.6->Cnd ((32:Int)<(↑l.6.length:Int)) (K (5:Int)) (Lp1 (fun Qe w9h=>Fits l.6->CAt l.6 Qe (fun y6=>Cnd (y6.1<0) (K (3:Int)) (Cnd (y6.2<=y6.1) (K (3:Int)) (Cnd ((10000:Int)<y6.2) (K (3:Int)) (Cnd (y6.3<0) (K (3:Int)) (Cnd ((1099511627776:Int)<y6.3) (K (3:Int)) (Cnd ((0:Int)<Qe) (InI (Qe - 1)/\((0:Int)<=Qe - 1/\Qe - 1<(↑l.6.length:Int))/\ ∀y8,l.6[(Qe - 1).toNat]? =some y8->Cnd (y6.1<y8.2) (K (9:Int)) (InI (Qe+1)/\w9h (Qe+1))) (InI (Qe+1)/\w9h (Qe+1)))))))) (K (0:Int))) (0:Int))))))) (K (2:Int))) (K (6:Int))) (K (6:Int))
def z9o:z25:=j6f H1 V1
abbrev q9d:Type:=List (Lay_)->(Int->Prop)->Prop
def j1s(j0d:z25):q9d:=fun l K=>Fits l->Cnd ((6:Int)<(↑l.length:Int)) (K (5:Int)) (Lp1 (fun Qc Bp=>Fits l->CAt l Qc (fun y3=>j0d y3 fun Ql=>Cnd (Ql=0) (Cnd ((0:Int)<Qc) (At l Qc fun y6=>InI (Qc - 1)/\((0:Int)<=Qc - 1/\Qc - 1<(↑l.length:Int))/\ ∀y8,l[(Qc - 1).toNat]? =some y8->Cnd (Lk.blt y8.1 y6.1) (InI (Qc+1)/\Bp (Qc+1)) (K (9:Int))) (InI (Qc+1)/\Bp (Qc+1))) (K Ql)) (K (0:Int))) (0:Int))
def z4f:q9d:=j1s z9o
abbrev z9p:Type:=List (Spn)->(Int->Prop)->Prop
def z9q:z9p:=fun l K=>Fits l->Cnd ((16:Int)<(↑l.length:Int)) (K (5:Int)) (Lp1 (fun Qc Bp=>Fits l->CAt l Qc (fun y3=>Cnd (y3.1<0) (K (3:Int)) (At l Qc fun y5=>At l Qc fun y7=>Cnd (y7.2<=y5.1) (K (3:Int)) (At l Qc fun y9=>Cnd ((10000:Int)<y9.2) (K (3:Int)) (Cnd ((0:Int)<Qc) (At l Qc fun y11=>InI (Qc - 1)/\((0:Int)<=Qc - 1/\Qc - 1<(↑l.length:Int))/\ ∀y13,l[(Qc - 1).toNat]? =some y13->Cnd (y11.1<=y13.2) (K (9:Int)) (InI (Qc+1)/\Bp (Qc+1))) (InI (Qc+1)/\Bp (Qc+1)))))) (K (0:Int))) (0:Int))
abbrev Rl:Type:=Exper->(Int->Prop)->Prop
def q9e(Qm:Jl)(Qt:Jr)(j0e:z9p)(Bq:q8o)(Ug:q2f):Rl:=fun x K=>Qm x.1 fun Qa=>Cnd (Qa=true) (Qm x.2 fun Qc=>Cnd (Qc=true) (Qm x.3 fun Qf=>Cnd (Qf=true) (Qt x.4 fun Qi=>Cnd (Qi=true) (Cnd (x.5<1) (K (7:Int)) (Cnd ((3:Int)<x.5) (K (7:Int)) (j0e x.6 fun Qe=>Cnd (Qe=0) (Bq x.7 (8:Int) fun Ql=>Cnd (Ql=0) (Ug (Ex.mk x.8.1 x.8.2 x.8.3 x.8.4 x.8.5) fun Zq=>K Zq) (K Ql)) (K Qe)))) (K (2:Int))) (K (6:Int))) (K (6:Int))) (K (6:Int))
def q2j:Rl:=q9e H1 V1 z9q z2y z2x
abbrev Hf:Type:=List (Exper)->(Int->Prop)->Prop
def q6u(q3w:Rl):Hf:=fun l K=>Fits l->Cnd ((16:Int)<(↑l.length:Int)) (K (5:Int)) (Lp1 (fun Qc Bp=>Fits l->CAt l Qc (fun y3=>q3w (Exper.mk y3.1 y3.2 y3.3 y3.4 y3.5 y3.6 y3.7 (Ex.mk y3.8.1 y3.8.2 y3.8.3 y3.8.4 y3.8.5)) fun Ql=>Cnd (Ql=0) (Cnd ((0:Int)<Qc) (At l Qc fun y6=>InI (Qc - 1)/\((0:Int)<=Qc - 1/\Qc - 1<(↑l.length:Int))/\ ∀y8,l[(Qc - 1).toNat]? =some y8->Cnd (Lk.blt y8.1 y6.1) (InI (Qc+1)/\Bp (Qc+1)) (K (9:Int))) (InI (Qc+1)/\Bp (Qc+1))) (K Ql)) (K (0:Int))) (0:Int))
def q0s:Hf:=q6u q2j
abbrev Hg:Type:=Envt->(Int->Prop)->Prop
def q6v(q78:q2d)(q79:q2e)(q8a:q2g)(j0f:z23)(z5z:q9d)(q02:Hf):Hg:=fun v K=>q78 (Sett.mk v.1.1 v.1.2 v.1.3) fun Qa=>Cnd (Qa=0) (q79 v.2 fun Qc=>Cnd (Qc=0) (q8a v.3 fun Qf=>Cnd (Qf=0) (j0f v.4 fun Qi=>Cnd (Qi=0) (z5z v.5 fun Qe=>Cnd (Qe=0) (q02 v.6 fun Ql=>K Ql) (K Qe)) (K Qi)) (K Qf)) (K Qc)) (K Qa)
def q0t:Hg:=q6v q7k q7l q7m z9n z4f q0s
abbrev Hx:Type:=List (Seg)->(List (ByteArray)->Prop)->Prop
def q8p:Hx:=fun l K=>Lp2 (fun Qa Qy q36=>Fits l->CAt l Qy (fun y2=>Sml (Qa++[y2.1]).length/\InI (Qy+1)/\q36 (Qa++[y2.1]) (Qy+1)) (K Qa)) [] (0:Int)
abbrev Vx:Type:=List (ByteArray)->ByteArray->(Bool->Prop)->Prop
def Gj:Vx:=fun l s K=>Lp1 (fun Qa R3=>Fits l->CAt l Qa (fun y2=>Cnd (y2=s) (K true) (InI (Qa+1)/\R3 (Qa+1))) (K false)) (0:Int)
abbrev z27:Type:=List (Decl)->ByteArray->ByteArray->(Int->Prop)->Prop
def q53:z27:=fun l kind name K=>Lp1 (fun Qa R3=>Fits l->CAt l Qa (fun y2=>Cnd (y2.1=kind) (At l Qa fun y4=>Cnd (y4.2=name) (At l Qa fun y6=>K y6.3) (InI (Qa+1)/\R3 (Qa+1))) (InI (Qa+1)/\R3 (Qa+1))) (Cnd (name=ByteArray.mk (Array.mk [107,101,121])) (K (3:Int)) (K (0:Int)))) (0:Int)
abbrev j34:Type:=Int->Ex->(Bool->Prop)->Prop
def q9f:j34:=fun t e K=>Cnd (e.1=6) (K true) (Cnd (e.1=8) (Lp1 (fun Qa R3=>Fits e.4->CAt e.4 Qa (fun y2=>Cnd (y2.1=t) (InI (Qa+1)/\R3 (Qa+1)) (K false)) (K (match decide ((t,e,()).1=5) with|true=>false|false=>true))) (0:Int)) (Fits e.4->Cnd ((↑e.4.length:Int)=0) (K false) (((0:Int)<=(0:Int)/\(0:Int)<(↑e.4.length:Int))/\ ∀y1,e.4[Int.toNat (0:Int)]? =some y1->Cnd (e.1=7) (K (decide (y1.1=t))) (Jn1 (fun Qi=>Cnd (Qi=true) (Cnd (t=3) (K (decide (y1.1=3))) (K false)) (Cnd (e.1=11) (Cnd (t=3) (K (decide (y1.1=3))) (Cnd (t=5) (K (decide (y1.1=3))) (K false))) (Cnd (t=2) (K (decide (y1.1=t))) (Cnd (t=3) (K (decide (y1.1=t))) (Cnd (t=4) (K (decide (y1.1=t))) (K false)))))) fun y4t=>Cnd (e.1=9) (y4t (decide (e.1=9))) (y4t (decide (e.1=10)))))))
abbrev Hh:Type:=List (Decl)->List (ByteArray)->Ex->(Int->Prop)->Prop
def w1h(Q2:Vx)(Qx:Wn)(q0k:z27)(z8y:j34)(X:Hh):Hh:=fun l segments e K=>Cnd (e.1=5) (Q2 segments e.3 fun Qa=>Cnd (Qa=true) (Jn0 (Lp1 (fun Qc Bp=>Fits e.5->CAt e.5 Qc (fun y3=>X l segments (Ex.mk y3.1 y3.2 y3.3 y3.4 y3.5) fun Ql=>Cnd (Ql=0) (InI (Qc+1)/\Bp (Qc+1)) (K Ql)) (K (0:Int))) (0:Int)) fun Qc=>Qx e.1 fun Qf=>Cnd (Qf=true) (q0k l e.2 e.3 fun Qi=>Cnd (Qi=0) (K (11:Int)) (z8y Qi (Ex.mk e.1 e.2 e.3 e.4 e.5) fun Qe=>Cnd (Qe=true) Qc (K (8:Int)))) Qc) (K (11:Int))) (Jn0 (Lp1 (fun Qa R3=>Fits e.5->CAt e.5 Qa (fun y2=>X l segments (Ex.mk y2.1 y2.2 y2.3 y2.4 y2.5) fun Qe=>Cnd (Qe=0) (InI (Qa+1)/\R3 (Qa+1)) (K Qe)) (K (0:Int))) (0:Int)) fun Qa=>Qx e.1 fun Qc=>Cnd (Qc=true) (q0k l e.2 e.3 fun Qf=>Cnd (Qf=0) (K (11:Int)) (z8y Qf (Ex.mk e.1 e.2 e.3 e.4 e.5) fun Qi=>Cnd (Qi=true) Qa (K (8:Int)))) Qa)
def z29:Hh:=fun l segments e K=> ∀X:Hh,(∀l segments e K,w1h Gj J5 q53 q9f X l segments e K->X l segments e K)->X l segments e K
abbrev q42:Type:=List (ByteArray)->ByteArray->(List (ByteArray)->Prop)->Prop
def q7n:q42:=fun l s K=>Lp1 (fun Qa R3=>Fits l->CAt l Qa (fun y2=>Cnd (Lk.blt y2 s) (InI (Qa+1)/\R3 (Qa+1)) (Fits l->CAt l Qa (fun y5=>Cnd (y5=s) (K l) (((0:Int)<=(0:Int)/\(0:Int)<=Qa/\Qa<=(↑l.length:Int))/\Sml ([]++List.drop (Int.toNat (0:Int)) (List.take Qa.toNat l)).length/\((0:Int)<=Qa/\Qa<=(↑l.length:Int)/\(↑l.length:Int)<=(↑l.length:Int))/\Sml ([]++List.drop (Int.toNat (0:Int)) (List.take Qa.toNat l)++[s]).length/\Sml ([]++List.drop (Int.toNat (0:Int)) (List.take Qa.toNat l)++[s]++List.drop Qa.toNat (List.take (↑l.length:Int).toNat l)).length/\K ([]++List.drop (Int.toNat (0:Int)) (List.take Qa.toNat l)++[s]++List.drop Qa.toNat (List.take (↑l.length:Int).toNat l)))) (((0:Int)<=(0:Int)/\(0:Int)<=Qa/\Qa<=(↑l.length:Int))/\Sml ([]++List.drop (Int.toNat (0:Int)) (List.take Qa.toNat l)).length/\((0:Int)<=Qa/\Qa<=(↑l.length:Int)/\(↑l.length:Int)<=(↑l.length:Int))/\Sml ([]++List.drop (Int.toNat (0:Int)) (List.take Qa.toNat l)++[s]).length/\Sml ([]++List.drop (Int.toNat (0:Int)) (List.take Qa.toNat l)++[s]++List.drop Qa.toNat (List.take (↑l.length:Int).toNat l)).length/\K ([]++List.drop (Int.toNat (0:Int)) (List.take Qa.toNat l)++[s]++List.drop Qa.toNat (List.take (↑l.length:Int).toNat l))))) (Fits l->CAt l Qa (fun y3=>Cnd (y3=s) (K l) (((0:Int)<=(0:Int)/\(0:Int)<=Qa/\Qa<=(↑l.length:Int))/\Sml ([]++List.drop (Int.toNat (0:Int)) (List.take Qa.toNat l)).length/\((0:Int)<=Qa/\Qa<=(↑l.length:Int)/\(↑l.length:Int)<=(↑l.length:Int))/\Sml ([]++List.drop (Int.toNat (0:Int)) (List.take Qa.toNat l)++[s]).length/\Sml ([]++List.drop (Int.toNat (0:Int)) (List.take Qa.toNat l)++[s]++List.drop Qa.toNat (List.take (↑l.length:Int).toNat l)).length/\K ([]++List.drop (Int.toNat (0:Int)) (List.take Qa.toNat l)++[s]++List.drop Qa.toNat (List.take (↑l.length:Int).toNat l)))) (((0:Int)<=(0:Int)/\(0:Int)<=Qa/\Qa<=(↑l.length:Int))/\Sml ([]++List.drop (Int.toNat (0:Int)) (List.take Qa.toNat l)).length/\((0:Int)<=Qa/\Qa<=(↑l.length:Int)/\(↑l.length:Int)<=(↑l.length:Int))/\Sml ([]++List.drop (Int.toNat (0:Int)) (List.take Qa.toNat l)++[s]).length/\Sml ([]++List.drop (Int.toNat (0:Int)) (List.take Qa.toNat l)++[s]++List.drop Qa.toNat (List.take (↑l.length:Int).toNat l)).length/\K ([]++List.drop (Int.toNat (0:Int)) (List.take Qa.toNat l)++[s]++List.drop Qa.toNat (List.take (↑l.length:Int).toNat l))))) (0:Int)
abbrev Ga:Type:=List (ByteArray)->Ex->(List (ByteArray)->Prop)->Prop
def z0n(W5:q42)(X:Ga):Ga:=fun l e K=>Jn1 (fun Qa=>Lp2 (fun Qc Z6 z8x=>Fits e.5->CAt e.5 Z6 (fun y3=>X Qc (Ex.mk y3.1 y3.2 y3.3 y3.4 y3.5) fun Ql=>InI (Z6+1)/\z8x Ql (Z6+1)) (K Qc)) Qa (0:Int)) fun q5i=>Cnd (e.1=5) (W5 l e.3 fun Qc=>q5i Qc) (q5i l)
def q54:Ga:=fun l e K=> ∀X:Ga,(∀l e K,z0n q7n X l e K->X l e K)->X l e K
abbrev q55:Type:=Ex->(List (ByteArray)->Prop)->Prop
def z0o(z1h:Ga):q55:=fun e K=>z1h [] (Ex.mk e.1 e.2 e.3 e.4 e.5) fun Qa=>K Qa
def q1u:q55:=z0o q54
abbrev q1b:Type:=List (Seg)->(List (Edg)->Prop)->Prop
def z4g(z1i:q55):q1b:=fun l K=>Lp2 (fun Qa Qy q36=>Fits l->CAt l Qy (fun y2=>z1i (Ex.mk y2.5.1 y2.5.2 y2.5.3 y2.5.4 y2.5.5) fun Qe=>Lp2 (fun Ql q7d v95=>Fits Qe->Cnd (q7d<(↑Qe.length:Int)) (At l Qy fun y7=>At Qe q7d fun y9=>Sml (Ql++[Edg.mk y7.1 y9]).length/\InI (q7d+1)/\v95 (Ql++[Edg.mk y7.1 y9]) (q7d+1)) (InI (Qy+1)/\q36 Ql (Qy+1))) Qa (0:Int)) (K Qa)) [] (0:Int)
def q1c:q1b:=z4g q1u
abbrev z3a:Type:=List (Edg)->ByteArray->(List (ByteArray)->Prop)->Prop
def j6g(Q2:Vx)(W5:q42):z3a:=fun edges node K=>Lp2 (fun Qa Qy q36=>Fits Qy->Cnd ((0:Int)<(↑Qy.length:Int)) (((0:Int)<=(0:Int)/\(0:Int)<(↑Qy.length:Int))/\ ∀y2,Qy[Int.toNat (0:Int)]? =some y2->((0:Int)<=(1:Int)/\(1:Int)<=(↑Qy.length:Int)/\(↑Qy.length:Int)<=(↑Qy.length:Int))/\Lp3 (fun Qe Js j5h u19=>Fits edges->CAt edges j5h (fun y6=>Cnd (y6.1=y2) (At edges j5h fun y8=>Q2 Qe y8.2 fun U7=>Cnd (U7=true) (InI (j5h+1)/\u19 Qe Js (j5h+1)) (At edges j5h fun y11=>W5 Qe y11.2 fun Zd=>At edges j5h fun y14=>(Sml ([]++Js).length/\Sml ([]++Js++[y14.2]).length/\InI (j5h+1)/\u19 Zd ([]++Js++[y14.2]) (j5h+1))/\Sml ([]++Js).length/\Sml ([]++Js++[y14.2]).length/\InI (j5h+1)/\u19 Zd ([]++Js++[y14.2]) (j5h+1))) (InI (j5h+1)/\u19 Qe Js (j5h+1))) (q36 Qe Js)) Qa (List.drop (Int.toNat (1:Int)) (List.take (↑Qy.length:Int).toNat Qy)) (0:Int)) (K Qa)) [] [node]
def z9r:z3a:=j6g Gj q7n
abbrev q9g:Type:=List (ByteArray)->List (Edg)->(List (ByteArray)->Prop)->Prop
def j1t(j0g:z3a)(Q2:Vx)(W5:q42):q9g:=fun nodes edges K=>Lp2 (fun Qa Qy q36=>Fits nodes->CAt nodes Qy (fun y2=>At nodes Qy fun y4=>j0g edges y2 fun Zq=>Q2 Zq y4 fun Qv=>Cnd (Qv=true) (At nodes Qy fun y8=>W5 Qa y8 fun U7=>InI (Qy+1)/\q36 U7 (Qy+1)) (InI (Qy+1)/\q36 Qa (Qy+1))) (K Qa)) [] (0:Int)
def z4h:q9g:=j1t z9r Gj q7n
abbrev q9h:Type:=List (ByteArray)->List (Edg)->(ByteArray->Bool->Prop)->Prop
def j1u(z50:q9g):q9h:=fun nodes edges K=>z50 nodes edges fun Qa=>Fits Qa->Cnd ((↑Qa.length:Int)=0) (K (ByteArray.mk (Array.mk [])) false) (((0:Int)<=(0:Int)/\(0:Int)<(↑Qa.length:Int))/\ ∀y2,Qa[Int.toNat (0:Int)]? =some y2->K y2 true)
def z4i:q9h:=j1u z4h
abbrev Gb:Type:=Envt->ByteArray->(Int->Prop)->Prop
def q56:Gb:=fun v key K=>Lp1 (fun Qa R3=>Fits v.4->CAt v.4 Qa (fun y2=>Cnd (y2.1=key) (K Qa) (InI (Qa+1)/\R3 (Qa+1))) (K (-1:Int))) (0:Int)
abbrev z3b:Type:=List (Decl)->Srv->(Int->Prop)->Prop
def j6h(q0k:z27):z3b:=fun l v K=>Cnd (v.1=0) (q0k l v.2 v.3 fun Qa=>Cnd (Qa=0) (K (11:Int)) (Cnd (Qa=5) (K (8:Int)) (K (0:Int)))) (K (0:Int))
def z9s:z3b:=j6h q53
abbrev Rm:Type:=Envt->Flg->(Int->Prop)->Prop
def q9i(Z9:Hx)(Jg:Gb)(Uh:Hh)(z3s:z3b)(Ja:J6):Rm:=fun v f K=>Z9 v.3 fun Qa=>Lp2 (fun Qc Z6 z8x=>Fits f.6->CAt f.6 Qc (fun y3=>Jg (Envt.mk (Sett.mk v.1.1 v.1.2 v.1.3) v.2 v.3 v.4 v.5 v.6) y3.1 fun Ql=>Cnd (Ql<0) (K (11:Int)) (At f.6 Qc fun y6=>At v.4 Ql fun y8=>Fits y8.3->Cnd ((↑y8.3.length:Int)<y6.2) (K (3:Int)) (InI (Qc+1)/\z8x (Qc+1) Z6))) (Lp2 (fun Qi Um j9k=>Fits f.8->CAt f.8 Qi (fun y5=>Uh v.2 Um (Ex.mk y5.2.1 y5.2.2 y5.2.3 y5.2.4 y5.2.5) fun Qv=>Cnd (Qv=0) (At f.8 Qi fun y8=>z3s v.2 (Srv.mk y8.3.1 y8.3.2 y8.3.3 y8.3.4 y8.3.5) fun U7=>Cnd (U7=0) (InI (Qi+1)/\j9k (Qi+1) Um) (K U7)) (K Qv)) (z3s v.2 (Srv.mk f.9.1 f.9.2 f.9.3 f.9.4 f.9.5) fun Ql=>Cnd (Ql=0) (Ja f.8 fun Zq _ w6n=>Cnd (w6n=true) (Fits Zq->Cnd ((0:Int)<(↑Zq.length:Int)) (K (13:Int)) (K (0:Int))) (K (19:Int))) (K Ql))) (0:Int) Z6)) (0:Int) Qa
def q2k:Rm:=q9i q8p q56 z29 z9s Uy
abbrev q43:Type:=Envt->(List (ByteArray)->Prop)->Prop
def z1v:q43:=fun v K=>Lp2 (fun Qa Qy q36=>Fits v.4->CAt v.4 Qy (fun y2=>Sml (Qa++[y2.1]).length/\InI (Qy+1)/\q36 (Qa++[y2.1]) (Qy+1)) (K Qa)) [] (0:Int)
abbrev q2l:Type:=Envt->(List (Edg)->Prop)->Prop
def q2m:q2l:=fun v K=>Lp2 (fun Qa Qy q36=>Fits v.4->Cnd (Qy<(↑v.4.length:Int)) (Lp2 (fun Qf Zs q7c=>At v.4 Qy fun y3=>Fits y3.6->Cnd (Zs<(↑y3.6.length:Int)) (At v.4 Qy fun y6=>At v.4 Qy fun y8=>At y8.6 Zs fun y10=>Sml (Qf++[Edg.mk y6.1 y10.1]).length/\InI (Zs+1)/\q7c (Qf++[Edg.mk y6.1 y10.1]) (Zs+1)) (InI (Qy+1)/\q36 Qf (Qy+1))) Qa (0:Int)) (K Qa)) [] (0:Int)
abbrev q57:Type:=List (Spn)->List (Spn)->(List (Spn)->Prop)->Prop
def z7f(Jd:q0a)(Q7:Wp):q57:=fun a b K=>Jd a fun Qa=>Jd b fun Qc=>Lp2 (fun Qf Zs q7c=>Fits Zs->CAt Zs Qf (fun y4=>Cnd (y4=true) (At Qc Qf fun y6=>At Zs Qf fun _=>InI (Qf+1)/\q7c (Qf+1) (Zs.set Qf.toNat y6)) (At Zs Qf fun _=>InI (Qf+1)/\q7c (Qf+1) (Zs.set Qf.toNat false))) (Q7 Zs fun Qe=>K Qe)) (0:Int) Qa
def z0p:q57:=z7f q86 Ri
abbrev Wi:Type:=Envt->Int->(Int->Prop)->Prop
def Rn(Q8:We)(Jg:Gb)(Z9:Hx)(Uh:Hh)(z1j:q57):Wi:=fun v i K=>At v.6 i fun y0=>Q8 (Envt.mk (Sett.mk v.1.1 v.1.2 v.1.3) v.2 v.3 v.4 v.5 v.6) y0.2 fun Qf=>Jg (Envt.mk (Sett.mk v.1.1 v.1.2 v.1.3) v.2 v.3 v.4 v.5 v.6) y0.3 fun Qi=>Cnd (Qf<0) (K (11:Int)) (Cnd (Qi<0) (K (11:Int)) (Lp1 (fun Qe w9h=>Fits y0.7->CAt y0.7 Qe (fun y6=>At v.4 Qi fun y8=>Fits y8.3->Cnd ((↑y8.3.length:Int)<y6.3) (K (3:Int)) (InI (Qe+1)/\w9h (Qe+1))) (Z9 v.3 fun Zq=>Uh v.2 Zq (Ex.mk y0.8.1 y0.8.2 y0.8.3 y0.8.4 y0.8.5) fun Qv=>Cnd (Qv=0) (Cnd (y0.5=3) (K (0:Int)) (At v.5 Qf fun y8=>Lp3 (fun U7 q0j v5u u1t=>Cnd (q0j<i) (At v.6 q0j fun y11=>Cnd (y11.2=y0.2) (Cnd (y11.5=3) (InI (q0j+1)/\u1t U7 (q0j+1) v5u) (Sml (U7++y11.6).length/\InI (q0j+1)/\u1t (U7++y11.6) (q0j+1) v5u)) (InI (q0j+1)/\u1t U7 (q0j+1) v5u)) (z1j y0.6 U7 fun Wx=>Fits Wx->Cnd ((0:Int)<(↑Wx.length:Int)) (K (14:Int)) (Lp4 (fun Zd w9e u1u u1v u1w=>Cnd (Zd<i) (Cnd (y0.5=2) (At v.6 Zd fun y14=>Cnd (y14.5=2) (Cnd (y14.3=y0.3) (Cnd (y14.2=y0.2) (InI (Zd+1)/\u1w (Zd+1) w9e u1u u1v) (K (14:Int))) (InI (Zd+1)/\u1w (Zd+1) w9e u1u u1v)) (InI (Zd+1)/\u1w (Zd+1) w9e u1u u1v)) (K (0:Int))) (K (0:Int))) (0:Int) Wx U7 v5u))) [Spn.mk (0:Int) y8.4] (0:Int) Zq)) (K Qv))) (0:Int)))
def Ub:Wi:=Rn V7 q56 q8p z29 z0p
abbrev Uz:Type:=Envt->(ByteArray->Int->Prop)->Prop
def q4c(q03:Hg)(Z9:Hx)(Uh:Hh)(G8:q1b)(z0e:q9h)(q3x:Rm)(q5m:q43)(q3y:q2l)(Ui:Wi):Uz:=fun v K=>q03 (Envt.mk (Sett.mk v.1.1 v.1.2 v.1.3) v.2 v.3 v.4 v.5 v.6) fun Qa=>Cnd (Qa=0) (Z9 v.3 fun Qc=>Lp2 (fun Qf Zs q7c=>Fits v.3->CAt v.3 Qf (fun y4=>Cnd (y4.5.1=0) (InI (Qf+1)/\q7c (Qf+1) Zs) (At v.3 Qf fun y6=>Uh v.2 Zs (Ex.mk y6.5.1 y6.5.2 y6.5.3 y6.5.4 y6.5.5) fun Wj=>Cnd (Wj=0) (InI (Qf+1)/\q7c (Qf+1) Zs) (At v.3 Qf fun y9=>(↑((ByteArray.mk (Array.mk [115,101,103,109,101,110,116,32])).size+y9.1.size):Int)<=(9223372036854775807:Int)/\K (ByteArray.mk (Array.mk [115,101,103,109,101,110,116,32])++y9.1) Wj))) (G8 v.3 fun Qe=>z0e Zs Qe fun Ql q7d=>Cnd (q7d=true) ((↑((ByteArray.mk (Array.mk [115,101,103,109,101,110,116,32])).size+Ql.size):Int)<=(9223372036854775807:Int)/\K (ByteArray.mk (Array.mk [115,101,103,109,101,110,116,32])++Ql) (12:Int)) (Lp3 (fun Zq z2l w6n u6m=>Fits v.4->CAt v.4 Zq (fun y8=>q3x (Envt.mk (Sett.mk v.1.1 v.1.2 v.1.3) v.2 v.3 v.4 v.5 v.6) (Flg.mk y8.1 y8.2 y8.3 y8.4 y8.5 y8.6 y8.7 y8.8 (Srv.mk y8.9.1 y8.9.2 y8.9.3 y8.9.4 y8.9.5)) fun U7=>Cnd (U7=0) (InI (Zq+1)/\u6m (Zq+1) z2l w6n) (At v.4 Zq fun y11=>(↑((ByteArray.mk (Array.mk [102,108,97,103,32])).size+y11.1.size):Int)<=(9223372036854775807:Int)/\K (ByteArray.mk (Array.mk [102,108,97,103,32])++y11.1) U7)) (q5m (Envt.mk (Sett.mk v.1.1 v.1.2 v.1.3) v.2 v.3 v.4 v.5 v.6) fun Wj=>q3y (Envt.mk (Sett.mk v.1.1 v.1.2 v.1.3) v.2 v.3 v.4 v.5 v.6) fun Qq=>z0e Wj Qq fun U7 q0j=>Cnd (q0j=true) ((↑((ByteArray.mk (Array.mk [102,108,97,103,32])).size+U7.size):Int)<=(9223372036854775807:Int)/\K (ByteArray.mk (Array.mk [102,108,97,103,32])++U7) (12:Int)) (Lp5 (fun Wx z8w u5r u5s u5t u5u=>Fits v.6->Cnd (Wx<(↑v.6.length:Int)) (Ui (Envt.mk (Sett.mk v.1.1 v.1.2 v.1.3) v.2 v.3 v.4 v.5 v.6) Wx fun Zd=>Cnd (Zd=0) (InI (Wx+1)/\u5u (Wx+1) z8w u5r u5s u5t) (At v.6 Wx fun y14=>(↑((ByteArray.mk (Array.mk [101,120,112,101,114,105,109,101,110,116,32])).size+y14.1.size):Int)<=(9223372036854775807:Int)/\K (ByteArray.mk (Array.mk [101,120,112,101,114,105,109,101,110,116,32])++y14.1) Zd)) (K (ByteArray.mk (Array.mk [])) (0:Int))) (0:Int) Wj Qq w6n z2l))) (0:Int) Zs Qe))) (0:Int) Qc) (K (ByteArray.mk (Array.mk [])) Qa)
def Bb:Uz:=q4c q0t q8p z29 q1c z4i q2k z1v q2m Ub
abbrev q9j:Type:=Envt->(Bool->Prop)->Prop
def j1v(Bt:Uz):q9j:=fun v K=>Bt (Envt.mk (Sett.mk v.1.1 v.1.2 v.1.3) v.2 v.3 v.4 v.5 v.6) fun _ Qy=>K (decide (Qy=0))
def q1d:q9j:=j1v Bb
abbrev Rp:Type:=List (Int)->Int->Int->(Envt->Int->Prop)->Prop
def q9k(Q5:Vc)(z1k:q5y)(Qb:Zk)(q3q:z9d)(Jj:q15)(q5g:z34)(z8z:z66)(R1:q16)(q5h:q40)(Ja:J6)(j5p:z68)(Wl:q14)(q3r:q81)(j0h:z2u)(W2:q7h)(G7:q1a)(z52:q9a)(q1q:q9j):Rp:=fun list at_ now K=>Q5 fun Qa=>Jn1 (fun (Qc:ByteArray×ByteArray×Int×Int×List Decl×Unit)=>z1k list Qc.2.2.2.1 Qc.1 Qc.2.1 Qc.2.2.1 Qc.2.2.2.2.1 [] [] [] [] fun Qf Zs w9f w4b y41 u6n u6o u6p u6q=>Qb list Qf (5:Int) fun Qi Um=>q3q Qi [ByteArray.mk (Array.mk [102,97]),ByteArray.mk (Array.mk [102,98]),ByteArray.mk (Array.mk [102,99]),ByteArray.mk (Array.mk [102,100])] fun Qe=>LpH (fun (Ql:Int×Int×List Flg×List Seg×List Lay_×List Exper×Unit) j5f=>Fits Qe->CAt Qe Ql.1 (fun y7=>Qb list Ql.2.1 (5:Int) fun Qq z99=>InI ((1:Int)+Qq)/\Qb list z99 (6:Int) fun U7 q0j=>Qb list q0j (4:Int) fun Wx z8w=>InI ((1:Int)+Wx)/\LpH (fun (Vv:Int×Int×List Val×List Exper×List Lay_×List Flg×List Seg×Unit) (u5v:Int×Int×List Val×List Exper×List Lay_×List Flg×List Seg×Unit->Prop)=>Cnd (Vv.1<1+Wx) (Jj list Vv.2.1 ((1:Int)+Qq) fun Zd w9e=>Sml (Vv.2.2.1++[Zd]).length/\InI (Vv.1+1)/\u5v (Vv.1+1,w9e,Vv.2.2.1++[Zd],Vv.2.2.2.1,Vv.2.2.2.2.1,Vv.2.2.2.2.2.1,Vv.2.2.2.2.2.2.1,())) (Qb list Vv.2.1 ((1:Int)+Wx) fun Zd w9e=>InI ((1:Int)+Zd)/\LpH (fun (W6:Int×List Prq×Int×List Seg×List Flg×List Lay_×List Exper×List Val×Unit) (y4u:Int×List Prq×Int×List Seg×List Flg×List Lay_×List Exper×List Val×Unit->Prop)=>Fits W6.2.2.2.2.1->Cnd (W6.1<(↑W6.2.2.2.2.1.length:Int)) (Qb list W6.2.2.1 (4:Int) fun B3 u32=>Cnd (B3=1) (At W6.2.2.2.2.1 W6.1 fun y17=>At W6.2.2.2.2.1 W6.1 fun y19=>Fits y19.3->Qb list u32 (↑y19.3.length:Int) fun u1x u5w=>InI ((1:Int)+u1x)/\Sml (W6.2.1++[Prq.mk y17.1 ((1:Int)+u1x)]).length/\InI (W6.1+1)/\y4u (W6.1+1,W6.2.1++[Prq.mk y17.1 ((1:Int)+u1x)],u5w,W6.2.2.2.1,W6.2.2.2.2.1,W6.2.2.2.2.2.1,W6.2.2.2.2.2.2.1,W6.2.2.2.2.2.2.2.1,())) (InI (W6.1+1)/\y4u (W6.1+1,W6.2.1,u32,W6.2.2.2.1,W6.2.2.2.2.1,W6.2.2.2.2.2.1,W6.2.2.2.2.2.2.1,W6.2.2.2.2.2.2.2.1,()))) (LpH (fun (B3:Int×List Tgt×Int×List Val×List Exper×List Lay_×List Flg×List Seg×List Prq×Unit) (u33:Int×List Tgt×Int×List Val×List Exper×List Lay_×List Flg×List Seg×List Prq×Unit->Prop)=>Qb list B3.2.2.1 (3:Int) fun y4v u34=>Cnd (B3.1<y4v) (Qb list u34 ((1:Int)+Wx) fun z3t u5x=>InI ((1:Int)+z3t)/\q5g list u5x fun Jh u1y=>Jn1 (fun (q4z:ByteArray×Int×List ByteArray×List Prq×List Seg×List Flg×List Lay_×List Exper×List Val×List Tgt×Unit)=>Fits q4z.2.2.1->Cnd ((0:Int)<(↑q4z.2.2.1.length:Int)) (Sml (q4z.2.2.2.2.2.2.2.2.2.1++[Tgt.mk q4z.1 ((1:Int)+z3t) q4z.2.2.1]).length/\InI (B3.1+1)/\u33 (B3.1+1,q4z.2.2.2.2.2.2.2.2.2.1++[Tgt.mk q4z.1 ((1:Int)+z3t) q4z.2.2.1],q4z.2.1,q4z.2.2.2.2.2.2.2.2.1,q4z.2.2.2.2.2.2.2.1,q4z.2.2.2.2.2.2.1,q4z.2.2.2.2.2.1,q4z.2.2.2.2.1,q4z.2.2.2.1,())) (InI (B3.1+1)/\u33 (B3.1+1,q4z.2.2.2.2.2.2.2.2.2.1,q4z.2.1,q4z.2.2.2.2.2.2.2.2.1,q4z.2.2.2.2.2.2.2.1,q4z.2.2.2.2.2.2.1,q4z.2.2.2.2.2.1,q4z.2.2.2.2.1,q4z.2.2.2.1,()))) fun (u35:ByteArray×Int×List ByteArray×List Prq×List Seg×List Flg×List Lay_×List Exper×List Val×List Tgt×Unit->Prop)=>Qb list u1y (4:Int) fun u5y u36=>Cnd (u5y=1) (u35 (ByteArray.mk (Array.mk [100,101,118,105,99,101]),u36,Jh,B3.2.2.2.2.2.2.2.2.1,B3.2.2.2.2.2.2.2.1,B3.2.2.2.2.2.2.1,B3.2.2.2.2.2.1,B3.2.2.2.2.1,B3.2.2.2.1,B3.2.1,())) (u35 (ByteArray.mk (Array.mk [117,115,101,114]),u36,Jh,B3.2.2.2.2.2.2.2.2.1,B3.2.2.2.2.2.2.2.1,B3.2.2.2.2.2.2.1,B3.2.2.2.2.2.1,B3.2.2.2.2.1,B3.2.2.2.1,B3.2.1,()))) (Jn1 (fun (z3t:Int×List Rul×List ByteArray×List Prq×List Seg×List Flg×List Lay_×List Exper×List Val×List Tgt×Unit)=>z8z list z3t.1 ((1:Int)+Wx) fun Jh u1y=>Sml (z3t.2.2.2.2.2.1++[Flg.mk y7 ((1:Int)+Qq) z3t.2.2.2.2.2.2.2.2.1 (decide (U7<5)) ((1:Int)+Zd) z3t.2.2.2.1 z3t.2.2.2.2.2.2.2.2.2.1 z3t.2.1 Jh]).length/\InI (Ql.1+1)/\j5f (Ql.1+1,u1y,z3t.2.2.2.2.2.1++[Flg.mk y7 ((1:Int)+Qq) z3t.2.2.2.2.2.2.2.2.1 (decide (U7<5)) ((1:Int)+Zd) z3t.2.2.2.1 z3t.2.2.2.2.2.2.2.2.2.1 z3t.2.1 Jh],z3t.2.2.2.2.1,z3t.2.2.2.2.2.2.1,z3t.2.2.2.2.2.2.2.1,())) fun (u1z:Int×List Rul×List ByteArray×List Prq×List Seg×List Flg×List Lay_×List Exper×List Val×List Tgt×Unit->Prop)=>LpH (fun (Jh:Int×Int×List Rul×List ByteArray×List Prq×List Seg×List Flg×List Lay_×List Exper×List Val×List Tgt×Unit) (u5z:Int×Int×List Rul×List ByteArray×List Prq×List Seg×List Flg×List Lay_×List Exper×List Val×List Tgt×Unit->Prop)=>Qb list Jh.2.1 (5:Int) fun q4z y7n=>Cnd (Jh.1<q4z) (At Jh.2.2.2.1 Jh.1 fun y21=>R1 (Envt.mk (Sett.mk Zs w9f w4b) y41 Jh.2.2.2.2.2.1 Jh.2.2.2.2.2.2.1 Jh.2.2.2.2.2.2.2.1 Jh.2.2.2.2.2.2.2.2.1) fun u50=>q5h list y7n u50 (3:Int) fun Zj u51=>z8z list u51 ((1:Int)+Wx) fun z54 y4w=>Sml (Jh.2.2.1++[Rul.mk y21 (Ex.mk Zj.1 Zj.2 Zj.3 Zj.4 Zj.5) z54]).length/\Ja (Jh.2.2.1++[Rul.mk y21 (Ex.mk Zj.1 Zj.2 Zj.3 Zj.4 Zj.5) z54]) fun u37 _ u52=>Cnd (u52=true) (Fits u37->Cnd ((0:Int)<(↑u37.length:Int)) ((Jh.2.2.1++[Rul.mk y21 (Ex.mk Zj.1 Zj.2 Zj.3 Zj.4 Zj.5) z54]).length<=(9223372036854775807:Nat)->InI ((↑(Jh.2.2.1++[Rul.mk y21 (Ex.mk Zj.1 Zj.2 Zj.3 Zj.4 Zj.5) z54]).length:Int) - 1)/\((0:Int)<=(↑(Jh.2.2.1++[Rul.mk y21 (Ex.mk Zj.1 Zj.2 Zj.3 Zj.4 Zj.5) z54]).length:Int) - 1/\(↑(Jh.2.2.1++[Rul.mk y21 (Ex.mk Zj.1 Zj.2 Zj.3 Zj.4 Zj.5) z54]).length:Int) - 1<=(↑(Jh.2.2.1++[Rul.mk y21 (Ex.mk Zj.1 Zj.2 Zj.3 Zj.4 Zj.5) z54]).length:Int))/\u1z (y4w,List.take ((↑(Jh.2.2.1++[Rul.mk y21 (Ex.mk Zj.1 Zj.2 Zj.3 Zj.4 Zj.5) z54]).length:Int) - 1).toNat (Jh.2.2.1++[Rul.mk y21 (Ex.mk Zj.1 Zj.2 Zj.3 Zj.4 Zj.5) z54]),Jh.2.2.2.1,Jh.2.2.2.2.1,Jh.2.2.2.2.2.1,Jh.2.2.2.2.2.2.1,Jh.2.2.2.2.2.2.2.1,Jh.2.2.2.2.2.2.2.2.1,Jh.2.2.2.2.2.2.2.2.2.1,Jh.2.2.2.2.2.2.2.2.2.2.1,())) (InI (Jh.1+1)/\u5z (Jh.1+1,y4w,Jh.2.2.1++[Rul.mk y21 (Ex.mk Zj.1 Zj.2 Zj.3 Zj.4 Zj.5) z54],Jh.2.2.2.1,Jh.2.2.2.2.1,Jh.2.2.2.2.2.1,Jh.2.2.2.2.2.2.1,Jh.2.2.2.2.2.2.2.1,Jh.2.2.2.2.2.2.2.2.1,Jh.2.2.2.2.2.2.2.2.2.1,Jh.2.2.2.2.2.2.2.2.2.2.1,()))) ((Jh.2.2.1++[Rul.mk y21 (Ex.mk Zj.1 Zj.2 Zj.3 Zj.4 Zj.5) z54]).length<=(9223372036854775807:Nat)->InI ((↑(Jh.2.2.1++[Rul.mk y21 (Ex.mk Zj.1 Zj.2 Zj.3 Zj.4 Zj.5) z54]).length:Int) - 1)/\((0:Int)<=(↑(Jh.2.2.1++[Rul.mk y21 (Ex.mk Zj.1 Zj.2 Zj.3 Zj.4 Zj.5) z54]).length:Int) - 1/\(↑(Jh.2.2.1++[Rul.mk y21 (Ex.mk Zj.1 Zj.2 Zj.3 Zj.4 Zj.5) z54]).length:Int) - 1<=(↑(Jh.2.2.1++[Rul.mk y21 (Ex.mk Zj.1 Zj.2 Zj.3 Zj.4 Zj.5) z54]).length:Int))/\u1z (y4w,List.take ((↑(Jh.2.2.1++[Rul.mk y21 (Ex.mk Zj.1 Zj.2 Zj.3 Zj.4 Zj.5) z54]).length:Int) - 1).toNat (Jh.2.2.1++[Rul.mk y21 (Ex.mk Zj.1 Zj.2 Zj.3 Zj.4 Zj.5) z54]),Jh.2.2.2.1,Jh.2.2.2.2.1,Jh.2.2.2.2.2.1,Jh.2.2.2.2.2.2.1,Jh.2.2.2.2.2.2.2.1,Jh.2.2.2.2.2.2.2.2.1,Jh.2.2.2.2.2.2.2.2.2.1,Jh.2.2.2.2.2.2.2.2.2.2.1,()))) (u1z (y7n,Jh.2.2.1,Jh.2.2.2.1,Jh.2.2.2.2.1,Jh.2.2.2.2.2.1,Jh.2.2.2.2.2.2.1,Jh.2.2.2.2.2.2.2.1,Jh.2.2.2.2.2.2.2.2.1,Jh.2.2.2.2.2.2.2.2.2.1,Jh.2.2.2.2.2.2.2.2.2.2.1,()))) ((0:Int),u34,[],[ByteArray.mk (Array.mk [102,105,114,115,116]),ByteArray.mk (Array.mk [115,101,99,111,110,100]),ByteArray.mk (Array.mk [116,104,105,114,100]),ByteArray.mk (Array.mk [102,111,117,114,116,104])],B3.2.2.2.2.2.2.2.2.1,B3.2.2.2.2.2.2.2.1,B3.2.2.2.2.2.2.1,B3.2.2.2.2.2.1,B3.2.2.2.2.1,B3.2.2.2.1,B3.2.1,()))) ((0:Int),[],W6.2.2.1,W6.2.2.2.2.2.2.2.1,W6.2.2.2.2.2.2.1,W6.2.2.2.2.2.1,W6.2.2.2.2.1,W6.2.2.2.1,W6.2.1,()))) ((0:Int),[],w9e,Vv.2.2.2.2.2.2.1,Vv.2.2.2.2.2.1,Vv.2.2.2.2.1,Vv.2.2.2.1,Vv.2.2.1,()))) ((0:Int),z8w,[],Ql.2.2.2.2.2.1,Ql.2.2.2.2.1,Ql.2.2.1,Ql.2.2.2.1,())) (Qb list Ql.2.1 (3:Int) fun Qv z6s=>q3q Qv [ByteArray.mk (Array.mk [108,97]),ByteArray.mk (Array.mk [108,98])] fun Wj=>LpH (fun (Qq:Int×Int×List Lay_×List Exper×List Seg×List Flg×Unit) (u1s:Int×Int×List Lay_×List Exper×List Seg×List Flg×Unit->Prop)=>Fits Wj->CAt Wj Qq.1 (fun y11=>j5p list Qq.2.1 y11 fun Zd w9e=>Sml (Qq.2.2.1++[Zd]).length/\InI (Qq.1+1)/\u1s (Qq.1+1,w9e,Qq.2.2.1++[Zd],Qq.2.2.2.1,Qq.2.2.2.2.1,Qq.2.2.2.2.2.1,())) (Qb list Qq.2.1 (4:Int) fun Wx z8w=>q3q Wx [ByteArray.mk (Array.mk [120,97]),ByteArray.mk (Array.mk [120,98]),ByteArray.mk (Array.mk [120,99])] fun Vv=>LpH (fun (Zd:Int×Int×List Exper×List Flg×List Seg×List Lay_×Unit) (u38:Int×Int×List Exper×List Flg×List Seg×List Lay_×Unit->Prop)=>Fits Vv->Cnd (Zd.1<(↑Vv.length:Int)) (Fits Zd.2.2.2.1->Cnd ((0:Int)<(↑Zd.2.2.2.1.length:Int)) (Fits Zd.2.2.2.2.2.1->Cnd ((0:Int)<(↑Zd.2.2.2.2.2.1.length:Int)) (At Vv Zd.1 fun y17=>Fits Zd.2.2.2.1->Qb list Zd.2.1 (↑Zd.2.2.2.1.length:Int) fun q4z y7n=>At Zd.2.2.2.1 q4z fun y21=>Fits Zd.2.2.2.2.2.1->Fits y21.3->Qb list y7n (↑Zd.2.2.2.2.2.1.length:Int) fun z54 y4w=>At Zd.2.2.2.2.2.1 z54 fun y26=>Wl list y4w fun w5j u53=>Qb list u53 (3:Int) fun y7o u54=>InI ((1:Int)+y7o)/\q3r list u54 (↑y21.3.length:Int) fun u10 u39=>Jn1 (fun (q68:Int×Int×List Rng×List Exper×List Lay_×List Flg×List Seg×Unit)=>Jn1 (fun (Zi:Int×ByteArray×ByteArray×List Val×List Ex×Int×List Seg×List Flg×List Lay_×List Exper×List Rng×Unit)=>j0h (Envt.mk (Sett.mk Zs w9f w4b) y41 Zi.2.2.2.2.2.2.1 Zi.2.2.2.2.2.2.2.1 Zi.2.2.2.2.2.2.2.2.1 Zi.2.2.2.2.2.2.2.2.2.1) y26.1 now fun (u11:List Spn) (_:Int)=>W2 list Zi.2.2.2.2.2.1 (8000:Int) fun (u12 u55:Int)=>W2 list u55 (8000:Int) fun (v5v u13:Int)=>G7 u11 [Spn.mk u12 v5v] fun (u56:List Spn)=>W2 list u13 (7000:Int) fun (u57 u4a:Int)=>z52 u56 u57 fun (w5k:List Spn)=>Sml (Zi.2.2.2.2.2.2.2.2.2.1++[Exper.mk y17 y26.1 y21.1 w5j q68.1 w5k Zi.2.2.2.2.2.2.2.2.2.2.1 (Ex.mk Zi.1 Zi.2.1 Zi.2.2.1 Zi.2.2.2.1 Zi.2.2.2.2.1)]).length/\q1q (Envt.mk (Sett.mk Zs w9f w4b) y41 Zi.2.2.2.2.2.2.1 Zi.2.2.2.2.2.2.2.1 Zi.2.2.2.2.2.2.2.2.1 (Zi.2.2.2.2.2.2.2.2.2.1++[Exper.mk y17 y26.1 y21.1 w5j q68.1 w5k Zi.2.2.2.2.2.2.2.2.2.2.1 (Ex.mk Zi.1 Zi.2.1 Zi.2.2.1 Zi.2.2.2.1 Zi.2.2.2.2.1)])) fun (u58:Bool)=>Cnd (u58=true) (InI (Zd.1+1)/\u38 (Zd.1+1,u4a,Zi.2.2.2.2.2.2.2.2.2.1++[Exper.mk y17 y26.1 y21.1 w5j q68.1 w5k Zi.2.2.2.2.2.2.2.2.2.2.1 (Ex.mk Zi.1 Zi.2.1 Zi.2.2.1 Zi.2.2.2.1 Zi.2.2.2.2.1)],Zi.2.2.2.2.2.2.2.1,Zi.2.2.2.2.2.2.1,Zi.2.2.2.2.2.2.2.2.1,())) ((Zi.2.2.2.2.2.2.2.2.2.1++[Exper.mk y17 y26.1 y21.1 w5j q68.1 w5k Zi.2.2.2.2.2.2.2.2.2.2.1 (Ex.mk Zi.1 Zi.2.1 Zi.2.2.1 Zi.2.2.2.1 Zi.2.2.2.2.1)]).length<=(9223372036854775807:Nat)->InI ((↑(Zi.2.2.2.2.2.2.2.2.2.1++[Exper.mk y17 y26.1 y21.1 w5j q68.1 w5k Zi.2.2.2.2.2.2.2.2.2.2.1 (Ex.mk Zi.1 Zi.2.1 Zi.2.2.1 Zi.2.2.2.1 Zi.2.2.2.2.1)]).length:Int) - 1)/\((0:Int)<=(↑(Zi.2.2.2.2.2.2.2.2.2.1++[Exper.mk y17 y26.1 y21.1 w5j q68.1 w5k Zi.2.2.2.2.2.2.2.2.2.2.1 (Ex.mk Zi.1 Zi.2.1 Zi.2.2.1 Zi.2.2.2.1 Zi.2.2.2.2.1)]).length:Int) - 1/\(↑(Zi.2.2.2.2.2.2.2.2.2.1++[Exper.mk y17 y26.1 y21.1 w5j q68.1 w5k Zi.2.2.2.2.2.2.2.2.2.2.1 (Ex.mk Zi.1 Zi.2.1 Zi.2.2.1 Zi.2.2.2.1 Zi.2.2.2.2.1)]).length:Int) - 1<=(↑(Zi.2.2.2.2.2.2.2.2.2.1++[Exper.mk y17 y26.1 y21.1 w5j q68.1 w5k Zi.2.2.2.2.2.2.2.2.2.2.1 (Ex.mk Zi.1 Zi.2.1 Zi.2.2.1 Zi.2.2.2.1 Zi.2.2.2.2.1)]).length:Int))/\InI (Zd.1+1)/\u38 (Zd.1+1,u4a,List.take ((↑(Zi.2.2.2.2.2.2.2.2.2.1++[Exper.mk y17 y26.1 y21.1 w5j q68.1 w5k Zi.2.2.2.2.2.2.2.2.2.2.1 (Ex.mk Zi.1 Zi.2.1 Zi.2.2.1 Zi.2.2.2.1 Zi.2.2.2.2.1)]).length:Int) - 1).toNat (Zi.2.2.2.2.2.2.2.2.2.1++[Exper.mk y17 y26.1 y21.1 w5j q68.1 w5k Zi.2.2.2.2.2.2.2.2.2.2.1 (Ex.mk Zi.1 Zi.2.1 Zi.2.2.1 Zi.2.2.2.1 Zi.2.2.2.2.1)]),Zi.2.2.2.2.2.2.2.1,Zi.2.2.2.2.2.2.1,Zi.2.2.2.2.2.2.2.2.1,()))) fun (u4b:Int×ByteArray×ByteArray×List Val×List Ex×Int×List Seg×List Flg×List Lay_×List Exper×List Rng×Unit->Prop)=>Qb list q68.2.1 (2:Int) fun (u11 u4c:Int)=>Cnd (u11=1) (R1 (Envt.mk (Sett.mk Zs w9f w4b) y41 q68.2.2.2.2.2.2.1 q68.2.2.2.2.2.1 q68.2.2.2.2.1 q68.2.2.2.1) fun (u12:List ByteArray)=>q5h list u4c u12 (2:Int) fun (v5v:Ex) (u13:Int)=>u4b (v5v.1,v5v.2,v5v.3,v5v.4,v5v.5,u13,q68.2.2.2.2.2.2.1,q68.2.2.2.2.2.1,q68.2.2.2.2.1,q68.2.2.2.1,q68.2.2.1,())) (u4b ((1:Int),ByteArray.mk (Array.mk []),ByteArray.mk (Array.mk []),[],[],u4c,q68.2.2.2.2.2.2.1,q68.2.2.2.2.2.1,q68.2.2.2.2.1,q68.2.2.2.1,q68.2.2.1,()))) fun (u14:Int×Int×List Rng×List Exper×List Lay_×List Flg×List Seg×Unit->Prop)=>Cnd ((1:Int)+y7o=1) (Qb list u39 (2:Int) fun Zi u4d=>Cnd (Zi=0) (u14 ((2:Int),u4d,u10,Zd.2.2.1,Zd.2.2.2.2.2.1,Zd.2.2.2.1,Zd.2.2.2.2.1,())) (u14 ((1:Int)+y7o,u4d,u10,Zd.2.2.1,Zd.2.2.2.2.2.1,Zd.2.2.2.1,Zd.2.2.2.2.1,()))) (u14 ((1:Int)+y7o,u39,u10,Zd.2.2.1,Zd.2.2.2.2.2.1,Zd.2.2.2.1,Zd.2.2.2.2.1,()))) (q1q (Envt.mk (Sett.mk Zs w9f w4b) y41 Zd.2.2.2.2.1 Zd.2.2.2.1 Zd.2.2.2.2.2.1 Zd.2.2.1) fun y4v=>Cnd (y4v=true) (K (Envt.mk (Sett.mk Zs w9f w4b) y41 Zd.2.2.2.2.1 Zd.2.2.2.1 Zd.2.2.2.2.2.1 Zd.2.2.1) Zd.2.1) (Q5 fun z3t=>K (Envt.mk (Sett.mk (ByteArray.mk (Array.mk [])) (ByteArray.mk (Array.mk [])) (0:Int)) z3t [] [] [] []) Zd.2.1))) (q1q (Envt.mk (Sett.mk Zs w9f w4b) y41 Zd.2.2.2.2.1 Zd.2.2.2.1 Zd.2.2.2.2.2.1 Zd.2.2.1) fun B3=>Cnd (B3=true) (K (Envt.mk (Sett.mk Zs w9f w4b) y41 Zd.2.2.2.2.1 Zd.2.2.2.1 Zd.2.2.2.2.2.1 Zd.2.2.1) Zd.2.1) (Q5 fun y4v=>K (Envt.mk (Sett.mk (ByteArray.mk (Array.mk [])) (ByteArray.mk (Array.mk [])) (0:Int)) y4v [] [] [] []) Zd.2.1))) (q1q (Envt.mk (Sett.mk Zs w9f w4b) y41 Zd.2.2.2.2.1 Zd.2.2.2.1 Zd.2.2.2.2.2.1 Zd.2.2.1) fun v2r=>Cnd (v2r=true) (K (Envt.mk (Sett.mk Zs w9f w4b) y41 Zd.2.2.2.2.1 Zd.2.2.2.1 Zd.2.2.2.2.2.1 Zd.2.2.1) Zd.2.1) (Q5 fun B3=>K (Envt.mk (Sett.mk (ByteArray.mk (Array.mk [])) (ByteArray.mk (Array.mk [])) (0:Int)) B3 [] [] [] []) Zd.2.1))) ((0:Int),z8w,Qq.2.2.2.1,Qq.2.2.2.2.2.1,Qq.2.2.2.2.1,Qq.2.2.1,()))) ((0:Int),z6s,Ql.2.2.2.2.1,Ql.2.2.2.2.2.1,Ql.2.2.2.1,Ql.2.2.1,()))) ((0:Int),Um,u6o,u6n,u6p,u6q,())) fun w0c=>Qb list at_ (2:Int) fun Qf Zs=>Cnd (Qf=1) (Wl list Zs fun Qi Um=>W2 list Um (2500:Int) fun Qe Js=>w0c (Qi,ByteArray.mk (Array.mk [117,115,101,114]),Qe,Js,Qa,())) (w0c (ByteArray.mk (Array.mk []),ByteArray.mk (Array.mk []),(0:Int),Zs,Qa,()))
def q2n:Rp:=q9k U9 z0k Wb j9w B7 j3n j3r q17 j3q Uy j3w z33 z65 z9h z9c q89 z4a q1d
abbrev Bc:Type:=Int->(Bool->Prop)->Prop
def Gk:Bc:=fun op K=>Cnd ((6:Int)<=op) (K (decide (op<=15))) (K false)
abbrev Zf:Type:=List (ByteArray)->List (ByteArray)->(Bool->Prop)->Prop
def Zv:Zf:=fun s1 s2 K=>Fits s1->Fits s2->Cnd ((↑s1.length:Int)=(↑s2.length:Int)) (Fits s1->Lp1 (fun Qi j23=>CAt s1 Qi (fun y4=>At s2 Qi fun y6=>Cnd (y4=y6) (InI (Qi+1)/\j23 (Qi+1)) (K false)) (K true)) (0:Int)) (K false)
abbrev q58:Type:=Val->Val->(Bool->Prop)->Prop
def z7g(Qp:Zf):q58:=fun a b K=>Cnd (a.1=b.1) (Cnd (a.2=b.2) (Cnd (a.3=b.3) (Qp a.4 b.4 fun Qa=>K Qa) (K false)) (K false)) (K false)
def q1v:q58:=z7g Zv
abbrev Rq:Type:=Ex->Ex->(Bool->Prop)->Prop
def j1w(z1l:q58)(X:Rq):Rq:=fun a b K=>Cnd (a.1=b.1) (Cnd (a.2=b.2) (Cnd (a.3=b.3) (Fits a.4->Fits b.4->Cnd ((↑a.4.length:Int)=(↑b.4.length:Int)) (Fits a.4->Lp1 (fun Qi j23=>CAt a.4 Qi (fun y4=>At b.4 Qi fun y6=>z1l y4 y6 fun Wj=>Cnd (Wj=true) (InI (Qi+1)/\j23 (Qi+1)) (K false)) (Fits a.5->Fits b.5->Cnd ((↑a.5.length:Int)=(↑b.5.length:Int)) (Fits a.5->Lp1 (fun Qv v2q=>CAt a.5 Qv (fun y8=>At b.5 Qv fun y10=>X (Ex.mk y8.1 y8.2 y8.3 y8.4 y8.5) (Ex.mk y10.1 y10.2 y10.3 y10.4 y10.5) fun Vv=>Cnd (Vv=true) (InI (Qv+1)/\v2q (Qv+1)) (K false)) (K true)) (0:Int)) (K false))) (0:Int)) (K false)) (K false)) (K false)) (K false)
def q1e:Rq:=fun a b K=> ∀X:Rq,(∀a b K,j1w q1v X a b K->X a b K)->X a b K
abbrev Vf:Type:=List (Ex)->Ex->(List (Ex)->Prop)->Prop
def z1w(W7:Bc)(z0f:Rq)(X:Vf):Vf:=fun l e K=>Jn1 (fun Qa=>Fits e.5->Lp2 (fun Qf Zs q7c=>CAt e.5 Zs (fun y3=>X Qf (Ex.mk y3.1 y3.2 y3.3 y3.4 y3.5) fun Ql=>InI (Zs+1)/\q7c Ql (Zs+1)) (K Qf)) Qa (0:Int)) fun q5i=>W7 e.1 fun Qc=>Cnd (Qc=true) (Fits l->Lp1 (fun Qi j23=>CAt l Qi (fun y4=>z0f (Ex.mk y4.1 y4.2 y4.3 y4.4 y4.5) (Ex.mk e.1 e.2 e.3 e.4 e.5) fun Zq=>Cnd (Zq=true) (Cnd ((0:Int)<=Qi) (q5i l) (Sml (l++[Ex.mk e.1 e.2 e.3 e.4 e.5]).length/\q5i (l++[Ex.mk e.1 e.2 e.3 e.4 e.5]))) (InI (Qi+1)/\j23 (Qi+1))) (Cnd ((0:Int)<=(-1:Int)) (q5i l) (Sml (l++[Ex.mk e.1 e.2 e.3 e.4 e.5]).length/\q5i (l++[Ex.mk e.1 e.2 e.3 e.4 e.5])))) (0:Int)) (Cnd (e.1=5) (Fits l->Lp1 (fun Qi j23=>CAt l Qi (fun y4=>z0f (Ex.mk y4.1 y4.2 y4.3 y4.4 y4.5) (Ex.mk e.1 e.2 e.3 e.4 e.5) fun Zq=>Cnd (Zq=true) (Cnd ((0:Int)<=Qi) (q5i l) (Sml (l++[Ex.mk e.1 e.2 e.3 e.4 e.5]).length/\q5i (l++[Ex.mk e.1 e.2 e.3 e.4 e.5]))) (InI (Qi+1)/\j23 (Qi+1))) (Cnd ((0:Int)<=(-1:Int)) (q5i l) (Sml (l++[Ex.mk e.1 e.2 e.3 e.4 e.5]).length/\q5i (l++[Ex.mk e.1 e.2 e.3 e.4 e.5])))) (0:Int)) (q5i l))
def q44:Vf:=fun l e K=> ∀X:Vf,(∀l e K,z1w Gk q1e X l e K->X l e K)->X l e K
abbrev Wf:Type:=Val->(Val->Prop)->Prop
def Ju:Wf:=fun v K=> ∀n0,(n0=true->v.4=[])->Cnd (n0=true) (K (Val.mk v.1 v.2 v.3 [])) (Sml ([]++v.4).length/\K (Val.mk v.1 v.2 v.3 ([]++v.4)))
abbrev Gc:Type:=Ex->(Ex->Prop)->Prop
def z7h(Q9:Wf)(X:Gc):Gc:=fun e K=>Fits e.4->((0:Int)<=(0:Int)/\(0:Int)<=(↑e.4.length:Int)/\Sml (↑e.4.length:Int).toNat)/\(Fits e.4->Lp2 (fun Qf Zs q7c=>CAt e.4 Zs (fun y3=>Q9 y3 fun Ql=>Sml (Qf++[Ql]).length/\InI (Zs+1)/\q7c (Qf++[Ql]) (Zs+1)) (Fits e.5->((0:Int)<=(0:Int)/\(0:Int)<=(↑e.5.length:Int)/\Sml (↑e.5.length:Int).toNat)/\(Fits e.5->Lp2 (fun Ql q7d v95=>CAt e.5 q7d (fun y6=>X (Ex.mk y6.1 y6.2 y6.3 y6.4 y6.5) fun Wj=>Sml (Ql++[Ex.mk Wj.1 Wj.2 Wj.3 Wj.4 Wj.5]).length/\InI (q7d+1)/\v95 (Ql++[Ex.mk Wj.1 Wj.2 Wj.3 Wj.4 Wj.5]) (q7d+1)) (K (Ex.mk e.1 e.2 e.3 Qf Ql))) (List.replicate (Int.toNat (0:Int)) (Ex.mk (0:Int) (ByteArray.mk (Array.mk [])) (ByteArray.mk (Array.mk [])) [] [])) (0:Int)))) (List.replicate (Int.toNat (0:Int)) (Val.mk (0:Int) (0:Int) (ByteArray.mk (Array.mk [])) [])) (0:Int))
def z0q:Gc:=fun e K=> ∀X:Gc,(∀e K,z7h Ju X e K->X e K)->X e K
abbrev q0b:Type:=Ex->(List (Ex)->Prop)->Prop
def z1x(q5n:Vf)(z1m:Gc):q0b:=fun e K=>q5n [] (Ex.mk e.1 e.2 e.3 e.4 e.5) fun Qa=>Fits Qa->((0:Int)<=(0:Int)/\(0:Int)<=(↑Qa.length:Int)/\Sml (↑Qa.length:Int).toNat)/\(Fits Qa->Lp2 (fun Qi Um j9k=>CAt Qa Um (fun y4=>z1m (Ex.mk y4.1 y4.2 y4.3 y4.4 y4.5) fun Zq=>Sml (Qi++[Ex.mk Zq.1 Zq.2 Zq.3 Zq.4 Zq.5]).length/\InI (Um+1)/\j9k (Qi++[Ex.mk Zq.1 Zq.2 Zq.3 Zq.4 Zq.5]) (Um+1)) (K Qi)) (List.replicate (Int.toNat (0:Int)) (Ex.mk (0:Int) (ByteArray.mk (Array.mk [])) (ByteArray.mk (Array.mk [])) [] [])) (0:Int))
def z1y:q0b:=z1x q44 z0q
abbrev Zz:Type:=List (ByteArray)->(List (ByteArray)->Prop)->Prop
def Jt(x:List (ByteArray))(K:List (ByteArray)->Prop):Prop:=K (srt x)
abbrev J7:Type:=List (ByteArray)->(List (ByteArray)->Prop)->Prop
def J8(s:List (ByteArray))(K:List (ByteArray)->Prop):Prop:=K (cpt s)
abbrev Hi:Type:=Ex->(List (ByteArray)->Prop)->Prop
def q6w(q5o:q0b)(Qs:Zz)(Jb:J7):Hi:=fun e K=>q5o (Ex.mk e.1 e.2 e.3 e.4 e.5) fun Qa=>Fits Qa->Lp2 (fun Qf Zs q7c=>CAt Qa Zs (fun y3=>Cnd (y3.1=5) (Sml (Qf++[y3.3]).length/\InI (Zs+1)/\q7c (Qf++[y3.3]) (Zs+1)) (InI (Zs+1)/\q7c Qf (Zs+1))) (Qs Qf fun Qi=>Jb Qi fun Qe=>K Qe)) [] (0:Int)
def q0u:Hi:=q6w z1y Jt J8
abbrev z4j:Type:=List (ByteArray)->List (Edg)->(List (ByteArray)->Int->Prop)->Prop
def P_graph_Order(nodes:List (ByteArray))(edges:List (Edg))(K:List (ByteArray)->Int->Prop):Prop:=Go.Fl.P_graph_Order nodes (edges.map fun e=>(e.1,e.2)) K
abbrev Rr:Type:=List (Seg)->(List (ByteArray)->Int->Prop)->Prop
def q9l(q04:Hi)(q8b:z4j):Rr:=fun l K=>Fits l->Lp3 (fun Qc Z6 z8v y4s=>CAt l z8v (fun y2=>Sml (Qc++[y2.1]).length/\q04 (Ex.mk y2.5.1 y2.5.2 y2.5.3 y2.5.4 y2.5.5) fun Qe=>Fits Qe->Lp2 (fun Zq z2l y4z=>CAt Qe z2l (fun y7=>Sml (Zq++[Edg.mk y2.1 y7]).length/\InI (z2l+1)/\y4z (Zq++[Edg.mk y2.1 y7]) (z2l+1)) (InI (z8v+1)/\y4s (Qc++[y2.1]) Zq (z8v+1))) Z6 (0:Int)) (q8b Qc Z6 fun Qf Zs=>K Qf Zs)) [] [] (0:Int)
def q2o:Rr:=q9l q0u P_graph_Order
abbrev U0:Type:=Subj->ByteArray->(Int->Prop)->Prop
def Rs:U0:=fun s kind K=>Fits s.1->Lp1 (fun Qc Bp=>CAt s.1 Qc (fun y2=>Cnd (y2.1=kind) (K Qc) (InI (Qc+1)/\Bp (Qc+1))) (K (-1:Int))) (0:Int)
abbrev U1:Type:=Attr->(Attr->Prop)->Prop
def q4d(Q9:Wf):U1:=fun a K=>Q9 (Val.mk a.2.1 a.2.2 a.2.3 a.2.4) fun Qa=>K (Attr.mk a.1 Qa)
def Bd:U1:=q4d Ju
abbrev Rt:Type:=Ctxt->(Ctxt->Prop)->Prop
def q9m(Bu:U1):Rt:=fun c K=>Fits c.3->((0:Int)<=(0:Int)/\(0:Int)<=(↑c.3.length:Int)/\Sml (↑c.3.length:Int).toNat)/\(Fits c.3->Lp2 (fun Qf Zs q7c=>CAt c.3 Zs (fun y3=>Bu (Attr.mk y3.1 (Val.mk y3.2.1 y3.2.2 y3.2.3 y3.2.4)) fun Ql=>Sml (Qf++[Attr.mk Ql.1 (Val.mk Ql.2.1 Ql.2.2 Ql.2.3 Ql.2.4)]).length/\InI (Zs+1)/\q7c (Qf++[Attr.mk Ql.1 (Val.mk Ql.2.1 Ql.2.2 Ql.2.3 Ql.2.4)]) (Zs+1)) (K (Ctxt.mk c.1 c.2 Qf))) (List.replicate (Int.toNat (0:Int)) (Attr.mk (ByteArray.mk (Array.mk [])) (Val.mk (0:Int) (0:Int) (ByteArray.mk (Array.mk [])) []))) (0:Int))
def q2p:Rt:=q9m Bd
abbrev Zx:Type:=Subj->ByteArray->(Ctxt->Bool->Prop)->Prop
def z1z(J0:U0)(q3z:Rt):Zx:=fun s kind K=>J0 (Subj.mk s.1) kind fun Qa=>Cnd (Qa<0) (K (Ctxt.mk (ByteArray.mk (Array.mk [])) (ByteArray.mk (Array.mk [])) []) false) (At s.1 Qa fun y1=>q3z y1 fun Qi=>K Qi true)
def Vg:Zx:=z1z Rs q2p
abbrev Wr:Type:=Subj->ByteArray->ByteArray->(Val->Bool->Prop)->Prop
def q6x(J0:U0)(Q9:Wf):Wr:=fun s kind name K=>J0 (Subj.mk s.1) kind fun Qa=>Cnd (Qa<0) (K (Val.mk (0:Int) (0:Int) (ByteArray.mk (Array.mk [])) []) false) (At s.1 Qa fun y1=>Cnd (name=ByteArray.mk (Array.mk [107,101,121])) (K (Val.mk (3:Int) (0:Int) y1.2 []) true) (Fits y1.3->Lp5 (fun Qe Js j5h y40 (u5o:List ByteArray) u4i=>CAt y1.3 Qe (fun y5=>Cnd (y5.1=name) (Q9 (Val.mk y5.2.1 y5.2.2 y5.2.3 y5.2.4) fun Qv=>K Qv true) (InI (Qe+1)/\u4i (Qe+1) Js j5h y40 u5o)) (K (Val.mk (0:Int) (0:Int) (ByteArray.mk (Array.mk [])) []) false)) (0:Int) (0:Int) (0:Int) (ByteArray.mk (Array.mk [])) []))
def Hj:Wr:=q6x Rs Ju
abbrev q2q:Type:=Val->Val->(Bool->Prop)->Prop
def z4k(Qp:Zf):q2q:=fun a b K=>Cnd (a.1=b.1) (Cnd (a.2=b.2) (Cnd (a.3=b.3) (Qp a.4 b.4 fun Qa=>K Qa) (K false)) (K false)) (K false)
def q2r:q2q:=z4k Zv
abbrev Z8:Type:=ByteArray->ByteArray->(Bool->Prop)->Prop
def Jv:Z8:=fun s prefix_ K=>Cnd ((↑prefix_.size:Int)<=(↑s.size:Int)) (((0:Int)<=(0:Int)/\(0:Int)<=(↑prefix_.size:Int)/\(↑prefix_.size:Int)<=(↑s.size:Int))/\K (decide (s.extract (Int.toNat (0:Int)) (↑prefix_.size:Int).toNat=prefix_))) (K false)
abbrev Vp:Type:=ByteArray->ByteArray->(Bool->Prop)->Prop
def q1f(Za:Z8):Vp:=fun s prefix_ K=>Za s prefix_ fun Qa=>K Qa
def Gl:Vp:=q1f Jv
abbrev Wy:Type:=ByteArray->ByteArray->(Bool->Prop)->Prop
def Gm:Wy:=fun s suffix K=>Cnd ((↑suffix.size:Int)<=(↑s.size:Int)) (InI ((↑s.size:Int) - (↑suffix.size:Int))/\((0:Int)<=(↑s.size:Int) - (↑suffix.size:Int)/\(↑s.size:Int) - (↑suffix.size:Int)<=(↑s.size:Int)/\(↑s.size:Int)<=(↑s.size:Int))/\K (decide (s.extract ((↑s.size:Int) - (↑suffix.size:Int)).toNat (↑s.size:Int).toNat=suffix))) (K false)
abbrev Vq:Type:=ByteArray->ByteArray->(Bool->Prop)->Prop
def q1g(W8:Wy):Vq:=fun s suffix K=>W8 s suffix fun Qa=>K Qa
def Gn:Vq:=q1g Gm
abbrev q2s:Type:=ByteArray->ByteArray->(Bool->Prop)->Prop
def q2t(s:ByteArray)(substr:ByteArray)(K:Bool->Prop):Prop:=s.size<4294967281/\K (Go.Lib.contains s.data.toList substr.data.toList)
abbrev q7o:Type:=Val->(Bool->Prop)->Prop
def q7p:q7o:=fun v K=>Jn1 (fun Qa=>Cnd (Qa=true) (Cnd (v.3=ByteArray.mk (Array.mk [])) (Fits v.4->K (decide ((↑v.4.length:Int)=0))) (K false)) (Jn1 (fun Qc=>Cnd (Qc=true) (Cnd (v.2=0) (Fits v.4->K (decide ((↑v.4.length:Int)=0))) (K false)) (Cnd (v.2=0) (K (decide (v.3=ByteArray.mk (Array.mk [])))) (K false))) fun w0c=>Cnd (v.1=3) (w0c (decide (v.1=3))) (w0c (decide (v.1=4))))) fun q5i=>Cnd (v.1=1) (q5i (decide (v.1=1))) (q5i (decide (v.1=2)))
abbrev q59:Type:=ByteArray->(Bool->Prop)->Prop
def z7i(Z0:V8):q59:=fun s K=>Cnd ((200:Int)<(↑s.size:Int)) (K false) (Z0 s fun Qa=>Cnd (Qa=true) (Lp1 (fun (Qc:ByteArray×Nat) Bp=>Cnd (Qc.2<Qc.1.size) (Cnd ((↑(Go.Utf8.decode Qc.1 Qc.2).1:Int)<(32:Int)) (K false) (Cnd ((↑(Go.Utf8.decode Qc.1 Qc.2).1:Int)=(127:Int)) (K false) (Bp (Qc.1,Qc.2+(Go.Utf8.decode Qc.1 Qc.2).2)))) (K true)) (s,(0:Nat))) (K false))
def z0r:q59:=z7i V9
abbrev q9n:Type:=ByteArray->ByteArray->(List (ByteArray)->Prop)->Prop
def q9o(s:ByteArray)(sep:ByteArray)(K:List (ByteArray)->Prop):Prop:=sep.size=1/\s.size<4294967281/\K (q1s s sep)
abbrev Jw:Type:=ByteArray->ByteArray->(ByteArray->Bool->Prop)->Prop
def Gq(Za:Z8):Jw:=fun s prefix_ K=>Za s prefix_ fun Qa=>Cnd (Qa=true) (((0:Int)<=(↑prefix_.size:Int)/\(↑prefix_.size:Int)<=(↑s.size:Int)/\(↑s.size:Int)<=(↑s.size:Int))/\K (s.extract (↑prefix_.size:Int).toNat (↑s.size:Int).toNat) true) (K s false)
def Gs:Jw:=Gq Jv
abbrev Vr:Type:=ByteArray->ByteArray->(ByteArray->Bool->Prop)->Prop
def q1h(W9:Jw):Vr:=fun s prefix_ K=>W9 s prefix_ fun Qa Qy=>K Qa Qy
def Gt:Vr:=q1h Gs
abbrev z10:Type:=ByteArray->(Int->Bool->Prop)->Prop
def q45(s:ByteArray)(K:Int->Bool->Prop):Prop:=s.size<=281474976710656/\y6i s K
abbrev Uc:Type:=ByteArray->(Int->Int->Prop)->Prop
def q2u(G9:Vr)(q0l:z10):Uc:=fun s K=>G9 s (ByteArray.mk (Array.mk [45])) fun Qa Qy=>Cnd (Qa=ByteArray.mk (Array.mk [])) (K (0:Int) (1:Int)) (((0:Int)<=(0:Int)/\(0:Int)<(↑Qa.size:Int))/\ ∀b1,Qa[Int.toNat (0:Int)]? =some b1->Cnd ((↑b1.toNat:Int)=48) (Cnd ((1:Int)<(↑Qa.size:Int)) (K (0:Int) (1:Int)) (Cnd (Qy=true) (K (0:Int) (1:Int)) (Lp1 (fun (Qi:ByteArray×Nat) j23=>Cnd (Qi.2<Qi.1.size) (Cnd ((↑(Go.Utf8.decode Qi.1 Qi.2).1:Int)<(48:Int)) (K (0:Int) (1:Int)) (Cnd ((57:Int)<(↑(Go.Utf8.decode Qi.1 Qi.2).1:Int)) (K (0:Int) (1:Int)) (j23 (Qi.1,Qi.2+(Go.Utf8.decode Qi.1 Qi.2).2)))) (q0l s fun Qe Js=>Cnd ((match (Qe,Js,()).2.1 with|true=>false|false=>true)=true) (K (0:Int) (3:Int)) (Cnd (Qe<(-1099511627776:Int)) (K (0:Int) (3:Int)) (Cnd ((1099511627776:Int)<Qe) (K (0:Int) (3:Int)) (K Qe (0:Int)))))) (Qa,(0:Nat))))) (Lp1 (fun (Qi:ByteArray×Nat) j23=>Cnd (Qi.2<Qi.1.size) (Cnd ((↑(Go.Utf8.decode Qi.1 Qi.2).1:Int)<(48:Int)) (K (0:Int) (1:Int)) (Cnd ((57:Int)<(↑(Go.Utf8.decode Qi.1 Qi.2).1:Int)) (K (0:Int) (1:Int)) (j23 (Qi.1,Qi.2+(Go.Utf8.decode Qi.1 Qi.2).2)))) (q0l s fun Qe Js=>Cnd ((match (Qe,Js,()).2.1 with|true=>false|false=>true)=true) (K (0:Int) (3:Int)) (Cnd (Qe<(-1099511627776:Int)) (K (0:Int) (3:Int)) (Cnd ((1099511627776:Int)<Qe) (K (0:Int) (3:Int)) (K Qe (0:Int)))))) (Qa,(0:Nat))))
def H3:Uc:=q2u Gt q45
abbrev Gu:Type:=ByteArray->(A3->Bool->Prop)->Prop
def z4l(q30:q9n)(Ra:Uc):Gu:=fun s K=>q30 s (ByteArray.mk (Array.mk [46])) fun Qa=>Fits Qa->Cnd ((↑Qa.length:Int)=3) (Fits Qa->LpH (fun (Qi:Int×Int×Int×Int×Int×Int×Int×Unit) j23=>CAt Qa Qi.1 (fun y4=>Ra y4 fun Zq z2l=>Cnd (z2l=0) (Cnd (Zq<0) (K ((0:Int),(0:Int),(0:Int)) false) (Cnd ((999999:Int)<Zq) (K ((0:Int),(0:Int),(0:Int)) false) (((0:Int)<=Qi.1/\Qi.1<(↑(3:Nat):Int))/\((True/\(Qi.1=(↑(nat_lit 0):Int)->InI (Qi.1+1)/\j23 (Qi.1+1,Zq,Qi.2.2.1,Qi.2.2.2.1,Qi.2.2.2.2.1,Qi.2.2.2.2.2.1,Qi.2.2.2.2.2.2.1,())))/\(Qi.1=(↑(nat_lit 1):Int)->InI (Qi.1+1)/\j23 (Qi.1+1,Qi.2.1,Zq,Qi.2.2.2.1,Qi.2.2.2.2.1,Qi.2.2.2.2.2.1,Qi.2.2.2.2.2.2.1,())))/\(Qi.1=(↑(nat_lit 2):Int)->InI (Qi.1+1)/\j23 (Qi.1+1,Qi.2.1,Qi.2.2.1,Zq,Qi.2.2.2.2.1,Qi.2.2.2.2.2.1,Qi.2.2.2.2.2.2.1,()))))) (K ((0:Int),(0:Int),(0:Int)) false)) (K (Qi.2.1,Qi.2.2.1,Qi.2.2.2.1) true)) ((0:Int),(0:Int),(0:Int),(0:Int),(0:Int),(0:Int),(0:Int),())) (K ((0:Int),(0:Int),(0:Int)) false)
def q2v:Gu:=z4l q9o H3
abbrev q2w:Type:=Val->(Int->Prop)->Prop
def z4m(q8c:q7o)(q6o:q59)(Wg:Gu):q2w:=fun v K=>Cnd (v.1<1) (K (7:Int)) (Cnd ((5:Int)<v.1) (K (7:Int)) (q8c v fun Qa=>Cnd (Qa=true) (Cnd (v.1=1) (Cnd (v.2=0) (K (0:Int)) (Cnd (v.2=1) (K (0:Int)) (K (3:Int)))) (Cnd (v.1=2) (Cnd (v.2<(-1099511627776:Int)) (K (3:Int)) (Cnd ((1099511627776:Int)<v.2) (K (3:Int)) (K (0:Int)))) (Cnd (v.1=3) (q6o v.3 fun Qc=>Cnd (Qc=true) (K (0:Int)) (K (2:Int))) (Cnd (v.1=4) (Wg v.3 fun (_:Int×Int×Int) Z6=>Cnd (Z6=true) (K (0:Int)) (K (1:Int))) (Cnd (v.1=5) (Fits v.4->Cnd ((20:Int)<(↑v.4.length:Int)) (K (5:Int)) (Fits v.4->Lp1 (fun Qi j23=>CAt v.4 Qi (fun y4=>q6o y4 fun Zq=>Cnd (Zq=true) (InI (Qi+1)/\j23 (Qi+1)) (K (2:Int))) (Fits v.4->Lp1 (fun Ql j5f=>Cnd (Ql<(↑v.4.length:Int)) (Cnd ((0:Int)<Ql) (InI (Ql - 1)/\((0:Int)<=Ql - 1/\Ql - 1<(↑v.4.length:Int))/\ ∀y6,v.4[(Ql - 1).toNat]? =some y6->At v.4 Ql fun y8=>Cnd (Lk.blt y6 y8) (InI (Ql+1)/\j5f (Ql+1)) (K (9:Int))) (InI (Ql+1)/\j5f (Ql+1))) (K (0:Int))) (0:Int))) (0:Int))) (K (0:Int))))))) (K (15:Int))))
def q7q:q2w:=z4m q7p z0r q2v
abbrev Ru:Type:=Val->Val->(Int->Int->Prop)->Prop
def q9p(q31:q2w)(Wg:Gu):Ru:=fun a b K=>q31 a fun Qa=>Cnd (Qa=0) (q31 b fun Qc=>Cnd (Qc=0) (Cnd (a.1=b.1) (Cnd (a.1=1) (K (0:Int) (8:Int)) (Cnd (a.1=5) (K (0:Int) (8:Int)) (Cnd (a.1=2) (Cnd (a.2=a.2) (Cnd (b.2=b.2) (Cnd (a.2<b.2) (K (-1:Int) (0:Int)) (Cnd (b.2<a.2) (K (1:Int) (0:Int)) (K (0:Int) (0:Int)))) (K (1:Int) (0:Int))) (Cnd (b.2=b.2) (K (-1:Int) (0:Int)) (K (0:Int) (0:Int)))) (Cnd (a.1=3) (Cnd (a.3=a.3) (Cnd (b.3=b.3) (Cnd (Lk.blt a.3 b.3) (K (-1:Int) (0:Int)) (Cnd (Lk.blt b.3 a.3) (K (1:Int) (0:Int)) (K (0:Int) (0:Int)))) (K (1:Int) (0:Int))) (Cnd (b.3=b.3) (K (-1:Int) (0:Int)) (K (0:Int) (0:Int)))) (Wg a.3 fun (Qf:Int×Int×Int) _=>Wg b.3 fun (Qi:Int×Int×Int) _=>([Qf.1,Qf.2.1,Qf.2.2].length<=(9223372036854775807:Nat)->Lp1 (fun Ql j5f=>Cnd (Ql<(↑[Qf.1,Qf.2.1,Qf.2.2].length:Int)) (((0:Int)<=Ql/\Ql<(↑[Qf.1,Qf.2.1,Qf.2.2].length:Int))/\ ∀y6,[Qf.1,Qf.2.1,Qf.2.2][Ql.toNat]? =some y6->[Qi.1,Qi.2.1,Qi.2.2].length<=(9223372036854775807:Nat)->Cnd ((↑[Qi.1,Qi.2.1,Qi.2.2].length:Int)<=Ql) (K (1:Int) (0:Int)) (((0:Int)<=Ql/\Ql<(↑[Qi.1,Qi.2.1,Qi.2.2].length:Int))/\ ∀y9,[Qi.1,Qi.2.1,Qi.2.2][Ql.toNat]? =some y9->Cnd (y6=y6) (Cnd (y9=y9) (Cnd (y6<y9) (Cnd ((-1:Int)=(0:Int)) (InI (Ql+1)/\j5f (Ql+1)) (K (-1:Int) (0:Int))) (Cnd (y9<y6) (Cnd ((1:Int)=(0:Int)) (InI (Ql+1)/\j5f (Ql+1)) (K (1:Int) (0:Int))) (Cnd ((0:Int)=(0:Int)) (InI (Ql+1)/\j5f (Ql+1)) (K (0:Int) (0:Int))))) (Cnd ((1:Int)=(0:Int)) (InI (Ql+1)/\j5f (Ql+1)) (K (1:Int) (0:Int)))) (Cnd (y9=y9) (Cnd ((-1:Int)=(0:Int)) (InI (Ql+1)/\j5f (Ql+1)) (K (-1:Int) (0:Int))) (Cnd ((0:Int)=(0:Int)) (InI (Ql+1)/\j5f (Ql+1)) (K (0:Int) (0:Int)))))) ([Qf.1,Qf.2.1,Qf.2.2].length<=(9223372036854775807:Nat)->[Qi.1,Qi.2.1,Qi.2.2].length<=(9223372036854775807:Nat)->Cnd ((↑[Qf.1,Qf.2.1,Qf.2.2].length:Int)<(↑[Qi.1,Qi.2.1,Qi.2.2].length:Int)) (K (-1:Int) (0:Int)) (K (0:Int) (0:Int)))) (0:Int))/\([Qf.1,Qf.2.1,Qf.2.2].length<=(9223372036854775807:Nat)->Lp1 (fun Ql j5f=>Cnd (Ql<(↑[Qf.1,Qf.2.1,Qf.2.2].length:Int)) (((0:Int)<=Ql/\Ql<(↑[Qf.1,Qf.2.1,Qf.2.2].length:Int))/\ ∀y6,[Qf.1,Qf.2.1,Qf.2.2][Ql.toNat]? =some y6->[Qi.1,Qi.2.1,Qi.2.2].length<=(9223372036854775807:Nat)->Cnd ((↑[Qi.1,Qi.2.1,Qi.2.2].length:Int)<=Ql) (K (1:Int) (0:Int)) (((0:Int)<=Ql/\Ql<(↑[Qi.1,Qi.2.1,Qi.2.2].length:Int))/\ ∀y9,[Qi.1,Qi.2.1,Qi.2.2][Ql.toNat]? =some y9->Cnd (y6=y6) (Cnd (y9=y9) (Cnd (y6<y9) (Cnd ((-1:Int)=(0:Int)) (InI (Ql+1)/\j5f (Ql+1)) (K (-1:Int) (0:Int))) (Cnd (y9<y6) (Cnd ((1:Int)=(0:Int)) (InI (Ql+1)/\j5f (Ql+1)) (K (1:Int) (0:Int))) (Cnd ((0:Int)=(0:Int)) (InI (Ql+1)/\j5f (Ql+1)) (K (0:Int) (0:Int))))) (Cnd ((1:Int)=(0:Int)) (InI (Ql+1)/\j5f (Ql+1)) (K (1:Int) (0:Int)))) (Cnd (y9=y9) (Cnd ((-1:Int)=(0:Int)) (InI (Ql+1)/\j5f (Ql+1)) (K (-1:Int) (0:Int))) (Cnd ((0:Int)=(0:Int)) (InI (Ql+1)/\j5f (Ql+1)) (K (0:Int) (0:Int)))))) ([Qf.1,Qf.2.1,Qf.2.2].length<=(9223372036854775807:Nat)->[Qi.1,Qi.2.1,Qi.2.2].length<=(9223372036854775807:Nat)->Cnd ((↑[Qf.1,Qf.2.1,Qf.2.2].length:Int)<(↑[Qi.1,Qi.2.1,Qi.2.2].length:Int)) (K (-1:Int) (0:Int)) (K (0:Int) (0:Int)))) (0:Int))))))) (K (0:Int) (8:Int))) (K (0:Int) Qc)) (K (0:Int) Qa)
def Rv:Ru:=q9p q7q q2v
abbrev q2x:Type:=Subj->Ex->(Bool->Prop)->Prop
def z4n(Jo:Wr)(W7:Bc)(Bv:q2q)(Ha:Vp)(Hb:Vq)(Rb:q2s)(R2:Ru):q2x:=fun s e K=>Jo (Subj.mk s.1) e.2 e.3 fun Qa Qy=>Cnd (Qy=true) (W7 e.1 fun Qc=>Cnd (Qc=true) (Cnd (e.1=6) (K true) (Cnd (e.1=8) (Fits e.4->Lp1 (fun Qi j23=>CAt e.4 Qi (fun y4=>Bv Qa y4 fun Zq=>Cnd (Zq=true) (K (decide ((0:Int)<=Qi))) (InI (Qi+1)/\j23 (Qi+1))) (K (decide ((0:Int)<=(-1:Int))))) (0:Int)) (Fits e.4->Cnd ((↑e.4.length:Int)=0) (K false) (((0:Int)<=(0:Int)/\(0:Int)<(↑e.4.length:Int))/\ ∀y3,e.4[Int.toNat (0:Int)]? =some y3->Cnd (Qa.1=3) (Cnd (e.1=7) (Bv Qa y3 fun Ql=>K Ql) (Cnd (e.1=9) (Cnd (y3.1=3) (Ha Qa.3 y3.3 fun Ql=>K Ql) (K false)) (Cnd (e.1=10) (Cnd (y3.1=3) (Hb Qa.3 y3.3 fun Ql=>K Ql) (K false)) (Cnd (e.1=11) (Cnd (y3.1=3) (Rb Qa.3 y3.3 fun Ql=>Cnd (Ql=true) (K true) (Cnd (y3.1=3) (Cnd (Qa.1=5) (Fits Qa.4->Lp1 (fun Qv v2q=>CAt Qa.4 Qv (fun y8=>Cnd (y3.3=y8) (K (decide ((0:Int)<=Qv))) (InI (Qv+1)/\v2q (Qv+1))) (K (decide ((0:Int)<=(-1:Int))))) (0:Int)) (K false)) (K false))) (Cnd (y3.1=3) (Cnd (Qa.1=5) (Fits Qa.4->Lp1 (fun Zq v7n=>CAt Qa.4 Zq (fun y7=>Cnd (y3.3=y7) (K (decide ((0:Int)<=Zq))) (InI (Zq+1)/\v7n (Zq+1))) (K (decide ((0:Int)<=(-1:Int))))) (0:Int)) (K false)) (K false))) (R2 Qa y3 fun Ql q7d=>Cnd (q7d=0) (Cnd (e.1=12) (K (decide (Ql<0))) (Cnd (e.1=13) (K (decide (Ql<=0))) (Cnd (e.1=14) (K (decide ((0:Int)<Ql))) (K (decide ((0:Int)<=Ql)))))) (K false)))))) (Cnd (e.1=7) (Bv Qa y3 fun Ql=>K Ql) (Cnd (e.1=9) (K false) (Cnd (e.1=10) (K false) (Cnd (e.1=11) (Cnd (y3.1=3) (Cnd (Qa.1=5) (Fits Qa.4->Lp1 (fun Zq v7n=>CAt Qa.4 Zq (fun y7=>Cnd (y3.3=y7) (K (decide ((0:Int)<=Zq))) (InI (Zq+1)/\v7n (Zq+1))) (K (decide ((0:Int)<=(-1:Int))))) (0:Int)) (K false)) (K false)) (R2 Qa y3 fun Ql q7d=>Cnd (q7d=0) (Cnd (e.1=12) (K (decide (Ql<0))) (Cnd (e.1=13) (K (decide (Ql<=0))) (Cnd (e.1=14) (K (decide ((0:Int)<Ql))) (K (decide ((0:Int)<=Ql)))))) (K false)))))))))) (K false)) (K false)
def Be:q2x:=z4n Hj Gk q2r Gl Gn q2t Rv
abbrev Jm:Type:=Subj->List (ByteArray)->Ex->(Bool->Prop)->Prop
def z4o(q8d:q2x)(X:Jm):Jm:=fun s in_ e K=>Cnd (e.1=1) (K true) (Cnd (e.1=2) (Fits e.5->Lp1 (fun Qc Bp=>CAt e.5 Qc (fun y2=>X (Subj.mk s.1) in_ (Ex.mk y2.1 y2.2 y2.3 y2.4 y2.5) fun Qe=>Cnd (Qe=true) (InI (Qc+1)/\Bp (Qc+1)) (K (match decide ((0:Int)<=Qc) with|true=>false|false=>true))) (K true)) (0:Int)) (Cnd (e.1=3) (Fits e.5->Lp1 (fun Qc Bp=>CAt e.5 Qc (fun y2=>X (Subj.mk s.1) in_ (Ex.mk y2.1 y2.2 y2.3 y2.4 y2.5) fun Qe=>Cnd (Qe=true) (K (decide ((0:Int)<=Qc))) (InI (Qc+1)/\Bp (Qc+1))) (K (decide ((0:Int)<=(-1:Int))))) (0:Int)) (Cnd (e.1=4) (Fits e.5->Cnd ((0:Int)<(↑e.5.length:Int)) (((0:Int)<=(0:Int)/\(0:Int)<(↑e.5.length:Int))/\ ∀y1,e.5[Int.toNat (0:Int)]? =some y1->X (Subj.mk s.1) in_ (Ex.mk y1.1 y1.2 y1.3 y1.4 y1.5) fun Qi=>K (match decide ((Qi,()).1=true) with|true=>false|false=>true)) (K false)) (Cnd (e.1=5) (Fits in_->Lp1 (fun Qc Bp=>CAt in_ Qc (fun y2=>Cnd (e.3=y2) (K (decide ((0:Int)<=Qc))) (InI (Qc+1)/\Bp (Qc+1))) (K (decide ((0:Int)<=(-1:Int))))) (0:Int)) (q8d (Subj.mk s.1) (Ex.mk e.1 e.2 e.3 e.4 e.5) fun Qa=>K Qa)))))
def Ud:Jm:=fun s in_ e K=> ∀X:Jm,(∀s in_ e K,z4o Be X s in_ e K->X s in_ e K)->X s in_ e K
abbrev Ue:Type:=Seg->Subj->List (ByteArray)->(Bool->Prop)->Prop
def q2y(Qn:Zx)(Zh:Jm):Ue:=fun g s in_ K=>Qn (Subj.mk s.1) g.2 fun Qa Qy=>Cnd (Qy=true) (Fits g.4->Lp1 (fun Qf j21=>CAt g.4 Qf (fun y3=>Cnd (Qa.2=y3) (Cnd ((0:Int)<=Qf) (K false) (Fits g.3->Lp1 (fun Zq v7n=>CAt g.3 Zq (fun y7=>Cnd (Qa.2=y7) (Cnd ((0:Int)<=Zq) (K true) (Cnd (g.5.1=0) (K false) (Zh (Subj.mk s.1) in_ (Ex.mk g.5.1 g.5.2 g.5.3 g.5.4 g.5.5) fun Qq=>K Qq))) (InI (Zq+1)/\v7n (Zq+1))) (Cnd ((0:Int)<=(-1:Int)) (K true) (Cnd (g.5.1=0) (K false) (Zh (Subj.mk s.1) in_ (Ex.mk g.5.1 g.5.2 g.5.3 g.5.4 g.5.5) fun Qv=>K Qv)))) (0:Int))) (InI (Qf+1)/\j21 (Qf+1))) (Cnd ((0:Int)<=(-1:Int)) (K false) (Fits g.3->Lp1 (fun Qe w9h=>CAt g.3 Qe (fun y5=>Cnd (Qa.2=y5) (Cnd ((0:Int)<=Qe) (K true) (Cnd (g.5.1=0) (K false) (Zh (Subj.mk s.1) in_ (Ex.mk g.5.1 g.5.2 g.5.3 g.5.4 g.5.5) fun Qv=>K Qv))) (InI (Qe+1)/\w9h (Qe+1))) (Cnd ((0:Int)<=(-1:Int)) (K true) (Cnd (g.5.1=0) (K false) (Zh (Subj.mk s.1) in_ (Ex.mk g.5.1 g.5.2 g.5.3 g.5.4 g.5.5) fun Ql=>K Ql)))) (0:Int)))) (0:Int)) (K false)
def H4:Ue:=q2y Vg Ud
abbrev J9:Type:=List (Seg)->Subj->(List (ByteArray)->Prop)->Prop
def q4e(q32:Rr)(Rd:Ue)(Qs:Zz):J9:=fun l s K=>q32 l fun Qa Qy=>Cnd (Qy=0) (Fits l->Lp2 (fun Qf j21 q7c=>CAt l Qf (fun y3=>InI (Qf+1)/\q7c (Qf+1) (put j21 y3.1 (Seg.mk y3.1 y3.2 y3.3 y3.4 (Ex.mk y3.5.1 y3.5.2 y3.5.3 y3.5.4 y3.5.5)))) (Fits Qa->Lp2 (fun Qe Js w9d=>CAt Qa Js (fun y5=>Rd (Seg.mk ((j21 y5).getD (Seg.mk (ByteArray.mk (Array.mk [])) (ByteArray.mk (Array.mk [])) [] [] (Ex.mk (0:Int) (ByteArray.mk (Array.mk [])) (ByteArray.mk (Array.mk [])) [] []))).1 ((j21 y5).getD (Seg.mk (ByteArray.mk (Array.mk [])) (ByteArray.mk (Array.mk [])) [] [] (Ex.mk (0:Int) (ByteArray.mk (Array.mk [])) (ByteArray.mk (Array.mk [])) [] []))).2 ((j21 y5).getD (Seg.mk (ByteArray.mk (Array.mk [])) (ByteArray.mk (Array.mk [])) [] [] (Ex.mk (0:Int) (ByteArray.mk (Array.mk [])) (ByteArray.mk (Array.mk [])) [] []))).3 ((j21 y5).getD (Seg.mk (ByteArray.mk (Array.mk [])) (ByteArray.mk (Array.mk [])) [] [] (Ex.mk (0:Int) (ByteArray.mk (Array.mk [])) (ByteArray.mk (Array.mk [])) [] []))).4 (Ex.mk ((j21 y5).getD (Seg.mk (ByteArray.mk (Array.mk [])) (ByteArray.mk (Array.mk [])) [] [] (Ex.mk (0:Int) (ByteArray.mk (Array.mk [])) (ByteArray.mk (Array.mk [])) [] []))).5.1 ((j21 y5).getD (Seg.mk (ByteArray.mk (Array.mk [])) (ByteArray.mk (Array.mk [])) [] [] (Ex.mk (0:Int) (ByteArray.mk (Array.mk [])) (ByteArray.mk (Array.mk [])) [] []))).5.2 ((j21 y5).getD (Seg.mk (ByteArray.mk (Array.mk [])) (ByteArray.mk (Array.mk [])) [] [] (Ex.mk (0:Int) (ByteArray.mk (Array.mk [])) (ByteArray.mk (Array.mk [])) [] []))).5.3 ((j21 y5).getD (Seg.mk (ByteArray.mk (Array.mk [])) (ByteArray.mk (Array.mk [])) [] [] (Ex.mk (0:Int) (ByteArray.mk (Array.mk [])) (ByteArray.mk (Array.mk [])) [] []))).5.4 ((j21 y5).getD (Seg.mk (ByteArray.mk (Array.mk [])) (ByteArray.mk (Array.mk [])) [] [] (Ex.mk (0:Int) (ByteArray.mk (Array.mk [])) (ByteArray.mk (Array.mk [])) [] []))).5.5)) (Subj.mk s.1) Qe fun Qv=>Cnd (Qv=true) (Sml (Qe++[y5]).length/\InI (Js+1)/\w9d (Qe++[y5]) (Js+1)) (InI (Js+1)/\w9d Qe (Js+1))) (Qs Qe fun Ql=>K Ql)) [] (0:Int))) (0:Int) fun _=>none) (K [])
def Vk:J9:=q4e q2o H4 Jt
abbrev Ws:Type:=Envt->Subj->List (Frc)->(ByteArray->ByteArray->Int->List (Decl)->List (Seg)->List (Flg)->List (Lay_)->List (Exper)->List (Ctxt)->List (Frc)->List (ByteArray)->(ByteArray->Option (Dcs))->(ByteArray->Option (Bool))->Prop)->Prop
def q6y(Zc:J9):Ws:=fun v s forced K=>(Zc v.3 (Subj.mk s.1) fun Qa=>(K v.1.1 v.1.2 v.1.3 v.2 v.3 v.4 v.5 v.6 s.1 forced Qa (fun _=>none) fun _=>none)/\K v.1.1 v.1.2 v.1.3 v.2 v.3 v.4 v.5 v.6 s.1 forced Qa (fun _=>none) fun _=>none)/\((Zc v.3 (Subj.mk s.1) fun Qa=>K v.1.1 v.1.2 v.1.3 v.2 v.3 v.4 v.5 v.6 s.1 forced Qa (fun _=>none) fun _=>none)/\Zc v.3 (Subj.mk s.1) fun Qa=>K v.1.1 v.1.2 v.1.3 v.2 v.3 v.4 v.5 v.6 s.1 forced Qa (fun _=>none) fun _=>none)/\(Zc v.3 (Subj.mk s.1) fun Qa=>K v.1.1 v.1.2 v.1.3 v.2 v.3 v.4 v.5 v.6 s.1 forced Qa (fun _=>none) fun _=>none)/\Zc v.3 (Subj.mk s.1) fun Qa=>K v.1.1 v.1.2 v.1.3 v.2 v.3 v.4 v.5 v.6 s.1 forced Qa (fun _=>none) fun _=>none
def Hk:Ws:=q6y Vk
abbrev Wk:Type:=ByteArray->ByteArray->Int->List (Decl)->List (Seg)->List (Flg)->List (Lay_)->List (Exper)->List (Ctxt)->List (Frc)->List (ByteArray)->(ByteArray->Option (Dcs))->(ByteArray->Option (Bool))->ByteArray->(Flg->Bool->(ByteArray->Option (Dcs))->(ByteArray->Option (Bool))->Prop)->Prop
def Jx:Wk:=fun _ _ _ _ _ flags _ _ _ _ _ done opn key K=>Fits flags->Lp1 (fun Qc Bp=>CAt flags Qc (fun y2=>Cnd (y2.1=key) (Cnd (Qc<0) (K (Flg.mk (ByteArray.mk (Array.mk [])) (0:Int) [] false (0:Int) [] [] [] (Srv.mk (0:Int) (ByteArray.mk (Array.mk [])) (ByteArray.mk (Array.mk [])) (ByteArray.mk (Array.mk [])) [])) false done opn) (At flags Qc fun y4=>K (Flg.mk y4.1 y4.2 y4.3 y4.4 y4.5 y4.6 y4.7 y4.8 (Srv.mk y4.9.1 y4.9.2 y4.9.3 y4.9.4 y4.9.5)) true done opn)) (InI (Qc+1)/\Bp (Qc+1))) (Cnd ((-1:Int)<(0:Int)) (K (Flg.mk (ByteArray.mk (Array.mk [])) (0:Int) [] false (0:Int) [] [] [] (Srv.mk (0:Int) (ByteArray.mk (Array.mk [])) (ByteArray.mk (Array.mk [])) (ByteArray.mk (Array.mk [])) [])) false done opn) (At flags (-1:Int) fun y2=>K (Flg.mk y2.1 y2.2 y2.3 y2.4 y2.5 y2.6 y2.7 y2.8 (Srv.mk y2.9.1 y2.9.2 y2.9.3 y2.9.4 y2.9.5)) true done opn))) (0:Int)
abbrev U2:Type:=Flg->Subj->(Int->Prop)->Prop
def q4f(Qn:Zx):U2:=fun f s K=>Fits f.7->Lp1 (fun Qc Bp=>CAt f.7 Qc (fun y2=>Qn (Subj.mk s.1) y2.1 fun Qe Js=>Cnd (Js=true) (Fits y2.3->Lp1 (fun Zq v7n=>CAt y2.3 Zq (fun y7=>Cnd (Qe.2=y7) (Cnd ((0:Int)<=Zq) (InI (Qc+1)/\K (Qc+1)) (InI (Qc+1)/\Bp (Qc+1))) (InI (Zq+1)/\v7n (Zq+1))) (Cnd ((0:Int)<=(-1:Int)) (InI (Qc+1)/\K (Qc+1)) (InI (Qc+1)/\Bp (Qc+1)))) (0:Int)) (InI (Qc+1)/\Bp (Qc+1))) (K (0:Int))) (0:Int)
def Vl:U2:=q4f Vg
abbrev q46:Type:=List (List Int)->(List (Int)->Prop)->Prop
def q47:q46:=fun fields K=>Fits fields->Lp2 (fun Qc Z6 z8x=>CAt fields Z6 (fun y2=>Lp2 (fun Qe Js w9d=>Cnd ((0:Int)<=Js) (Fits y2->InI ((8:Int)*Js)/\(0:Int)<=(8:Int)*Js/\Sml (Qe++[Go.IntKind.u8.wrap ((Go.IntKind.u64.wrap (↑y2.length:Int)).fdiv ((2:Int) ^ Min.min ((8:Int)*Js).toNat (64:Nat)))]).length/\InI (Js - 1)/\w9d (Qe++[Go.IntKind.u8.wrap ((Go.IntKind.u64.wrap (↑y2.length:Int)).fdiv ((2:Int) ^ Min.min ((8:Int)*Js).toNat (64:Nat)))]) (Js - 1)) (Sml (Qe++y2).length/\InI (Z6+1)/\z8x (Qe++y2) (Z6+1))) Qc (7:Int)) (K Qc)) [] (0:Int)
abbrev Gv:Type:=Int->Int->(Int->Prop)->Prop
def Gw:Gv:=fun x k K=>(0:Int)<=Go.IntKind.u64.wrap (↑(BitVec.ofInt (64:Nat) (Go.IntKind.u64.wrap k) &&& BitVec.ofInt (64:Nat) (63:Int)).toNat:Int)/\(0:Int)<=Go.IntKind.u64.wrap ((64:Int) - Go.IntKind.u64.wrap (↑(BitVec.ofInt (64:Nat) (Go.IntKind.u64.wrap k) &&& BitVec.ofInt (64:Nat) (63:Int)).toNat:Int))/\K (Go.IntKind.u64.wrap (↑(BitVec.ofInt (64:Nat) (Go.IntKind.u64.wrap (x*2 ^ Min.min (Go.IntKind.u64.wrap (↑(BitVec.ofInt (64:Nat) (Go.IntKind.u64.wrap k) &&& BitVec.ofInt (64:Nat) (63:Int)).toNat:Int)).toNat (64:Nat)))|||BitVec.ofInt (64:Nat) (x.fdiv ((2:Int) ^ Min.min (Go.IntKind.u64.wrap ((64:Int) - Go.IntKind.u64.wrap (↑(BitVec.ofInt (64:Nat) (Go.IntKind.u64.wrap k) &&& BitVec.ofInt (64:Nat) (63:Int)).toNat:Int))).toNat (64:Nat)))).toNat:Int))
abbrev Je:Type:=Int->Int->Int->Int->Int->(Int->Int->Int->Int->Prop)->Prop
def Bz(Zu:Gv):Je:=fun v0 v1 v2 v3 n K=>Lp5 (fun Qa Qy z6t q4x w0d u2c=>Cnd (Qa<n) (Zu z6t (13:Int) fun Qc=>Zu (Go.IntKind.u64.wrap (Qy+z6t)) (32:Int) fun Qf=>Zu w0d (16:Int) fun Qi=>Zu (Go.IntKind.u64.wrap (↑(BitVec.ofInt (64:Nat) Qi ^^^ BitVec.ofInt (64:Nat) (Go.IntKind.u64.wrap (q4x+w0d))).toNat:Int)) (21:Int) fun Qe=>Zu (Go.IntKind.u64.wrap (↑(BitVec.ofInt (64:Nat) Qc ^^^ BitVec.ofInt (64:Nat) (Go.IntKind.u64.wrap (Qy+z6t))).toNat:Int)) (17:Int) fun Ql=>Zu (Go.IntKind.u64.wrap (Go.IntKind.u64.wrap (q4x+w0d)+Go.IntKind.u64.wrap (↑(BitVec.ofInt (64:Nat) Qc ^^^ BitVec.ofInt (64:Nat) (Go.IntKind.u64.wrap (Qy+z6t))).toNat:Int))) (32:Int) fun Zq=>InI (Qa+1)/\u2c (Qa+1) (Go.IntKind.u64.wrap (Qf+Go.IntKind.u64.wrap (↑(BitVec.ofInt (64:Nat) Qi ^^^ BitVec.ofInt (64:Nat) (Go.IntKind.u64.wrap (q4x+w0d))).toNat:Int))) (Go.IntKind.u64.wrap (↑(BitVec.ofInt (64:Nat) Ql ^^^ BitVec.ofInt (64:Nat) (Go.IntKind.u64.wrap (Go.IntKind.u64.wrap (q4x+w0d)+Go.IntKind.u64.wrap (↑(BitVec.ofInt (64:Nat) Qc ^^^ BitVec.ofInt (64:Nat) (Go.IntKind.u64.wrap (Qy+z6t))).toNat:Int)))).toNat:Int)) Zq (Go.IntKind.u64.wrap (↑(BitVec.ofInt (64:Nat) Qe ^^^ BitVec.ofInt (64:Nat) (Go.IntKind.u64.wrap (Qf+Go.IntKind.u64.wrap (↑(BitVec.ofInt (64:Nat) Qi ^^^ BitVec.ofInt (64:Nat) (Go.IntKind.u64.wrap (q4x+w0d))).toNat:Int)))).toNat:Int))) (K Qy z6t q4x w0d)) (0:Int) v0 v1 v2 v3
def Zy:Je:=Bz Gw
abbrev Uf:Type:=Int->Int->Int->Int->Int->(Int->Int->Int->Int->Prop)->Prop
def q2z(Zm:Je):Uf:=fun v0 v1 v2 v3 m K=>Zm v0 v1 v2 (Go.IntKind.u64.wrap (↑(BitVec.ofInt (64:Nat) v3 ^^^ BitVec.ofInt (64:Nat) m).toNat:Int)) (2:Int) fun Qa Qy z6t q4x=>K (Go.IntKind.u64.wrap (↑(BitVec.ofInt (64:Nat) Qa ^^^ BitVec.ofInt (64:Nat) m).toNat:Int)) Qy z6t q4x
def H5:Uf:=q2z Zy
abbrev q6a:Type:=Int->Int->List (Int)->(Int->Prop)->Prop
def z7j(Uj:Uf)(Zm:Je):q6a:=fun k0 k1 b K=>Fits b->(0:Int)<=(56:Int)/\Lp5 (fun Qc Z6 z8v j22 u18 u30=>InI (Qc+8)/\(Fits b->Cnd (Qc+8<=(↑b.length:Int)) (Lp2 (fun Qi Um j9k=>Cnd (Um<8) (InI (Qc+Um)/\At b (Qc+Um) fun y4=>InI ((8:Int)*Um)/\(0:Int)<=(8:Int)*Um/\InI (Um+1)/\j9k (Go.IntKind.u64.wrap (↑(BitVec.ofInt (64:Nat) Qi|||BitVec.ofInt (64:Nat) (Go.IntKind.u64.wrap (Go.IntKind.u64.wrap y4*2 ^ Min.min ((8:Int)*Um).toNat (64:Nat)))).toNat:Int)) (Um+1)) (Uj Z6 z8v j22 u18 Qi fun Qe Js j5h y40=>InI (Qc+8)/\u30 (Qc+8) Qe Js j5h y40)) (0:Int) (0:Int)) (Fits b->(8:Int)≠(0:Int)/\Lp2 (fun Qe Js w9d=>Cnd (Js<(↑b.length:Int).tmod (8:Int)) (Fits b->Fits b->(8:Int)≠(0:Int)/\InI ((↑b.length:Int) - (↑b.length:Int).tmod (8:Int))/\InI ((↑b.length:Int) - (↑b.length:Int).tmod (8:Int)+Js)/\((0:Int)<=(↑b.length:Int) - (↑b.length:Int).tmod (8:Int)+Js/\(↑b.length:Int) - (↑b.length:Int).tmod (8:Int)+Js<(↑b.length:Int))/\ ∀y7,b[((↑b.length:Int) - (↑b.length:Int).tmod (8:Int)+Js).toNat]? =some y7->InI ((8:Int)*Js)/\(0:Int)<=(8:Int)*Js/\InI (Js+1)/\w9d (Go.IntKind.u64.wrap (↑(BitVec.ofInt (64:Nat) Qe|||BitVec.ofInt (64:Nat) (Go.IntKind.u64.wrap (Go.IntKind.u64.wrap y7*2 ^ Min.min ((8:Int)*Js).toNat (64:Nat)))).toNat:Int)) (Js+1)) (Uj Z6 z8v j22 u18 Qe fun Ql q7d u5p u6r=>Zm Ql q7d (Go.IntKind.u64.wrap (↑(BitVec.ofInt (64:Nat) u5p ^^^ BitVec.ofInt (64:Nat) (255:Int)).toNat:Int)) u6r (4:Int) fun Zq z2l w6n w9c=>K (Go.IntKind.u64.wrap (↑(BitVec.ofInt (64:Nat) (Go.IntKind.u64.wrap (↑(BitVec.ofInt (64:Nat) (Go.IntKind.u64.wrap (↑(BitVec.ofInt (64:Nat) Zq ^^^ BitVec.ofInt (64:Nat) z2l).toNat:Int)) ^^^ BitVec.ofInt (64:Nat) w6n).toNat:Int)) ^^^ BitVec.ofInt (64:Nat) w9c).toNat:Int)))) (Go.IntKind.u64.wrap (Go.IntKind.u64.wrap (↑b.length:Int)*2 ^ Min.min (Int.toNat (56:Int)) (64:Nat))) (0:Int)))) (0:Int) (Go.IntKind.u64.wrap (↑(BitVec.ofInt (64:Nat) k0 ^^^ BitVec.ofInt (64:Nat) (8317987319222330741:Int)).toNat:Int)) (Go.IntKind.u64.wrap (↑(BitVec.ofInt (64:Nat) k1 ^^^ BitVec.ofInt (64:Nat) (7237128888997146477:Int)).toNat:Int)) (Go.IntKind.u64.wrap (↑(BitVec.ofInt (64:Nat) k0 ^^^ BitVec.ofInt (64:Nat) (7816392313619706465:Int)).toNat:Int)) (Go.IntKind.u64.wrap (↑(BitVec.ofInt (64:Nat) k1 ^^^ BitVec.ofInt (64:Nat) (8387220255154660723:Int)).toNat:Int))
def z0s:q6a:=z7j H5 Zy
abbrev q20:Type:=Int->List (List Int)->(Int->Prop)->Prop
def z4p(q5p:q46)(z1n:q6a):q20:=fun domain fields K=>q5p fields fun Qa=>z1n domain (0:Int) Qa fun Qc=>K Qc
def q7r:q20:=z4p q47 z0s
abbrev Vs:Type:=ByteArray->ByteArray->(Int->Prop)->Prop
def j1x(q8e:q20):Vs:=fun salt key K=>Sml salt.size/\Sml key.size/\q8e (1:Int) [List.map (fun b=>(↑b.toNat:Int)) (salt,key,()).1.data.toList,List.map (fun b=>(↑b.toNat:Int)) (salt,key,()).2.1.data.toList] fun Qa=>(10000:Int)≠(0:Int)/\InI (Qa.tmod (10000:Int))/\K (Qa.tmod (10000:Int))
def Gx:Vs:=j1x q7r
abbrev q21:Type:=List (Frc)->ByteArray->(Frc->Bool->Prop)->Prop
def q22:q21:=fun l layer K=>Fits l->Lp4 (fun Qc Z6 z8v j22 u6s=>CAt l Qc (fun y2=>Cnd (y2.1=layer) (K y2 true) (InI (Qc+1)/\u6s (Qc+1) Z6 z8v j22)) (K (Frc.mk (ByteArray.mk (Array.mk [])) (ByteArray.mk (Array.mk [])) (0:Int)) false)) (0:Int) (ByteArray.mk (Array.mk [])) (ByteArray.mk (Array.mk [])) (0:Int)
abbrev q7s:Type:=Envt->Frc->(Bool->Prop)->Prop
def q7t:q7s:=fun v f K=>Fits v.6->Lp1 (fun Qc Bp=>CAt v.6 Qc (fun y2=>Cnd (y2.1=f.2) (Cnd (y2.2=f.1) (Cnd (y2.5=2) (Fits y2.7->Lp1 (fun Ql j5f=>CAt y2.7 Ql (fun y6=>Cnd (y6.3=f.3) (Cnd ((0:Int)<=Ql) (K (decide ((0:Int)<=Qc))) (InI (Qc+1)/\Bp (Qc+1))) (InI (Ql+1)/\j5f (Ql+1))) (Cnd ((0:Int)<=(-1:Int)) (K (decide ((0:Int)<=Qc))) (InI (Qc+1)/\Bp (Qc+1)))) (0:Int)) (InI (Qc+1)/\Bp (Qc+1))) (InI (Qc+1)/\Bp (Qc+1))) (InI (Qc+1)/\Bp (Qc+1))) (K (decide ((0:Int)<=(-1:Int))))) (0:Int)
abbrev q23:Type:=Envt->Subj->(Bool->Prop)->Prop
def z4q(Qn:Zx)(Zr:Vs):q23:=fun v s K=>Cnd (v.1.3<=0) (K false) (Qn (Subj.mk s.1) v.1.2 fun Qa Qy=>Cnd (Qy=true) (Zr v.1.1 Qa.2 fun Qc=>K (decide (Qc<v.1.3))) (K false))
def q7u:q23:=z4q Vg Gx
abbrev U3:Type:=Envt->Subj->ByteArray->(Bool->Prop)->Prop
def q4g(Zc:J9)(Zh:Jm):U3:=fun v s experiment K=>Fits v.6->Lp1 (fun Qc Bp=>CAt v.6 Qc (fun y2=>Cnd (y2.1=experiment) (Zc v.3 (Subj.mk s.1) fun Qe=>Zh (Subj.mk s.1) Qe (Ex.mk y2.8.1 y2.8.2 y2.8.3 y2.8.4 y2.8.5) fun Ql=>K Ql) (InI (Qc+1)/\Bp (Qc+1))) (K false)) (0:Int)
def Bf:U3:=q4g Vk Ud
abbrev Bg:Type:=List (Rng)->Int->(Int->Prop)->Prop
def q24:Bg:=fun l bucket K=>Fits l->Lp1 (fun Qc Bp=>CAt l Qc (fun y2=>Cnd (y2.1<=bucket) (Cnd (bucket<y2.2) (K y2.3) (InI (Qc+1)/\Bp (Qc+1))) (InI (Qc+1)/\Bp (Qc+1))) (K (0:Int))) (0:Int)
abbrev q0c:Type:=Envt->Subj->List (Frc)->ByteArray->(Asg->Int->Prop)->Prop
def z11(Qn:Zx)(q33:q21)(Zr:Vs)(Va:Bg)(Bw:U3)(q8f:q23)(q8g:q7s):q0c:=fun v s forced key K=>Jn1 (fun Qa=>Cnd (Qa<0) (K (Asg.mk (ByteArray.mk (Array.mk [])) (ByteArray.mk (Array.mk [])) (0:Int) (0:Int) false) (11:Int)) (At v.5 Qa fun y1=>Qn (Subj.mk s.1) y1.2 fun Qi Um=>Jn1 (fun Qe=>q33 forced key fun Ql q7d=>Jn1 (fun Zq=>Cnd (Zq=true) (Cnd (Ql.2=ByteArray.mk (Array.mk [])) (K (Asg.mk key (ByteArray.mk (Array.mk [])) Qe (0:Int) false) (0:Int)) (K (Asg.mk key Ql.2 Qe Ql.3 false) (0:Int))) (Jn1 (fun Qv=>Cnd (Qv=true) (K (Asg.mk key (ByteArray.mk (Array.mk [])) Qe (0:Int) true) (0:Int)) (Cnd (Um=true) (Fits v.6->Lp3 (fun Qq z99 u1o u5n=>CAt v.6 Qq (fun y10=>Jn1 (fun Vv=>Jn1 (fun Zd=>Cnd (Zd=true) (Zr y10.4 Qi.2 fun W6=>Va y10.7 W6 fun v2r=>K (Asg.mk key y10.1 Qe v2r false) (0:Int)) (InI (Qq+1)/\u5n (Qq+1) z99 u1o)) fun y7p=>Cnd (y10.2=key) (Cnd (y10.5=2) (Cnd (Vv=true) (Bw (Envt.mk (Sett.mk v.1.1 v.1.2 v.1.3) v.2 v.3 v.4 v.5 v.6) (Subj.mk s.1) y10.1 fun W6=>y7p W6) (y7p false)) (y7p false)) (y7p false)) fun v93=>Fits y10.6->Lp1 (fun W6 y4u=>CAt y10.6 W6 (fun y15=>Cnd (y15.1<=Qe) (Cnd (Qe<y15.2) (v93 (decide ((0:Int)<=W6))) (InI (W6+1)/\y4u (W6+1))) (InI (W6+1)/\y4u (W6+1))) (v93 (decide ((0:Int)<=(-1:Int))))) (0:Int)) (K (Asg.mk key z99 Qe u1o false) (0:Int))) (0:Int) (ByteArray.mk (Array.mk [])) (0:Int)) (K (Asg.mk key (ByteArray.mk (Array.mk [])) Qe (0:Int) false) (0:Int)))) fun y4x=>q8f (Envt.mk (Sett.mk v.1.1 v.1.2 v.1.3) v.2 v.3 v.4 v.5 v.6) (Subj.mk s.1) fun Wj=>Cnd (Wj=true) (y4x true) (Cnd (Um=true) (y4x (decide (Qe<y1.4))) (y4x false)))) fun w0b=>Cnd (q7d=true) (Cnd (Ql.2=ByteArray.mk (Array.mk [])) (w0b true) (q8g (Envt.mk (Sett.mk v.1.1 v.1.2 v.1.3) v.2 v.3 v.4 v.5 v.6) Ql fun Qv=>w0b Qv)) (w0b false)) fun v2u=>Cnd (Um=true) (Zr y1.3 Qi.2 fun Ql=>v2u Ql) (v2u (-1:Int)))) fun q5i=>Fits v.5->Lp1 (fun Qf j21=>CAt v.5 Qf (fun y3=>Cnd (y3.1=key) (q5i Qf) (InI (Qf+1)/\j21 (Qf+1))) (q5i (-1:Int))) (0:Int)
def Hy:q0c:=z11 Vg q22 Gx q24 Bf q7u q7t
abbrev Wu:Type:=ByteArray->ByteArray->Int->List (Decl)->List (Seg)->List (Flg)->List (Lay_)->List (Exper)->List (Ctxt)->List (Frc)->List (ByteArray)->(ByteArray->Option (Dcs))->(ByteArray->Option (Bool))->Exper->(Int->(ByteArray->Option (Dcs))->(ByteArray->Option (Bool))->Prop)->Prop
def B0(Qn:Zx)(Zr:Vs):Wu:=fun _ _ _ _ _ _ layers _ ctxs _ _ done opn x K=>Fits layers->Lp1 (fun Qc Bp=>CAt layers Qc (fun y2=>Cnd (y2.1=x.2) (Qn (Subj.mk ctxs) y2.2 fun Qe Js=>Cnd (Js=true) (Zr x.4 Qe.2 fun Ql=>K Ql done opn) (K (-1:Int) done opn)) (InI (Qc+1)/\Bp (Qc+1))) (K (-1:Int) done opn)) (0:Int)
def J3:Wu:=B0 Vg Gx
abbrev z13:Type:=Int->(ByteArray->Prop)->Prop
def z14(i:Int)(K:ByteArray->Prop):Prop:=InI i/\K ⟨(Go.Lib.itoa i).toArray⟩
abbrev q25:Type:=Int->(ByteArray->Prop)->Prop
def j35(q5q:z13):q25:=fun n K=>q5q n fun Qa=>K Qa
def q7v:q25:=j35 z14
abbrev q6b:Type:=Val->(ByteArray->Bool->Prop)->Prop
def z7k(q8h:q25):q6b:=fun v K=>Jn1 (fun Qa=>Cnd (Qa=true) (K v.3 true) (Cnd (v.1=2) (q8h v.2 fun Qc=>K Qc true) (Cnd (v.1=1) (Cnd (v.2=1) (K (ByteArray.mk (Array.mk [116,114,117,101])) true) (K (ByteArray.mk (Array.mk [102,97,108,115,101])) true)) (K (ByteArray.mk (Array.mk [])) false)))) fun q5i=>Cnd (v.1=3) (q5i (decide (v.1=3))) (q5i (decide (v.1=4)))
def z0t:q6b:=z7k q7v
abbrev Hl:Type:=Subj->ByteArray->ByteArray->ByteArray->(Int->Bool->Prop)->Prop
def q6z(Jo:Wr)(z1o:q6b)(Zr:Vs):Hl:=fun s kind by_ salt K=>Jo (Subj.mk s.1) kind by_ fun Qa Qy=>Cnd (Qy=true) (z1o Qa fun Qc Z6=>Cnd (Z6=true) (Zr salt Qc fun Qf=>K Qf true) (K (0:Int) false)) (K (0:Int) false)
def q0v:Hl:=q6z Hj z0t Gx
abbrev Hm:Type:=Subj->Srv->(Int->Int->Bool->Prop)->Prop
def q60(q05:Hl)(Va:Bg):Hm:=fun s v K=>Cnd (v.1=0) (q05 (Subj.mk s.1) v.2 v.3 v.4 fun Qa Qy=>Cnd (Qy=true) (Va v.5 Qa fun Qc=>K Qc Qa true) (K (0:Int) (-1:Int) false)) (K v.1 (-1:Int) true)
def q0w:Hm:=q60 q0v q24
abbrev Vt:Type:=ByteArray->ByteArray->Int->List (Decl)->List (Seg)->List (Flg)->List (Lay_)->List (Exper)->List (Ctxt)->List (Frc)->List (ByteArray)->(ByteArray->Option (Dcs))->(ByteArray->Option (Bool))->Flg->Srv->Rsn->(Int->Rsn->(ByteArray->Option (Dcs))->(ByteArray->Option (Bool))->Prop)->Prop
def q1i(q06:Hm):Vt:=fun _ _ _ _ _ _ _ _ ctxs _ _ done opn f v reason K=>q06 (Subj.mk ctxs) v fun Qa Qy z6t=>Cnd (z6t=true) (K Qa (Rsn.mk reason.1 reason.2 reason.3 Qy) done opn) (K f.5 (Rsn.mk (7:Int) reason.2 (ByteArray.mk (Array.mk [])) (-1:Int)) done opn)
def Wa:Vt:=q1i q0w
abbrev Ze:Type:=ByteArray->ByteArray->Int->List (Decl)->List (Seg)->List (Flg)->List (Lay_)->List (Exper)->List (Ctxt)->List (Frc)->List (ByteArray)->(ByteArray->Option (Dcs))->(ByteArray->Option (Bool))->Flg->(Dcs->(ByteArray->Option (Dcs))->(ByteArray->Option (Bool))->Prop)->Prop
def B1(Q9:Wf)(Z1:Wk)(Bx:U2)(q5r:q0c)(Us:Wu)(Zh:Jm)(Vw:Vt)(X:Ze):Ze:=fun salt hkind hold attrs segs flags layers expers ctxs fs inn done opn f K=>Jn1 (fun (Qa:ByteArray×Int×Int×Int×ByteArray×List ByteArray×Int×Int×ByteArray×Int×Int×(ByteArray->Option Dcs)×(ByteArray->Option Bool)×Unit)=>Q9 (Val.mk Qa.2.2.1 Qa.2.2.2.1 Qa.2.2.2.2.1 Qa.2.2.2.2.2.1) fun Qc=>K (Dcs.mk Qa.1 Qa.2.1 Qc (Rsn.mk Qa.2.2.2.2.2.2.1 Qa.2.2.2.2.2.2.2.1 Qa.2.2.2.2.2.2.2.2.1 Qa.2.2.2.2.2.2.2.2.2.1) Qa.2.2.2.2.2.2.2.2.2.2.1) Qa.2.2.2.2.2.2.2.2.2.2.2.1 Qa.2.2.2.2.2.2.2.2.2.2.2.2.1) fun (q5i:ByteArray×Int×Int×Int×ByteArray×List ByteArray×Int×Int×ByteArray×Int×Int×(ByteArray->Option Dcs)×(ByteArray->Option Bool)×Unit->Prop)=>Cnd ((done f.1).isSome=true) (q5i (((done f.1).getD (Dcs.mk (ByteArray.mk (Array.mk [])) (0:Int) (Val.mk (0:Int) (0:Int) (ByteArray.mk (Array.mk [])) []) (Rsn.mk (0:Int) (0:Int) (ByteArray.mk (Array.mk [])) (0:Int)) (0:Int))).1,((done f.1).getD (Dcs.mk (ByteArray.mk (Array.mk [])) (0:Int) (Val.mk (0:Int) (0:Int) (ByteArray.mk (Array.mk [])) []) (Rsn.mk (0:Int) (0:Int) (ByteArray.mk (Array.mk [])) (0:Int)) (0:Int))).2,((done f.1).getD (Dcs.mk (ByteArray.mk (Array.mk [])) (0:Int) (Val.mk (0:Int) (0:Int) (ByteArray.mk (Array.mk [])) []) (Rsn.mk (0:Int) (0:Int) (ByteArray.mk (Array.mk [])) (0:Int)) (0:Int))).3.1,((done f.1).getD (Dcs.mk (ByteArray.mk (Array.mk [])) (0:Int) (Val.mk (0:Int) (0:Int) (ByteArray.mk (Array.mk [])) []) (Rsn.mk (0:Int) (0:Int) (ByteArray.mk (Array.mk [])) (0:Int)) (0:Int))).3.2,((done f.1).getD (Dcs.mk (ByteArray.mk (Array.mk [])) (0:Int) (Val.mk (0:Int) (0:Int) (ByteArray.mk (Array.mk [])) []) (Rsn.mk (0:Int) (0:Int) (ByteArray.mk (Array.mk [])) (0:Int)) (0:Int))).3.3,((done f.1).getD (Dcs.mk (ByteArray.mk (Array.mk [])) (0:Int) (Val.mk (0:Int) (0:Int) (ByteArray.mk (Array.mk [])) []) (Rsn.mk (0:Int) (0:Int) (ByteArray.mk (Array.mk [])) (0:Int)) (0:Int))).3.4,((done f.1).getD (Dcs.mk (ByteArray.mk (Array.mk [])) (0:Int) (Val.mk (0:Int) (0:Int) (ByteArray.mk (Array.mk [])) []) (Rsn.mk (0:Int) (0:Int) (ByteArray.mk (Array.mk [])) (0:Int)) (0:Int))).4.1,((done f.1).getD (Dcs.mk (ByteArray.mk (Array.mk [])) (0:Int) (Val.mk (0:Int) (0:Int) (ByteArray.mk (Array.mk [])) []) (Rsn.mk (0:Int) (0:Int) (ByteArray.mk (Array.mk [])) (0:Int)) (0:Int))).4.2,((done f.1).getD (Dcs.mk (ByteArray.mk (Array.mk [])) (0:Int) (Val.mk (0:Int) (0:Int) (ByteArray.mk (Array.mk [])) []) (Rsn.mk (0:Int) (0:Int) (ByteArray.mk (Array.mk [])) (0:Int)) (0:Int))).4.3,((done f.1).getD (Dcs.mk (ByteArray.mk (Array.mk [])) (0:Int) (Val.mk (0:Int) (0:Int) (ByteArray.mk (Array.mk [])) []) (Rsn.mk (0:Int) (0:Int) (ByteArray.mk (Array.mk [])) (0:Int)) (0:Int))).4.4,((done f.1).getD (Dcs.mk (ByteArray.mk (Array.mk [])) (0:Int) (Val.mk (0:Int) (0:Int) (ByteArray.mk (Array.mk [])) []) (Rsn.mk (0:Int) (0:Int) (ByteArray.mk (Array.mk [])) (0:Int)) (0:Int))).5,done,opn,())) (Cnd (f.4=true) (Fits f.6->LpH (fun (Qf:Int×Int×Int×ByteArray×Int×(ByteArray->Option Bool)×(ByteArray->Option Dcs)×Unit) (j21:Int×Int×Int×ByteArray×Int×(ByteArray->Option Bool)×(ByteArray->Option Dcs)×Unit->Prop)=>CAt f.6 Qf.1 (fun y3=>Z1 salt hkind hold attrs segs flags layers expers ctxs fs inn Qf.2.2.2.2.2.2.1 Qf.2.2.2.2.2.1 y3.1 fun Ql q7d v95 u1q=>Cnd (q7d=true) (Cnd (Ql.4=true) (Cnd ((u1q Ql.1).getD false=true) (Jn4 (fun Zq z2l w6n w9c=>q5i (f.1,f.5,Zq,z2l,w6n,w9c,(2:Int),(0:Int),y3.1,(-1:Int),(0:Int),put v95 f.1 (Dcs.mk f.1 f.5 (Val.mk Zq z2l w6n w9c) (Rsn.mk (2:Int) (0:Int) y3.1 (-1:Int)) (0:Int)),dlt u1q f.1,())) fun w0b=>Cnd ((1:Int)<=f.5) (Fits f.3->Cnd (f.5<=(↑f.3.length:Int)) (InI (f.5 - 1)/\((0:Int)<=f.5 - 1/\f.5 - 1<(↑f.3.length:Int))/\ ∀y8,f.3[(f.5 - 1).toNat]? =some y8->w0b y8.1 y8.2 y8.3 y8.4) (w0b (0:Int) (0:Int) (ByteArray.mk (Array.mk [])) [])) (w0b (0:Int) (0:Int) (ByteArray.mk (Array.mk [])) [])) (X salt hkind hold attrs segs flags layers expers ctxs fs inn v95 u1q (Flg.mk Ql.1 Ql.2 Ql.3 Ql.4 Ql.5 Ql.6 Ql.7 Ql.8 (Srv.mk Ql.9.1 Ql.9.2 Ql.9.3 Ql.9.4 Ql.9.5)) fun Zq v7n y4z=>Cnd (Zq.2=y3.2) (InI (Qf.1+1)/\j21 (Qf.1+1,Qf.2.1,Qf.2.2.1,Qf.2.2.2.1,Qf.2.2.2.2.1,y4z,v7n,())) (Jn4 (fun Qv z6s v5w w9g=>q5i (f.1,f.5,Qv,z6s,v5w,w9g,(2:Int),(0:Int),y3.1,(-1:Int),(0:Int),put v7n f.1 (Dcs.mk f.1 f.5 (Val.mk Qv z6s v5w w9g) (Rsn.mk (2:Int) (0:Int) y3.1 (-1:Int)) (0:Int)),dlt y4z f.1,())) fun y4x=>Cnd ((1:Int)<=f.5) (Fits f.3->Cnd (f.5<=(↑f.3.length:Int)) (InI (f.5 - 1)/\((0:Int)<=f.5 - 1/\f.5 - 1<(↑f.3.length:Int))/\ ∀y9,f.3[(f.5 - 1).toNat]? =some y9->y4x y9.1 y9.2 y9.3 y9.4) (y4x (0:Int) (0:Int) (ByteArray.mk (Array.mk [])) [])) (y4x (0:Int) (0:Int) (ByteArray.mk (Array.mk [])) [])))) (Jn4 (fun Zq z2l w6n w9c=>q5i (f.1,f.5,Zq,z2l,w6n,w9c,(2:Int),(0:Int),y3.1,(-1:Int),(0:Int),put v95 f.1 (Dcs.mk f.1 f.5 (Val.mk Zq z2l w6n w9c) (Rsn.mk (2:Int) (0:Int) y3.1 (-1:Int)) (0:Int)),dlt u1q f.1,())) fun w0b=>Cnd ((1:Int)<=f.5) (Fits f.3->Cnd (f.5<=(↑f.3.length:Int)) (InI (f.5 - 1)/\((0:Int)<=f.5 - 1/\f.5 - 1<(↑f.3.length:Int))/\ ∀y8,f.3[(f.5 - 1).toNat]? =some y8->w0b y8.1 y8.2 y8.3 y8.4) (w0b (0:Int) (0:Int) (ByteArray.mk (Array.mk [])) [])) (w0b (0:Int) (0:Int) (ByteArray.mk (Array.mk [])) []))) (Jn4 (fun Zq z2l w6n w9c=>q5i (f.1,f.5,Zq,z2l,w6n,w9c,(2:Int),(0:Int),y3.1,(-1:Int),(0:Int),put v95 f.1 (Dcs.mk f.1 f.5 (Val.mk Zq z2l w6n w9c) (Rsn.mk (2:Int) (0:Int) y3.1 (-1:Int)) (0:Int)),dlt u1q f.1,())) fun w0b=>Cnd ((1:Int)<=f.5) (Fits f.3->Cnd (f.5<=(↑f.3.length:Int)) (InI (f.5 - 1)/\((0:Int)<=f.5 - 1/\f.5 - 1<(↑f.3.length:Int))/\ ∀y8,f.3[(f.5 - 1).toNat]? =some y8->w0b y8.1 y8.2 y8.3 y8.4) (w0b (0:Int) (0:Int) (ByteArray.mk (Array.mk [])) [])) (w0b (0:Int) (0:Int) (ByteArray.mk (Array.mk [])) []))) (Bx (Flg.mk f.1 f.2 f.3 f.4 f.5 f.6 f.7 f.8 (Srv.mk f.9.1 f.9.2 f.9.3 f.9.4 f.9.5)) (Subj.mk ctxs) fun Qi=>Cnd ((0:Int)<Qi) (InI (Qi - 1)/\((0:Int)<=Qi - 1/\Qi - 1<(↑f.7.length:Int))/\ ∀y4,f.7[(Qi - 1).toNat]? =some y4->Jn4 (fun Zq z2l w6n w9c=>q5i (f.1,y4.2,Zq,z2l,w6n,w9c,(3:Int),Qi,ByteArray.mk (Array.mk []),(-1:Int),(0:Int),put Qf.2.2.2.2.2.2.1 f.1 (Dcs.mk f.1 y4.2 (Val.mk Zq z2l w6n w9c) (Rsn.mk (3:Int) Qi (ByteArray.mk (Array.mk [])) (-1:Int)) (0:Int)),dlt Qf.2.2.2.2.2.1 f.1,())) fun w0b=>Cnd ((1:Int)<=y4.2) (Fits f.3->Cnd (y4.2<=(↑f.3.length:Int)) (InI (y4.2 - 1)/\((0:Int)<=y4.2 - 1/\y4.2 - 1<(↑f.3.length:Int))/\ ∀y8,f.3[(y4.2 - 1).toNat]? =some y8->w0b y8.1 y8.2 y8.3 y8.4) (w0b (0:Int) (0:Int) (ByteArray.mk (Array.mk [])) [])) (w0b (0:Int) (0:Int) (ByteArray.mk (Array.mk [])) [])) (Fits expers->LpH (fun (Ql:Int×Int×Int×ByteArray×Int×(ByteArray->Option Dcs)×(ByteArray->Option Bool)×Unit) (j5f:Int×Int×Int×ByteArray×Int×(ByteArray->Option Dcs)×(ByteArray->Option Bool)×Unit->Prop)=>CAt expers Ql.1 (fun y6=>Cnd (y6.3=f.1) (Cnd (y6.5=2) (q5r (Envt.mk (Sett.mk salt hkind hold) attrs segs flags layers expers) (Subj.mk ctxs) fs y6.2 fun Wj v2t=>Cnd (v2t=0) (Cnd (Wj.2=y6.1) (Us salt hkind hold attrs segs flags layers expers ctxs fs inn Ql.2.2.2.2.2.1 Ql.2.2.2.2.2.2.1 (Exper.mk y6.1 y6.2 y6.3 y6.4 y6.5 y6.6 y6.7 (Ex.mk y6.8.1 y6.8.2 y6.8.3 y6.8.4 y6.8.5)) fun Qq u1s u1r=>Jn4 (fun U7 q0j v5u u4e=>q5i (f.1,Wj.4,U7,q0j,v5u,u4e,(4:Int),(0:Int),y6.1,Qq,(0:Int),put u1s f.1 (Dcs.mk f.1 Wj.4 (Val.mk U7 q0j v5u u4e) (Rsn.mk (4:Int) (0:Int) y6.1 Qq) (0:Int)),dlt u1r f.1,())) fun u15=>Cnd ((1:Int)<=Wj.4) (Fits f.3->Cnd (Wj.4<=(↑f.3.length:Int)) (InI (Wj.4 - 1)/\((0:Int)<=Wj.4 - 1/\Wj.4 - 1<(↑f.3.length:Int))/\ ∀y12,f.3[(Wj.4 - 1).toNat]? =some y12->u15 y12.1 y12.2 y12.3 y12.4) (u15 (0:Int) (0:Int) (ByteArray.mk (Array.mk [])) [])) (u15 (0:Int) (0:Int) (ByteArray.mk (Array.mk [])) [])) (InI (Ql.1+1)/\j5f (Ql.1+1,Ql.2.1,Ql.2.2.1,Ql.2.2.2.1,Ql.2.2.2.2.1,Ql.2.2.2.2.2.1,Ql.2.2.2.2.2.2.1,()))) (InI (Ql.1+1)/\j5f (Ql.1+1,Ql.2.1,Ql.2.2.1,Ql.2.2.2.1,Ql.2.2.2.2.1,Ql.2.2.2.2.2.1,Ql.2.2.2.2.2.2.1,()))) (InI (Ql.1+1)/\j5f (Ql.1+1,Ql.2.1,Ql.2.2.1,Ql.2.2.2.1,Ql.2.2.2.2.1,Ql.2.2.2.2.2.1,Ql.2.2.2.2.2.2.1,()))) (InI (Ql.1+1)/\j5f (Ql.1+1,Ql.2.1,Ql.2.2.1,Ql.2.2.2.1,Ql.2.2.2.2.1,Ql.2.2.2.2.2.1,Ql.2.2.2.2.2.2.1,()))) (Fits f.8->LpH (fun (Qv:Int×Int×Int×ByteArray×Int×(ByteArray->Option Bool)×(ByteArray->Option Dcs)×Unit) (v2q:Int×Int×Int×ByteArray×Int×(ByteArray->Option Bool)×(ByteArray->Option Dcs)×Unit->Prop)=>CAt f.8 Qv.1 (fun y8=>Zh (Subj.mk ctxs) inn (Ex.mk y8.2.1 y8.2.2 y8.2.3 y8.2.4 y8.2.5) fun U7=>Cnd (U7=true) (InI (Qv.1+1)/\Vw salt hkind hold attrs segs flags layers expers ctxs fs inn Qv.2.2.2.2.2.2.1 Qv.2.2.2.2.2.1 (Flg.mk f.1 f.2 f.3 f.4 f.5 f.6 f.7 f.8 (Srv.mk f.9.1 f.9.2 f.9.3 f.9.4 f.9.5)) (Srv.mk y8.3.1 y8.3.2 y8.3.3 y8.3.4 y8.3.5) (Rsn.mk (5:Int) (Qv.1+1) y8.1 (0:Int)) fun Wx z8w u59 u6a=>Jn4 (fun Vv v94 u4f u4g=>q5i (f.1,Wx,Vv,v94,u4f,u4g,z8w.1,z8w.2,z8w.3,z8w.4,(0:Int),put u59 f.1 (Dcs.mk f.1 Wx (Val.mk Vv v94 u4f u4g) z8w (0:Int)),dlt u6a f.1,())) fun v93=>Cnd ((1:Int)<=Wx) (Fits f.3->Cnd (Wx<=(↑f.3.length:Int)) (InI (Wx - 1)/\((0:Int)<=Wx - 1/\Wx - 1<(↑f.3.length:Int))/\ ∀y14,f.3[(Wx - 1).toNat]? =some y14->v93 y14.1 y14.2 y14.3 y14.4) (v93 (0:Int) (0:Int) (ByteArray.mk (Array.mk [])) [])) (v93 (0:Int) (0:Int) (ByteArray.mk (Array.mk [])) [])) (InI (Qv.1+1)/\v2q (Qv.1+1,Qv.2.1,Qv.2.2.1,Qv.2.2.2.1,Qv.2.2.2.2.1,Qv.2.2.2.2.2.1,Qv.2.2.2.2.2.2.1,()))) (Vw salt hkind hold attrs segs flags layers expers ctxs fs inn Qv.2.2.2.2.2.2.1 Qv.2.2.2.2.2.1 (Flg.mk f.1 f.2 f.3 f.4 f.5 f.6 f.7 f.8 (Srv.mk f.9.1 f.9.2 f.9.3 f.9.4 f.9.5)) (Srv.mk f.9.1 f.9.2 f.9.3 f.9.4 f.9.5) (Rsn.mk (6:Int) (0:Int) (ByteArray.mk (Array.mk [])) (0:Int)) fun Wj v2t u4j u5q=>Jn4 (fun Qq z99 u1o y8s=>q5i (f.1,Wj,Qq,z99,u1o,y8s,v2t.1,v2t.2,v2t.3,v2t.4,(0:Int),put u4j f.1 (Dcs.mk f.1 Wj (Val.mk Qq z99 u1o y8s) v2t (0:Int)),dlt u5q f.1,())) fun y7m=>Cnd ((1:Int)<=Wj) (Fits f.3->Cnd (Wj<=(↑f.3.length:Int)) (InI (Wj - 1)/\((0:Int)<=Wj - 1/\Wj - 1<(↑f.3.length:Int))/\ ∀y11,f.3[(Wj - 1).toNat]? =some y11->y7m y11.1 y11.2 y11.3 y11.4) (y7m (0:Int) (0:Int) (ByteArray.mk (Array.mk [])) [])) (y7m (0:Int) (0:Int) (ByteArray.mk (Array.mk [])) []))) ((0:Int),Ql.2.1,Ql.2.2.1,Ql.2.2.2.1,Ql.2.2.2.2.1,Ql.2.2.2.2.2.2.1,Ql.2.2.2.2.2.1,()))) ((0:Int),Qf.2.1,Qf.2.2.1,Qf.2.2.2.1,Qf.2.2.2.2.1,Qf.2.2.2.2.2.2.1,Qf.2.2.2.2.2.1,())))) ((0:Int),(0:Int),(0:Int),ByteArray.mk (Array.mk []),(0:Int),put opn f.1 true,done,())) (Jn4 (fun Qc Z6 z8v j22=>q5i (f.1,f.5,Qc,Z6,z8v,j22,(1:Int),(0:Int),ByteArray.mk (Array.mk []),(-1:Int),(0:Int),put done f.1 (Dcs.mk f.1 f.5 (Val.mk Qc Z6 z8v j22) (Rsn.mk (1:Int) (0:Int) (ByteArray.mk (Array.mk [])) (-1:Int)) (0:Int)),dlt (put opn f.1 true) f.1,())) fun w0c=>Cnd ((1:Int)<=f.5) (Fits f.3->Cnd (f.5<=(↑f.3.length:Int)) (InI (f.5 - 1)/\((0:Int)<=f.5 - 1/\f.5 - 1<(↑f.3.length:Int))/\ ∀y3,f.3[(f.5 - 1).toNat]? =some y3->w0c y3.1 y3.2 y3.3 y3.4) (w0c (0:Int) (0:Int) (ByteArray.mk (Array.mk [])) [])) (w0c (0:Int) (0:Int) (ByteArray.mk (Array.mk [])) [])))
def Wv:Ze:=fun salt hkind hold attrs segs flags layers expers ctxs fs inn done opn f K=> ∀X:Ze,(∀salt hkind hold attrs segs flags layers expers ctxs fs inn done opn f K,B1 Ju Jx Vl Hy J3 Ud Wa X salt hkind hold attrs segs flags layers expers ctxs fs inn done opn f K->X salt hkind hold attrs segs flags layers expers ctxs fs inn done opn f K)->X salt hkind hold attrs segs flags layers expers ctxs fs inn done opn f K
abbrev Vu:Type:=Envt->Subj->List (Frc)->ByteArray->(Dcs->Int->Prop)->Prop
def q9q(Jp:Ws)(Z1:Wk)(Zn:Ze):Vu:=fun v s forced key K=>Jp (Envt.mk (Sett.mk v.1.1 v.1.2 v.1.3) v.2 v.3 v.4 v.5 v.6) (Subj.mk s.1) forced fun Qa Qy z6t q4x w0d u4k u4l u4m u4n u4o y7q u16 u17=>Z1 Qa Qy z6t q4x w0d u4k u4l u4m u4n u4o y7q u16 u17 key fun Qc Z6 z8x y4s=>Cnd (Z6=true) (Zn Qa Qy z6t q4x w0d u4k u4l u4m u4n u4o y7q z8x y4s (Flg.mk Qc.1 Qc.2 Qc.3 Qc.4 Qc.5 Qc.6 Qc.7 Qc.8 (Srv.mk Qc.9.1 Qc.9.2 Qc.9.3 Qc.9.4 Qc.9.5)) fun Qf _ _=>K (Dcs.mk Qf.1 Qf.2 (Val.mk Qf.3.1 Qf.3.2 Qf.3.3 Qf.3.4) (Rsn.mk Qf.4.1 Qf.4.2 Qf.4.3 Qf.4.4) Qf.5) (0:Int)) (K (Dcs.mk (ByteArray.mk (Array.mk [])) (0:Int) (Val.mk (0:Int) (0:Int) (ByteArray.mk (Array.mk [])) []) (Rsn.mk (0:Int) (0:Int) (ByteArray.mk (Array.mk [])) (0:Int)) (0:Int)) (11:Int))
def Rw:Vu:=q9q Hk Jx Wv
abbrev q26:Type:=(Bool->Prop)->Prop
def z4r(J1:Vu):q26:=fun K=>J1 (Envt.mk (Sett.mk (ByteArray.mk (Array.mk [])) (ByteArray.mk (Array.mk [])) (0:Int)) [] [] [Flg.mk (ByteArray.mk (Array.mk [102])) (1:Int) [Val.mk (1:Int) (0:Int) (ByteArray.mk (Array.mk [])) [],Val.mk (1:Int) (1:Int) (ByteArray.mk (Array.mk [])) []] true (1:Int) [] [] [] (Srv.mk (2:Int) (ByteArray.mk (Array.mk [])) (ByteArray.mk (Array.mk [])) (ByteArray.mk (Array.mk [])) [])] [] []) (Subj.mk []) [] (ByteArray.mk (Array.mk [102])) fun Qa Qy=>Cnd (Qy=0) (Cnd (Qa.1=ByteArray.mk (Array.mk [102])) (Cnd (Qa.2=2) (Cnd (Qa.3.2=1) (K (decide (Qa.4.1=6/\Qa.4.2=0/\Qa.4.3=ByteArray.mk (Array.mk [])/\Qa.4.4=(-1:Int)))) (K false)) (K false)) (K false)) (K false)
def q7w:q26:=z4r Rw
abbrev w7f:Type:=List (Int)->Int->(List (Int)->Int->Prop)->Prop
def w7g:w7f:=fun list_ most K=>Jn1 (fun Qa=>K Qa (0:Int)) fun q5i=>Fits list_->Cnd (most<(↑list_.length:Int)) (((0:Int)<=(0:Int)/\(0:Int)<=most/\most<=(↑list_.length:Int))/\q5i (List.drop (Int.toNat (0:Int)) (List.take most.toNat list_))) (q5i list_)
abbrev q9r:Type:=List (Int)->Int->ByteArray->(Ctxt->Int->Prop)->Prop
def j1y(z5w:j1k)(Q5:Vc)(Qb:Zk)(Jj:q15):q9r:=fun list at_ kind K=>z5w list at_ fun Qa Qy=>Q5 fun Qc=>Lp3 (fun Qf Zs w9f u1p=>Fits Qc->CAt Qc Qf (fun y4=>Cnd (y4.1=kind) (Qb list w9f (4:Int) fun Zq z2l=>Cnd ((0:Int)<Zq) (At Qc Qf fun y7=>At Qc Qf fun y9=>Jj list z2l y9.3 fun Wx z8w=>Sml (Zs++[Attr.mk y7.2 Wx]).length/\InI (Qf+1)/\u1p (Qf+1) (Zs++[Attr.mk y7.2 Wx]) z8w) (InI (Qf+1)/\u1p (Qf+1) Zs z2l)) (InI (Qf+1)/\u1p (Qf+1) Zs w9f)) (K (Ctxt.mk kind Qa Zs) w9f)) (0:Int) [] Qy
def q9s:q9r:=j1y w09 U9 Wb B7
abbrev q9t:Type:=List (Int)->Int->(Subj->Int->Prop)->Prop
def j1z(Qb:Zk)(q1r:q9r):q9t:=fun list at_ K=>Qb list at_ (6:Int) fun Qa Qy=>Jn2 (fun Qc Z6=>Cnd (Qa=1) (K (Subj.mk Z6) Qc) (Cnd (Qa=5) (K (Subj.mk Z6) Qc) (q1r list Qc (ByteArray.mk (Array.mk [117,115,101,114])) fun Qf Zs=>Sml (Z6++[Qf]).length/\K (Subj.mk (Z6++[Qf])) Zs))) fun w0c=>Cnd (Qa=1) (q1r list Qy (ByteArray.mk (Array.mk [100,101,118,105,99,101])) fun Qf Zs=>Sml ([]++[Qf]).length/\w0c Zs ([]++[Qf])) (Cnd (Qa=2) (q1r list Qy (ByteArray.mk (Array.mk [100,101,118,105,99,101])) fun Qf Zs=>Sml ([]++[Qf]).length/\w0c Zs ([]++[Qf])) (Cnd (Qa=4) (q1r list Qy (ByteArray.mk (Array.mk [100,101,118,105,99,101])) fun Qf Zs=>Sml ([]++[Qf]).length/\w0c Zs ([]++[Qf])) (w0c Qy [])))
def z4s:q9t:=j1z Wb q9s
abbrev Hn:Type:=Subj->ByteArray->(Ctxt->Bool->Prop)->Prop
def q6c:Hn:=fun s kind K=>Lp4 (fun Qa Qy z6t (q4x:List Attr) u6b=>Fits s.1->CAt s.1 Qa (fun y2=>Cnd (y2.1=kind) (At s.1 Qa fun y4=>K y4 true) (InI (Qa+1)/\u6b (Qa+1) Qy z6t q4x)) (K (Ctxt.mk (ByteArray.mk (Array.mk [])) (ByteArray.mk (Array.mk [])) []) false)) (0:Int) (ByteArray.mk (Array.mk [])) (ByteArray.mk (Array.mk [])) []
abbrev q9u:Type:=Subj->ByteArray->ByteArray->(Val->Bool->Prop)->Prop
def j10(Z2:Hn):q9u:=fun s kind name K=>Z2 (Subj.mk s.1) kind fun Qa Qy=>Cnd (Qy=true) (Cnd (name=ByteArray.mk (Array.mk [107,101,121])) (K (Val.mk (3:Int) (0:Int) Qa.2 []) true) (Lp5 (fun Qc Z6 z8v j22 (u18:List ByteArray) u30=>Fits Qa.3->CAt Qa.3 Qc (fun y3=>Cnd (y3.1=name) (At Qa.3 Qc fun y5=>K (Val.mk y5.2.1 y5.2.2 y5.2.3 y5.2.4) true) (InI (Qc+1)/\u30 (Qc+1) Z6 z8v j22 u18)) (K (Val.mk (0:Int) (0:Int) (ByteArray.mk (Array.mk [])) []) false)) (0:Int) (0:Int) (0:Int) (ByteArray.mk (Array.mk [])) [])) (K (Val.mk (0:Int) (0:Int) (ByteArray.mk (Array.mk [])) []) false)
def z4t:q9u:=j10 q6c
abbrev z9t:Type:=List (List Int)->(List (Int)->Prop)->Prop
def z9u:z9t:=fun fields K=>Lp2 (fun Qa Qy q36=>Fits fields->CAt fields Qy (fun y2=>Fits y2->Lp2 (fun Ql q7d v95=>Cnd ((0:Int)<=q7d) ((0:Int)<=Go.IntKind.u64.wrap q7d/\Sml (Ql++[Go.IntKind.u8.wrap ((Go.IntKind.u64.wrap (↑y2.length:Int)).fdiv ((2:Int) ^ Min.min (Go.IntKind.u64.wrap q7d).toNat (64:Nat)))]).length/\InI (q7d - 8)/\v95 (Ql++[Go.IntKind.u8.wrap ((Go.IntKind.u64.wrap (↑y2.length:Int)).fdiv ((2:Int) ^ Min.min (Go.IntKind.u64.wrap q7d).toNat (64:Nat)))]) (q7d - 8)) (At fields Qy fun y6=>Sml (Ql++y6).length/\InI (Qy+1)/\q36 (Ql++y6) (Qy+1))) Qa (56:Int)) (K Qa)) [] (0:Int)
abbrev z4u:Type:=Int->Int->(Int->Prop)->Prop
def z4v:z4u:=fun x n K=>(0:Int)<=n/\(0:Int)<=Go.IntKind.u64.wrap ((64:Int) - n)/\K (Go.IntKind.u64.wrap (↑(BitVec.ofInt (64:Nat) (Go.IntKind.u64.wrap (x*2 ^ Min.min n.toNat (64:Nat)))|||BitVec.ofInt (64:Nat) (x.fdiv ((2:Int) ^ Min.min (Go.IntKind.u64.wrap ((64:Int) - n)).toNat (64:Nat)))).toNat:Int))
abbrev Ho:Type:=Sip->Int->(Sip->Prop)->Prop
def q61(Hc:z4u):Ho:=fun v n K=>Lp5 (fun Qa Qy z6t q4x w0d u2c=>Cnd (Qa<n) (Hc z6t (13:Int) fun Qc=>Hc (Go.IntKind.u64.wrap (Qy+z6t)) (32:Int) fun Qf=>Hc w0d (16:Int) fun Qi=>Hc (Go.IntKind.u64.wrap (↑(BitVec.ofInt (64:Nat) Qi ^^^ BitVec.ofInt (64:Nat) (Go.IntKind.u64.wrap (q4x+w0d))).toNat:Int)) (21:Int) fun Qe=>Hc (Go.IntKind.u64.wrap (↑(BitVec.ofInt (64:Nat) Qc ^^^ BitVec.ofInt (64:Nat) (Go.IntKind.u64.wrap (Qy+z6t))).toNat:Int)) (17:Int) fun Ql=>Hc (Go.IntKind.u64.wrap (Go.IntKind.u64.wrap (q4x+w0d)+Go.IntKind.u64.wrap (↑(BitVec.ofInt (64:Nat) Qc ^^^ BitVec.ofInt (64:Nat) (Go.IntKind.u64.wrap (Qy+z6t))).toNat:Int))) (32:Int) fun Zq=>InI (Qa+1)/\u2c (Qa+1) (Go.IntKind.u64.wrap (Qf+Go.IntKind.u64.wrap (↑(BitVec.ofInt (64:Nat) Qi ^^^ BitVec.ofInt (64:Nat) (Go.IntKind.u64.wrap (q4x+w0d))).toNat:Int))) (Go.IntKind.u64.wrap (↑(BitVec.ofInt (64:Nat) Ql ^^^ BitVec.ofInt (64:Nat) (Go.IntKind.u64.wrap (Go.IntKind.u64.wrap (q4x+w0d)+Go.IntKind.u64.wrap (↑(BitVec.ofInt (64:Nat) Qc ^^^ BitVec.ofInt (64:Nat) (Go.IntKind.u64.wrap (Qy+z6t))).toNat:Int)))).toNat:Int)) Zq (Go.IntKind.u64.wrap (↑(BitVec.ofInt (64:Nat) Qe ^^^ BitVec.ofInt (64:Nat) (Go.IntKind.u64.wrap (Qf+Go.IntKind.u64.wrap (↑(BitVec.ofInt (64:Nat) Qi ^^^ BitVec.ofInt (64:Nat) (Go.IntKind.u64.wrap (q4x+w0d))).toNat:Int)))).toNat:Int))) (K (Sip.mk Qy z6t q4x w0d))) (0:Int) v.1 v.2 v.3 v.4
def Jn:Ho:=q61 z4v
abbrev j36:Type:=Int->Int->List (Int)->(Int->Prop)->Prop
def w7h(V4:Ho):j36:=fun k0 k1 b K=>Lp5 (fun Qa Qy z6t q4x w0d u2c=>Fits b->(8:Int)≠(0:Int)/\InI ((↑b.length:Int).tdiv (8:Int))/\Cnd (Qa<=(↑b.length:Int).tdiv (8:Int)) (Lp2 (fun Qf Zs q7c=>Cnd (Zs<8) (InI ((8:Int)*Qa)/\InI ((8:Int)*Qa+Zs)/\(Fits b->Cnd ((8:Int)*Qa+Zs<(↑b.length:Int)) (InI ((8:Int)*Qa)/\InI ((8:Int)*Qa+Zs)/\((0:Int)<=(8:Int)*Qa+Zs/\(8:Int)*Qa+Zs<(↑b.length:Int))/\ ∀y4,b[((8:Int)*Qa+Zs).toNat]? =some y4->InI ((8:Int)*Zs)/\(0:Int)<=Go.IntKind.u64.wrap ((8:Int)*Zs)/\InI (Zs+1)/\q7c (Go.IntKind.u64.wrap (↑(BitVec.ofInt (64:Nat) Qf|||BitVec.ofInt (64:Nat) (Go.IntKind.u64.wrap (Go.IntKind.u64.wrap y4*2 ^ Min.min (Go.IntKind.u64.wrap ((8:Int)*Zs)).toNat (64:Nat)))).toNat:Int)) (Zs+1)) (Jn1 (fun Qe=>V4 (Sip.mk Qy z6t q4x (Go.IntKind.u64.wrap (↑(BitVec.ofInt (64:Nat) w0d ^^^ BitVec.ofInt (64:Nat) Qe).toNat:Int))) (2:Int) fun Ql=>InI (Qa+1)/\u2c (Qa+1) (Go.IntKind.u64.wrap (↑(BitVec.ofInt (64:Nat) Ql.1 ^^^ BitVec.ofInt (64:Nat) Qe).toNat:Int)) Ql.2 Ql.3 Ql.4) fun v2u=>Fits b->(8:Int)≠(0:Int)/\InI ((↑b.length:Int).tdiv (8:Int))/\Cnd (Qa=(↑b.length:Int).tdiv (8:Int)) (Fits b->(256:Int)≠(0:Int)/\(0:Int)<=(56:Int)/\v2u (Go.IntKind.u64.wrap (↑(BitVec.ofInt (64:Nat) Qf|||BitVec.ofInt (64:Nat) (Go.IntKind.u64.wrap (Go.IntKind.u64.wrap ((↑b.length:Int).tmod (256:Int))*(2:Int) ^ Min.min (Int.toNat (56:Int)) (64:Nat)))).toNat:Int))) (v2u Qf)))) (Jn1 (fun Qi=>V4 (Sip.mk Qy z6t q4x (Go.IntKind.u64.wrap (↑(BitVec.ofInt (64:Nat) w0d ^^^ BitVec.ofInt (64:Nat) Qi).toNat:Int))) (2:Int) fun Qe=>InI (Qa+1)/\u2c (Qa+1) (Go.IntKind.u64.wrap (↑(BitVec.ofInt (64:Nat) Qe.1 ^^^ BitVec.ofInt (64:Nat) Qi).toNat:Int)) Qe.2 Qe.3 Qe.4) fun y4t=>Fits b->(8:Int)≠(0:Int)/\InI ((↑b.length:Int).tdiv (8:Int))/\Cnd (Qa=(↑b.length:Int).tdiv (8:Int)) (Fits b->(256:Int)≠(0:Int)/\(0:Int)<=(56:Int)/\y4t (Go.IntKind.u64.wrap (↑(BitVec.ofInt (64:Nat) Qf|||BitVec.ofInt (64:Nat) (Go.IntKind.u64.wrap (Go.IntKind.u64.wrap ((↑b.length:Int).tmod (256:Int))*(2:Int) ^ Min.min (Int.toNat (56:Int)) (64:Nat)))).toNat:Int))) (y4t Qf))) (0:Int) (0:Int)) (V4 (Sip.mk Qy z6t (Go.IntKind.u64.wrap (↑(BitVec.ofInt (64:Nat) q4x ^^^ BitVec.ofInt (64:Nat) (255:Int)).toNat:Int)) w0d) (4:Int) fun Qf=>K (Go.IntKind.u64.wrap (↑(BitVec.ofInt (64:Nat) (Go.IntKind.u64.wrap (↑(BitVec.ofInt (64:Nat) (Go.IntKind.u64.wrap (↑(BitVec.ofInt (64:Nat) Qf.1 ^^^ BitVec.ofInt (64:Nat) Qf.2).toNat:Int)) ^^^ BitVec.ofInt (64:Nat) Qf.3).toNat:Int)) ^^^ BitVec.ofInt (64:Nat) Qf.4).toNat:Int)))) (0:Int) (Go.IntKind.u64.wrap (↑(BitVec.ofInt (64:Nat) k0 ^^^ BitVec.ofInt (64:Nat) (8317987319222330741:Int)).toNat:Int)) (Go.IntKind.u64.wrap (↑(BitVec.ofInt (64:Nat) k1 ^^^ BitVec.ofInt (64:Nat) (7237128888997146477:Int)).toNat:Int)) (Go.IntKind.u64.wrap (↑(BitVec.ofInt (64:Nat) k0 ^^^ BitVec.ofInt (64:Nat) (7816392313619706465:Int)).toNat:Int)) (Go.IntKind.u64.wrap (↑(BitVec.ofInt (64:Nat) k1 ^^^ BitVec.ofInt (64:Nat) (8387220255154660723:Int)).toNat:Int))
def j9y:j36:=w7h Jn
abbrev z7l:Type:=Int->List (List Int)->(Int->Prop)->Prop
def w1i(j0i:z9t)(w0e:j36):z7l:=fun domain fields K=>j0i fields fun Qa=>w0e domain (0:Int) Qa fun Qc=>K Qc
def j37:z7l:=w1i z9u j9y
abbrev z4w:Type:=ByteArray->ByteArray->(Int->Prop)->Prop
def w7i(j5q:z7l):z4w:=fun salt key K=>Sml salt.size/\Sml key.size/\j5q (1:Int) [List.map (fun b=>(↑b.toNat:Int)) (salt,key,()).1.data.toList,List.map (fun b=>(↑b.toNat:Int)) (salt,key,()).2.1.data.toList] fun Qa=>(10000:Int)≠(0:Int)/\InI (Qa.tmod (10000:Int))/\K (Qa.tmod (10000:Int))
def z4x:z4w:=w7i j37
abbrev z9v:Type:=List (Rng)->Int->(Int->Prop)->Prop
def z9w:z9v:=fun l bucket K=>Lp1 (fun Qa R3=>Fits l->CAt l Qa (fun y2=>Cnd (y2.1<=bucket) (At l Qa fun y4=>Cnd (bucket<y4.2) (At l Qa fun y6=>K y6.3) (InI (Qa+1)/\R3 (Qa+1))) (InI (Qa+1)/\R3 (Qa+1))) (K (0:Int))) (0:Int)
abbrev z3c:Type:=List (Int)->Int->Envt->(List (Frc)->Int->Prop)->Prop
def j6i(Qb:Zk):z3c:=fun list at_ v K=>Lp3 (fun Qa Qy z6t u6t=>Qb list z6t (3:Int) fun Qc Z6=>Cnd (Qy<Qc) (Qb list Z6 (4:Int) fun Qf Zs=>InI ((1:Int)+Qf)/\Jn2 (fun Qi Um=>Jn4 (fun Qe Js j5h y40=>Sml (Qa++[Frc.mk Qe Js j5h]).length/\InI (Qy+1)/\u6t (Qa++[Frc.mk Qe Js j5h]) (Qy+1) y40) fun v2u=>Qb list Um (4:Int) fun Ql q7d=>Fits v.6->CAt v.6 Ql (fun y7=>Jn2 (fun Qq z99=>At v.6 Ql fun y10=>Qb list z99 (4:Int) fun Vv v94=>Cnd ((0:Int)<Vv) (Fits y10.7->Cnd ((0:Int)<(↑y10.7.length:Int)) (Fits y10.7->Qb list v94 (↑y10.7.length:Int) fun v2r u6c=>At y10.7 v2r fun y16=>v2u Qq y7.1 y16.3 u6c) (v2u Qq y7.1 ((1:Int)+Qf) v94)) (v2u Qq y7.1 ((1:Int)+Qf) v94)) fun y7m=>Qb list q7d (4:Int) fun U7 q0j=>Cnd ((0:Int)<U7) (At v.6 Ql fun y11=>y7m y11.2 q0j) (y7m Qi q0j)) (v2u Qi (ByteArray.mk (Array.mk [])) ((1:Int)+Qf) q7d)) fun y4t=>Qb list Zs (3:Int) fun Qe Js=>Cnd (Qe=1) (y4t (ByteArray.mk (Array.mk [108,98])) Js) (y4t (ByteArray.mk (Array.mk [108,97])) Js)) (K Qa Z6)) [] (0:Int) at_
def z9x:z3c:=j6i Wb
abbrev q27:Type:=List (Int)->List (Int)->(Envt->Subj->List (Frc)->Prop)->Prop
def z4y(w4a:w7f)(q34:Rp)(z55:q9t)(j0j:z3c):q27:=fun codes who K=>w4a codes (400:Int) fun Qa Qy=>q34 Qa Qy (10:Int) fun Qc _=>w4a who (80:Int) fun Qf Zs=>z55 Qf Zs fun Qi Um=>j0j Qf Um (Envt.mk (Sett.mk Qc.1.1 Qc.1.2 Qc.1.3) Qc.2 Qc.3 Qc.4 Qc.5 Qc.6) fun Qe _=>K (Envt.mk (Sett.mk Qc.1.1 Qc.1.2 Qc.1.3) Qc.2 Qc.3 Qc.4 Qc.5 Qc.6) (Subj.mk Qi.1) Qe
def q28:q27:=z4y w7g q2n z4s z9x
abbrev q0d:Type:=Envt->Subj->List (Frc)->(List (Dcs)->Prop)->Prop
def z15(Jp:Ws)(Zn:Ze):q0d:=fun v s forced K=>Jp (Envt.mk (Sett.mk v.1.1 v.1.2 v.1.3) v.2 v.3 v.4 v.5 v.6) (Subj.mk s.1) forced fun Qa Qy z6t q4x w0d u4k u4l u4m u4n u4o y7q u16 u17=>Fits v.4->Lp4 (fun Qf Zs q7c u1p u6u=>CAt v.4 Zs (fun y3=>Zn Qa Qy z6t q4x w0d u4k u4l u4m u4n u4o y7q q7c u1p (Flg.mk y3.1 y3.2 y3.3 y3.4 y3.5 y3.6 y3.7 y3.8 (Srv.mk y3.9.1 y3.9.2 y3.9.3 y3.9.4 y3.9.5)) fun Ql j5f v95=>Sml (Qf++[Dcs.mk Ql.1 Ql.2 (Val.mk Ql.3.1 Ql.3.2 Ql.3.3 Ql.3.4) (Rsn.mk Ql.4.1 Ql.4.2 Ql.4.3 Ql.4.4) Ql.5]).length/\InI (Zs+1)/\u6u (Qf++[Dcs.mk Ql.1 Ql.2 (Val.mk Ql.3.1 Ql.3.2 Ql.3.3 Ql.3.4) (Rsn.mk Ql.4.1 Ql.4.2 Ql.4.3 Ql.4.4) Ql.5]) (Zs+1) j5f v95) (K Qf)) [] (0:Int) u16 u17
def q48:q0d:=z15 Hk Wv
abbrev z3d:Type:=List (ByteArray)->List (Edg)->ByteArray->(Bool->Prop)->Prop
def j6j(Q2:Vx):z3d:=fun order edges node K=>Lp1 (fun Qa R3=>Fits edges->CAt edges Qa (fun y2=>Cnd (y2.1=node) (At edges Qa fun y4=>Q2 order y4.2 fun Zq=>Cnd (Zq=true) (InI (Qa+1)/\R3 (Qa+1)) (K false)) (InI (Qa+1)/\R3 (Qa+1))) (Q2 order node fun Qf=>K (match decide ((Qf,()).1=true) with|true=>false|false=>true))) (0:Int)
def z9y:z3d:=j6j Gj
abbrev z3e:Type:=List (ByteArray)->List (Edg)->(List (ByteArray)->Int->Prop)->Prop
def j6k(Q2:Vx)(j0k:z3d):z3e:=fun nodes edges K=>Lp1 (fun Qa R3=>Fits nodes->Cnd (Qa<(↑nodes.length:Int)) (((0:Int)<=(0:Int)/\(0:Int)<=Qa/\Qa<=(↑nodes.length:Int))/\At nodes Qa fun y2=>Q2 (List.drop (Int.toNat (0:Int)) (List.take Qa.toNat nodes)) y2 fun Qe=>Cnd (Qe=true) (K [] (10:Int)) (InI (Qa+1)/\R3 (Qa+1))) (Lp1 (fun Qf j21=>Fits edges->CAt edges Qf (fun y4=>Q2 nodes y4.1 fun Zq=>Cnd (Zq=true) (At edges Qf fun y7=>Q2 nodes y7.2 fun Qq=>Cnd (Qq=true) (InI (Qf+1)/\j21 (Qf+1)) (K [] (11:Int))) (K [] (11:Int))) (Lp1 (fun Qe w9h=>Fits Qe->Fits nodes->Cnd ((↑Qe.length:Int)<(↑nodes.length:Int)) (Lp4 (fun Qv z6s v5w w9g u2b=>Fits nodes->CAt nodes v5w (fun y9=>j0k w9g edges y9 fun Wx=>Cnd (Wx=true) (Cnd (z6s=true) (At nodes v5w fun y12=>Cnd (Lk.blt y12 Qv) (At nodes v5w fun y14=>InI (v5w+1)/\u2b y14 true (v5w+1) w9g) (InI (v5w+1)/\u2b Qv z6s (v5w+1) w9g)) (At nodes v5w fun y12=>InI (v5w+1)/\u2b y12 true (v5w+1) w9g)) (InI (v5w+1)/\u2b Qv z6s (v5w+1) w9g)) (Cnd (z6s=true) (Sml ([]++w9g).length/\Sml ([]++w9g++[Qv]).length/\w9h ([]++w9g++[Qv])) (K [] (12:Int)))) (ByteArray.mk (Array.mk [])) false (0:Int) Qe) (K Qe (0:Int))) [])) (0:Int))) (0:Int)
def z9z:z3e:=j6k Gj z9y
abbrev q9v:Type:=List (Seg)->(List (ByteArray)->Int->Prop)->Prop
def j11(Z9:Hx)(G8:q1b)(j0l:z3e):q9v:=fun l K=>Z9 l fun Qa=>G8 l fun Qc=>j0l Qa Qc fun Qf Zs=>K Qf Zs
def z4z:q9v:=j11 q8p q1c z9z
abbrev q1w:Type:=ByteArray->ByteArray->Int->(Bool->Prop)->Prop
def q6d:q1w:=fun s t i K=>Cnd ((0:Int)<=i) (InI (i+(↑t.size:Int))/\Cnd (i+(↑t.size:Int)<=(↑s.size:Int)) (InI (i+(↑t.size:Int))/\((0:Int)<=i/\i<=i+(↑t.size:Int)/\i+(↑t.size:Int)<=(↑s.size:Int))/\K (decide (s.extract i.toNat (i+(↑t.size:Int)).toNat=t))) (K false)) (K false)
abbrev q0e:Type:=Val->Val->(Bool->Prop)->Prop
def z16(Q2:Vx)(Vi:q1w):q0e:=fun v w K=>Cnd (w.1=3) (Cnd (v.1=5) (Q2 v.4 w.3 fun Qa=>K Qa) (Lp1 (fun Qa R3=>Cnd (v.1=3) (InI (Qa+(↑w.3.size:Int))/\Cnd (Qa+(↑w.3.size:Int)<=(↑v.3.size:Int)) (Vi v.3 w.3 Qa fun Qc=>Cnd (Qc=true) (K true) (InI (Qa+1)/\R3 (Qa+1))) (K false)) (K false)) (0:Int))) (K false)
def q49:q0e:=z16 Gj q6d
abbrev j38:Type:=Bool->Bool->(Int->Prop)->Prop
def z3f:j38:=fun less greater K=>Cnd (less=true) (K (-1:Int)) (Cnd (greater=true) (K (1:Int)) (K (0:Int)))
abbrev q6e:Type:=Val->Val->(Int->Int->Prop)->Prop
def z7m(Z3:Ba)(Qd:j38)(Hz:q39):q6e:=fun a b K=>Z3 a fun Qa=>Cnd (Qa=0) (Z3 b fun Qc=>Cnd (Qc=0) (Cnd (a.1=b.1) (Cnd (a.1=1) (K (0:Int) (8:Int)) (Cnd (a.1=5) (K (0:Int) (8:Int)) (Cnd (a.1=2) (Qd (decide (a.2<b.2)) (decide (b.2<a.2)) fun Qf=>K Qf (0:Int)) (Cnd (a.1=3) (Qd (decide (Lk.blt a.3 b.3)) (decide (Lk.blt b.3 a.3)) fun Qf=>K Qf (0:Int)) (Hz a.3 fun (Qf:Int×Int×Int) _=>Hz b.3 fun (Qi:Int×Int×Int) _=>Lp1 (fun Qe w9h=>Cnd (Qe<3) (((0:Int)<=Qe/\Qe<(↑(3:Nat):Int))/\((True/\(Qe=(↑(nat_lit 0):Int)->((0:Int)<=Qe/\Qe<(↑(3:Nat):Int))/\((True/\(Qe=(↑(nat_lit 0):Int)->Cnd (Qf.1=Qi.1) (InI (Qe+1)/\w9h (Qe+1)) (((0:Int)<=Qe/\Qe<(↑(3:Nat):Int))/\((True/\(Qe=(↑(nat_lit 0):Int)->((0:Int)<=Qe/\Qe<(↑(3:Nat):Int))/\((True/\(Qe=(↑(nat_lit 0):Int)->Qd (decide (Qf.1<Qi.1)) true fun Qq=>K Qq (0:Int)))/\(Qe=(↑(nat_lit 1):Int)->Qd (decide (Qf.1<Qi.2.1)) true fun Qq=>K Qq (0:Int)))/\(Qe=(↑(nat_lit 2):Int)->Qd (decide (Qf.1<Qi.2.2)) true fun Qq=>K Qq (0:Int))))/\(Qe=(↑(nat_lit 1):Int)->((0:Int)<=Qe/\Qe<(↑(3:Nat):Int))/\((True/\(Qe=(↑(nat_lit 0):Int)->Qd (decide (Qf.2.1<Qi.1)) true fun Qq=>K Qq (0:Int)))/\(Qe=(↑(nat_lit 1):Int)->Qd (decide (Qf.2.1<Qi.2.1)) true fun Qq=>K Qq (0:Int)))/\(Qe=(↑(nat_lit 2):Int)->Qd (decide (Qf.2.1<Qi.2.2)) true fun Qq=>K Qq (0:Int))))/\(Qe=(↑(nat_lit 2):Int)->((0:Int)<=Qe/\Qe<(↑(3:Nat):Int))/\((True/\(Qe=(↑(nat_lit 0):Int)->Qd (decide (Qf.2.2<Qi.1)) true fun Qq=>K Qq (0:Int)))/\(Qe=(↑(nat_lit 1):Int)->Qd (decide (Qf.2.2<Qi.2.1)) true fun Qq=>K Qq (0:Int)))/\(Qe=(↑(nat_lit 2):Int)->Qd (decide (Qf.2.2<Qi.2.2)) true fun Qq=>K Qq (0:Int))))))/\(Qe=(↑(nat_lit 1):Int)->Cnd (Qf.1=Qi.2.1) (InI (Qe+1)/\w9h (Qe+1)) (((0:Int)<=Qe/\Qe<(↑(3:Nat):Int))/\((True/\(Qe=(↑(nat_lit 0):Int)->((0:Int)<=Qe/\Qe<(↑(3:Nat):Int))/\((True/\(Qe=(↑(nat_lit 0):Int)->Qd (decide (Qf.1<Qi.1)) true fun Qq=>K Qq (0:Int)))/\(Qe=(↑(nat_lit 1):Int)->Qd (decide (Qf.1<Qi.2.1)) true fun Qq=>K Qq (0:Int)))/\(Qe=(↑(nat_lit 2):Int)->Qd (decide (Qf.1<Qi.2.2)) true fun Qq=>K Qq (0:Int))))/\(Qe=(↑(nat_lit 1):Int)->((0:Int)<=Qe/\Qe<(↑(3:Nat):Int))/\((True/\(Qe=(↑(nat_lit 0):Int)->Qd (decide (Qf.2.1<Qi.1)) true fun Qq=>K Qq (0:Int)))/\(Qe=(↑(nat_lit 1):Int)->Qd (decide (Qf.2.1<Qi.2.1)) true fun Qq=>K Qq (0:Int)))/\(Qe=(↑(nat_lit 2):Int)->Qd (decide (Qf.2.1<Qi.2.2)) true fun Qq=>K Qq (0:Int))))/\(Qe=(↑(nat_lit 2):Int)->((0:Int)<=Qe/\Qe<(↑(3:Nat):Int))/\((True/\(Qe=(↑(nat_lit 0):Int)->Qd (decide (Qf.2.2<Qi.1)) true fun Qq=>K Qq (0:Int)))/\(Qe=(↑(nat_lit 1):Int)->Qd (decide (Qf.2.2<Qi.2.1)) true fun Qq=>K Qq (0:Int)))/\(Qe=(↑(nat_lit 2):Int)->Qd (decide (Qf.2.2<Qi.2.2)) true fun Qq=>K Qq (0:Int))))))/\(Qe=(↑(nat_lit 2):Int)->Cnd (Qf.1=Qi.2.2) (InI (Qe+1)/\w9h (Qe+1)) (((0:Int)<=Qe/\Qe<(↑(3:Nat):Int))/\((True/\(Qe=(↑(nat_lit 0):Int)->((0:Int)<=Qe/\Qe<(↑(3:Nat):Int))/\((True/\(Qe=(↑(nat_lit 0):Int)->Qd (decide (Qf.1<Qi.1)) true fun Qq=>K Qq (0:Int)))/\(Qe=(↑(nat_lit 1):Int)->Qd (decide (Qf.1<Qi.2.1)) true fun Qq=>K Qq (0:Int)))/\(Qe=(↑(nat_lit 2):Int)->Qd (decide (Qf.1<Qi.2.2)) true fun Qq=>K Qq (0:Int))))/\(Qe=(↑(nat_lit 1):Int)->((0:Int)<=Qe/\Qe<(↑(3:Nat):Int))/\((True/\(Qe=(↑(nat_lit 0):Int)->Qd (decide (Qf.2.1<Qi.1)) true fun Qq=>K Qq (0:Int)))/\(Qe=(↑(nat_lit 1):Int)->Qd (decide (Qf.2.1<Qi.2.1)) true fun Qq=>K Qq (0:Int)))/\(Qe=(↑(nat_lit 2):Int)->Qd (decide (Qf.2.1<Qi.2.2)) true fun Qq=>K Qq (0:Int))))/\(Qe=(↑(nat_lit 2):Int)->((0:Int)<=Qe/\Qe<(↑(3:Nat):Int))/\((True/\(Qe=(↑(nat_lit 0):Int)->Qd (decide (Qf.2.2<Qi.1)) true fun Qq=>K Qq (0:Int)))/\(Qe=(↑(nat_lit 1):Int)->Qd (decide (Qf.2.2<Qi.2.1)) true fun Qq=>K Qq (0:Int)))/\(Qe=(↑(nat_lit 2):Int)->Qd (decide (Qf.2.2<Qi.2.2)) true fun Qq=>K Qq (0:Int)))))))/\(Qe=(↑(nat_lit 1):Int)->((0:Int)<=Qe/\Qe<(↑(3:Nat):Int))/\((True/\(Qe=(↑(nat_lit 0):Int)->Cnd (Qf.2.1=Qi.1) (InI (Qe+1)/\w9h (Qe+1)) (((0:Int)<=Qe/\Qe<(↑(3:Nat):Int))/\((True/\(Qe=(↑(nat_lit 0):Int)->((0:Int)<=Qe/\Qe<(↑(3:Nat):Int))/\((True/\(Qe=(↑(nat_lit 0):Int)->Qd (decide (Qf.1<Qi.1)) true fun Qq=>K Qq (0:Int)))/\(Qe=(↑(nat_lit 1):Int)->Qd (decide (Qf.1<Qi.2.1)) true fun Qq=>K Qq (0:Int)))/\(Qe=(↑(nat_lit 2):Int)->Qd (decide (Qf.1<Qi.2.2)) true fun Qq=>K Qq (0:Int))))/\(Qe=(↑(nat_lit 1):Int)->((0:Int)<=Qe/\Qe<(↑(3:Nat):Int))/\((True/\(Qe=(↑(nat_lit 0):Int)->Qd (decide (Qf.2.1<Qi.1)) true fun Qq=>K Qq (0:Int)))/\(Qe=(↑(nat_lit 1):Int)->Qd (decide (Qf.2.1<Qi.2.1)) true fun Qq=>K Qq (0:Int)))/\(Qe=(↑(nat_lit 2):Int)->Qd (decide (Qf.2.1<Qi.2.2)) true fun Qq=>K Qq (0:Int))))/\(Qe=(↑(nat_lit 2):Int)->((0:Int)<=Qe/\Qe<(↑(3:Nat):Int))/\((True/\(Qe=(↑(nat_lit 0):Int)->Qd (decide (Qf.2.2<Qi.1)) true fun Qq=>K Qq (0:Int)))/\(Qe=(↑(nat_lit 1):Int)->Qd (decide (Qf.2.2<Qi.2.1)) true fun Qq=>K Qq (0:Int)))/\(Qe=(↑(nat_lit 2):Int)->Qd (decide (Qf.2.2<Qi.2.2)) true fun Qq=>K Qq (0:Int))))))/\(Qe=(↑(nat_lit 1):Int)->Cnd (Qf.2.1=Qi.2.1) (InI (Qe+1)/\w9h (Qe+1)) (((0:Int)<=Qe/\Qe<(↑(3:Nat):Int))/\((True/\(Qe=(↑(nat_lit 0):Int)->((0:Int)<=Qe/\Qe<(↑(3:Nat):Int))/\((True/\(Qe=(↑(nat_lit 0):Int)->Qd (decide (Qf.1<Qi.1)) true fun Qq=>K Qq (0:Int)))/\(Qe=(↑(nat_lit 1):Int)->Qd (decide (Qf.1<Qi.2.1)) true fun Qq=>K Qq (0:Int)))/\(Qe=(↑(nat_lit 2):Int)->Qd (decide (Qf.1<Qi.2.2)) true fun Qq=>K Qq (0:Int))))/\(Qe=(↑(nat_lit 1):Int)->((0:Int)<=Qe/\Qe<(↑(3:Nat):Int))/\((True/\(Qe=(↑(nat_lit 0):Int)->Qd (decide (Qf.2.1<Qi.1)) true fun Qq=>K Qq (0:Int)))/\(Qe=(↑(nat_lit 1):Int)->Qd (decide (Qf.2.1<Qi.2.1)) true fun Qq=>K Qq (0:Int)))/\(Qe=(↑(nat_lit 2):Int)->Qd (decide (Qf.2.1<Qi.2.2)) true fun Qq=>K Qq (0:Int))))/\(Qe=(↑(nat_lit 2):Int)->((0:Int)<=Qe/\Qe<(↑(3:Nat):Int))/\((True/\(Qe=(↑(nat_lit 0):Int)->Qd (decide (Qf.2.2<Qi.1)) true fun Qq=>K Qq (0:Int)))/\(Qe=(↑(nat_lit 1):Int)->Qd (decide (Qf.2.2<Qi.2.1)) true fun Qq=>K Qq (0:Int)))/\(Qe=(↑(nat_lit 2):Int)->Qd (decide (Qf.2.2<Qi.2.2)) true fun Qq=>K Qq (0:Int))))))/\(Qe=(↑(nat_lit 2):Int)->Cnd (Qf.2.1=Qi.2.2) (InI (Qe+1)/\w9h (Qe+1)) (((0:Int)<=Qe/\Qe<(↑(3:Nat):Int))/\((True/\(Qe=(↑(nat_lit 0):Int)->((0:Int)<=Qe/\Qe<(↑(3:Nat):Int))/\((True/\(Qe=(↑(nat_lit 0):Int)->Qd (decide (Qf.1<Qi.1)) true fun Qq=>K Qq (0:Int)))/\(Qe=(↑(nat_lit 1):Int)->Qd (decide (Qf.1<Qi.2.1)) true fun Qq=>K Qq (0:Int)))/\(Qe=(↑(nat_lit 2):Int)->Qd (decide (Qf.1<Qi.2.2)) true fun Qq=>K Qq (0:Int))))/\(Qe=(↑(nat_lit 1):Int)->((0:Int)<=Qe/\Qe<(↑(3:Nat):Int))/\((True/\(Qe=(↑(nat_lit 0):Int)->Qd (decide (Qf.2.1<Qi.1)) true fun Qq=>K Qq (0:Int)))/\(Qe=(↑(nat_lit 1):Int)->Qd (decide (Qf.2.1<Qi.2.1)) true fun Qq=>K Qq (0:Int)))/\(Qe=(↑(nat_lit 2):Int)->Qd (decide (Qf.2.1<Qi.2.2)) true fun Qq=>K Qq (0:Int))))/\(Qe=(↑(nat_lit 2):Int)->((0:Int)<=Qe/\Qe<(↑(3:Nat):Int))/\((True/\(Qe=(↑(nat_lit 0):Int)->Qd (decide (Qf.2.2<Qi.1)) true fun Qq=>K Qq (0:Int)))/\(Qe=(↑(nat_lit 1):Int)->Qd (decide (Qf.2.2<Qi.2.1)) true fun Qq=>K Qq (0:Int)))/\(Qe=(↑(nat_lit 2):Int)->Qd (decide (Qf.2.2<Qi.2.2)) true fun Qq=>K Qq (0:Int)))))))/\(Qe=(↑(nat_lit 2):Int)->((0:Int)<=Qe/\Qe<(↑(3:Nat):Int))/\((True/\(Qe=(↑(nat_lit 0):Int)->Cnd (Qf.2.2=Qi.1) (InI (Qe+1)/\w9h (Qe+1)) (((0:Int)<=Qe/\Qe<(↑(3:Nat):Int))/\((True/\(Qe=(↑(nat_lit 0):Int)->((0:Int)<=Qe/\Qe<(↑(3:Nat):Int))/\((True/\(Qe=(↑(nat_lit 0):Int)->Qd (decide (Qf.1<Qi.1)) true fun Qq=>K Qq (0:Int)))/\(Qe=(↑(nat_lit 1):Int)->Qd (decide (Qf.1<Qi.2.1)) true fun Qq=>K Qq (0:Int)))/\(Qe=(↑(nat_lit 2):Int)->Qd (decide (Qf.1<Qi.2.2)) true fun Qq=>K Qq (0:Int))))/\(Qe=(↑(nat_lit 1):Int)->((0:Int)<=Qe/\Qe<(↑(3:Nat):Int))/\((True/\(Qe=(↑(nat_lit 0):Int)->Qd (decide (Qf.2.1<Qi.1)) true fun Qq=>K Qq (0:Int)))/\(Qe=(↑(nat_lit 1):Int)->Qd (decide (Qf.2.1<Qi.2.1)) true fun Qq=>K Qq (0:Int)))/\(Qe=(↑(nat_lit 2):Int)->Qd (decide (Qf.2.1<Qi.2.2)) true fun Qq=>K Qq (0:Int))))/\(Qe=(↑(nat_lit 2):Int)->((0:Int)<=Qe/\Qe<(↑(3:Nat):Int))/\((True/\(Qe=(↑(nat_lit 0):Int)->Qd (decide (Qf.2.2<Qi.1)) true fun Qq=>K Qq (0:Int)))/\(Qe=(↑(nat_lit 1):Int)->Qd (decide (Qf.2.2<Qi.2.1)) true fun Qq=>K Qq (0:Int)))/\(Qe=(↑(nat_lit 2):Int)->Qd (decide (Qf.2.2<Qi.2.2)) true fun Qq=>K Qq (0:Int))))))/\(Qe=(↑(nat_lit 1):Int)->Cnd (Qf.2.2=Qi.2.1) (InI (Qe+1)/\w9h (Qe+1)) (((0:Int)<=Qe/\Qe<(↑(3:Nat):Int))/\((True/\(Qe=(↑(nat_lit 0):Int)->((0:Int)<=Qe/\Qe<(↑(3:Nat):Int))/\((True/\(Qe=(↑(nat_lit 0):Int)->Qd (decide (Qf.1<Qi.1)) true fun Qq=>K Qq (0:Int)))/\(Qe=(↑(nat_lit 1):Int)->Qd (decide (Qf.1<Qi.2.1)) true fun Qq=>K Qq (0:Int)))/\(Qe=(↑(nat_lit 2):Int)->Qd (decide (Qf.1<Qi.2.2)) true fun Qq=>K Qq (0:Int))))/\(Qe=(↑(nat_lit 1):Int)->((0:Int)<=Qe/\Qe<(↑(3:Nat):Int))/\((True/\(Qe=(↑(nat_lit 0):Int)->Qd (decide (Qf.2.1<Qi.1)) true fun Qq=>K Qq (0:Int)))/\(Qe=(↑(nat_lit 1):Int)->Qd (decide (Qf.2.1<Qi.2.1)) true fun Qq=>K Qq (0:Int)))/\(Qe=(↑(nat_lit 2):Int)->Qd (decide (Qf.2.1<Qi.2.2)) true fun Qq=>K Qq (0:Int))))/\(Qe=(↑(nat_lit 2):Int)->((0:Int)<=Qe/\Qe<(↑(3:Nat):Int))/\((True/\(Qe=(↑(nat_lit 0):Int)->Qd (decide (Qf.2.2<Qi.1)) true fun Qq=>K Qq (0:Int)))/\(Qe=(↑(nat_lit 1):Int)->Qd (decide (Qf.2.2<Qi.2.1)) true fun Qq=>K Qq (0:Int)))/\(Qe=(↑(nat_lit 2):Int)->Qd (decide (Qf.2.2<Qi.2.2)) true fun Qq=>K Qq (0:Int))))))/\(Qe=(↑(nat_lit 2):Int)->Cnd (Qf.2.2=Qi.2.2) (InI (Qe+1)/\w9h (Qe+1)) (((0:Int)<=Qe/\Qe<(↑(3:Nat):Int))/\((True/\(Qe=(↑(nat_lit 0):Int)->((0:Int)<=Qe/\Qe<(↑(3:Nat):Int))/\((True/\(Qe=(↑(nat_lit 0):Int)->Qd (decide (Qf.1<Qi.1)) true fun Qq=>K Qq (0:Int)))/\(Qe=(↑(nat_lit 1):Int)->Qd (decide (Qf.1<Qi.2.1)) true fun Qq=>K Qq (0:Int)))/\(Qe=(↑(nat_lit 2):Int)->Qd (decide (Qf.1<Qi.2.2)) true fun Qq=>K Qq (0:Int))))/\(Qe=(↑(nat_lit 1):Int)->((0:Int)<=Qe/\Qe<(↑(3:Nat):Int))/\((True/\(Qe=(↑(nat_lit 0):Int)->Qd (decide (Qf.2.1<Qi.1)) true fun Qq=>K Qq (0:Int)))/\(Qe=(↑(nat_lit 1):Int)->Qd (decide (Qf.2.1<Qi.2.1)) true fun Qq=>K Qq (0:Int)))/\(Qe=(↑(nat_lit 2):Int)->Qd (decide (Qf.2.1<Qi.2.2)) true fun Qq=>K Qq (0:Int))))/\(Qe=(↑(nat_lit 2):Int)->((0:Int)<=Qe/\Qe<(↑(3:Nat):Int))/\((True/\(Qe=(↑(nat_lit 0):Int)->Qd (decide (Qf.2.2<Qi.1)) true fun Qq=>K Qq (0:Int)))/\(Qe=(↑(nat_lit 1):Int)->Qd (decide (Qf.2.2<Qi.2.1)) true fun Qq=>K Qq (0:Int)))/\(Qe=(↑(nat_lit 2):Int)->Qd (decide (Qf.2.2<Qi.2.2)) true fun Qq=>K Qq (0:Int))))))) (K (0:Int) (0:Int))) (0:Int)))))) (K (0:Int) (8:Int))) (K (0:Int) Qc)) (K (0:Int) Qa)
def q6f:q6e:=z7m q1t z3f q4a
abbrev z3g:Type:=Subj->Ex->(Bool->Prop)->Prop
def j6l(z56:q9u)(Qx:Wn)(U8:q37)(Vi:q1w)(q0m:q0e)(q6p:q6e):z3g:=fun s e K=>z56 (Subj.mk s.1) e.2 e.3 fun Qa Qy=>Cnd (Qy=true) (Qx e.1 fun Qc=>Cnd (Qc=true) (Cnd (e.1=6) (K true) (Cnd (e.1=8) (Lp1 (fun Qf j21=>Fits e.4->CAt e.4 Qf (fun y4=>U8 Qa y4 fun Zq=>Cnd (Zq=true) (K true) (InI (Qf+1)/\j21 (Qf+1))) (K false)) (0:Int)) (Fits e.4->Cnd ((↑e.4.length:Int)=0) (K false) (((0:Int)<=(0:Int)/\(0:Int)<(↑e.4.length:Int))/\ ∀y3,e.4[Int.toNat (0:Int)]? =some y3->Cnd (Qa.1=3) (Cnd (e.1=7) (U8 Qa y3 fun Ql=>K Ql) (Cnd (e.1=9) (Cnd (y3.1=3) (Vi Qa.3 y3.3 (0:Int) fun Ql=>K Ql) (K false)) (Cnd (e.1=10) (Cnd (y3.1=3) (InI ((↑Qa.3.size:Int) - (↑y3.3.size:Int))/\Vi Qa.3 y3.3 ((↑Qa.3.size:Int) - (↑y3.3.size:Int)) fun Ql=>K Ql) (K false)) (Cnd (e.1=11) (q0m Qa y3 fun Ql=>K Ql) (q6p Qa y3 fun Ql q7d=>Cnd (q7d=0) (Cnd (e.1=12) (K (decide (Ql<0))) (Cnd (e.1=13) (K (decide (Ql<=0))) (Cnd (e.1=14) (K (decide ((0:Int)<Ql))) (K (decide ((0:Int)<=Ql)))))) (K false)))))) (Cnd (e.1=7) (U8 Qa y3 fun Ql=>K Ql) (Cnd (e.1=9) (K false) (Cnd (e.1=10) (K false) (Cnd (e.1=11) (q0m Qa y3 fun Ql=>K Ql) (q6p Qa y3 fun Ql q7d=>Cnd (q7d=0) (Cnd (e.1=12) (K (decide (Ql<0))) (Cnd (e.1=13) (K (decide (Ql<=0))) (Cnd (e.1=14) (K (decide ((0:Int)<Ql))) (K (decide ((0:Int)<=Ql)))))) (K false)))))))))) (K false)) (K false)
def q8q:z3g:=j6l z4t J5 q8m q6d q49 q6f
abbrev V2:Type:=Subj->List (ByteArray)->Ex->(Bool->Prop)->Prop
def j6m(Q2:Vx)(j0m:z3g)(X:V2):V2:=fun s in_ e K=>Cnd (e.1=1) (K true) (Cnd (e.1=2) (Lp1 (fun Qa R3=>Fits e.5->CAt e.5 Qa (fun y2=>X (Subj.mk s.1) in_ (Ex.mk y2.1 y2.2 y2.3 y2.4 y2.5) fun Qe=>Cnd (Qe=true) (InI (Qa+1)/\R3 (Qa+1)) (K false)) (K true)) (0:Int)) (Cnd (e.1=3) (Lp1 (fun Qa R3=>Fits e.5->CAt e.5 Qa (fun y2=>X (Subj.mk s.1) in_ (Ex.mk y2.1 y2.2 y2.3 y2.4 y2.5) fun Qe=>Cnd (Qe=true) (K true) (InI (Qa+1)/\R3 (Qa+1))) (K false)) (0:Int)) (Cnd (e.1=4) (Fits e.5->Cnd ((0:Int)<(↑e.5.length:Int)) (((0:Int)<=(0:Int)/\(0:Int)<(↑e.5.length:Int))/\ ∀y1,e.5[Int.toNat (0:Int)]? =some y1->X (Subj.mk s.1) in_ (Ex.mk y1.1 y1.2 y1.3 y1.4 y1.5) fun Qi=>K (match decide ((Qi,()).1=true) with|true=>false|false=>true)) (K false)) (Cnd (e.1=5) (Q2 in_ e.3 fun Qa=>K Qa) (j0m (Subj.mk s.1) (Ex.mk e.1 e.2 e.3 e.4 e.5) fun Qa=>K Qa)))))
def q8r:V2:=fun s in_ e K=> ∀X:V2,(∀s in_ e K,j6m Gj q8q X s in_ e K->X s in_ e K)->X s in_ e K
abbrev q6g:Type:=Seg->Subj->List (ByteArray)->(Bool->Prop)->Prop
def z7n(Z2:Hn)(Q2:Vx)(Wm:V2):q6g:=fun g s in_ K=>Z2 (Subj.mk s.1) g.2 fun Qa Qy=>Cnd (Qy=true) (Q2 g.4 Qa.2 fun Qc=>Cnd (Qc=true) (K false) (Q2 g.3 Qa.2 fun Qf=>Cnd (Qf=true) (K true) (Cnd (g.5.1=0) (K false) (Wm (Subj.mk s.1) in_ (Ex.mk g.5.1 g.5.2 g.5.3 g.5.4 g.5.5) fun Qi=>K Qi)))) (K false)
def z0u:q6g:=z7n q6c Gj q8r
abbrev Gy:Type:=List (Seg)->Subj->(List (ByteArray)->Prop)->Prop
def z40(z57:q9v)(z1p:q6g)(W5:q42):Gy:=fun l s K=>z57 l fun Qa _=>Lp2 (fun Qc Z6 z8x=>Fits Qa->Cnd (Z6<(↑Qa.length:Int)) (Lp2 (fun Qi Um j9k=>Fits l->CAt l Um (fun y5=>At Qa Z6 fun y7=>Cnd (y5.1=y7) (At l Um fun y9=>z1p (Seg.mk y9.1 y9.2 y9.3 y9.4 (Ex.mk y9.5.1 y9.5.2 y9.5.3 y9.5.4 y9.5.5)) (Subj.mk s.1) Qi fun Wx=>Cnd (Wx=true) (At Qa Z6 fun y12=>W5 Qi y12 fun W6=>InI (Um+1)/\j9k W6 (Um+1)) (InI (Um+1)/\j9k Qi (Um+1))) (InI (Um+1)/\j9k Qi (Um+1))) (InI (Z6+1)/\z8x Qi (Z6+1))) Qc (0:Int)) (K Qc)) [] (0:Int)
def q29:Gy:=z40 z4z z0u q7n
abbrev z0v:Type:=List (Frc)->ByteArray->(Frc->Bool->Prop)->Prop
def z0w:z0v:=fun l layer K=>Lp4 (fun Qa Qy z6t q4x u6b=>Fits l->CAt l Qa (fun y2=>Cnd (y2.1=layer) (At l Qa fun y4=>K y4 true) (InI (Qa+1)/\u6b (Qa+1) Qy z6t q4x)) (K (Frc.mk (ByteArray.mk (Array.mk [])) (ByteArray.mk (Array.mk [])) (0:Int)) false)) (0:Int) (ByteArray.mk (Array.mk [])) (ByteArray.mk (Array.mk [])) (0:Int)
abbrev Jf:Type:=Envt->ByteArray->(Int->Prop)->Prop
def Jy:Jf:=fun v key K=>Lp1 (fun Qa R3=>Fits v.6->CAt v.6 Qa (fun y2=>Cnd (y2.1=key) (K Qa) (InI (Qa+1)/\R3 (Qa+1))) (K (-1:Int))) (0:Int)
abbrev z0x:Type:=List (Rng)->Int->(Bool->Prop)->Prop
def z0y:z0x:=fun l arm K=>Lp1 (fun Qa R3=>Fits l->CAt l Qa (fun y2=>Cnd (y2.3=arm) (K true) (InI (Qa+1)/\R3 (Qa+1))) (K false)) (0:Int)
abbrev q9w:Type:=Envt->List (Frc)->Asg->(Asg->Bool->Prop)->Prop
def j12(z1q:z0v)(Qz:Jf)(z1r:z0x):q9w:=fun v forced a K=>z1q forced a.1 fun Qa Qy=>Cnd (Qy=true) (Cnd (Qa.2=ByteArray.mk (Array.mk [])) (K a Qy) (Qz (Envt.mk (Sett.mk v.1.1 v.1.2 v.1.3) v.2 v.3 v.4 v.5 v.6) Qa.2 fun Qc=>Cnd (Qc<0) (K a false) (At v.6 Qc fun y2=>Cnd (y2.5=2) (At v.6 Qc fun y4=>Cnd (y4.2=a.1) (At v.6 Qc fun y6=>z1r y6.7 Qa.3 fun Wj=>Cnd (Wj=true) (K (Asg.mk a.1 Qa.2 a.3 Qa.3 a.5) true) (K a false)) (K a false)) (K a false)))) (K a Qy)
def z41:q9w:=j12 z0w Jy z0y
abbrev z3h:Type:=Envt->Subj->(Bool->Prop)->Prop
def j6n(Z2:Hn)(q35:z4w):z3h:=fun v s K=>Z2 (Subj.mk s.1) v.1.2 fun Qa Qy=>Cnd (Qy=true) (Cnd ((0:Int)<v.1.3) (q35 v.1.1 Qa.2 fun Qc=>K (decide (Qc<v.1.3))) (K false)) (K false)
def z90:z3h:=j6n q6c z4x
abbrev z0z:Type:=List (Spn)->Int->(Bool->Prop)->Prop
def z00:z0z:=fun l bucket K=>Lp1 (fun Qa R3=>Fits l->CAt l Qa (fun y2=>Cnd (y2.1<=bucket) (At l Qa fun y4=>Cnd (bucket<y4.2) (K true) (InI (Qa+1)/\R3 (Qa+1))) (InI (Qa+1)/\R3 (Qa+1))) (K false)) (0:Int)
abbrev q0f:Type:=Envt->Subj->ByteArray->(Bool->Prop)->Prop
def z17(Qz:Jf)(Vb:Gy)(Wm:V2):q0f:=fun v s experiment K=>Qz (Envt.mk (Sett.mk v.1.1 v.1.2 v.1.3) v.2 v.3 v.4 v.5 v.6) experiment fun Qa=>Cnd ((0:Int)<=Qa) (At v.6 Qa fun y1=>Vb v.3 (Subj.mk s.1) fun Qi=>Wm (Subj.mk s.1) Qi (Ex.mk y1.8.1 y1.8.2 y1.8.3 y1.8.4 y1.8.5) fun Qe=>K Qe) (K false)
def q5a:q0f:=z17 Jy q29 q8r
abbrev q9x:Type:=Envt->Subj->List (Frc)->ByteArray->(Asg->Int->Prop)->Prop
def j13(Q8:We)(Z2:Hn)(z58:q9w)(j0n:z3h)(q6q:z0z)(q0n:q0f)(q35:z4w)(z3u:z9v):q9x:=fun v s forced key K=>Q8 (Envt.mk (Sett.mk v.1.1 v.1.2 v.1.3) v.2 v.3 v.4 v.5 v.6) key fun Qa=>Cnd (Qa<0) (K (Asg.mk (ByteArray.mk (Array.mk [])) (ByteArray.mk (Array.mk [])) (0:Int) (0:Int) false) (11:Int)) (At v.5 Qa fun y1=>Z2 (Subj.mk s.1) y1.2 fun Qi Um=>Jn1 (fun Qe=>z58 (Envt.mk (Sett.mk v.1.1 v.1.2 v.1.3) v.2 v.3 v.4 v.5 v.6) forced (Asg.mk key (ByteArray.mk (Array.mk [])) Qe (0:Int) false) fun Ql q7d=>Cnd (q7d=true) (K Ql (0:Int)) (j0n (Envt.mk (Sett.mk v.1.1 v.1.2 v.1.3) v.2 v.3 v.4 v.5 v.6) (Subj.mk s.1) fun Zq=>Cnd (Zq=true) (K (Asg.mk key (ByteArray.mk (Array.mk [])) Qe (0:Int) true) (0:Int)) (Cnd (Um=true) (Cnd (Qe<y1.4) (K (Asg.mk key (ByteArray.mk (Array.mk [])) Qe (0:Int) true) (0:Int)) (LpH (fun (Qv:Int×ByteArray×ByteArray×Int×Int×Bool×ByteArray×ByteArray×Int×Int×Bool×Unit) (v2q:Int×ByteArray×ByteArray×Int×Int×Bool×ByteArray×ByteArray×Int×Int×Bool×Unit->Prop)=>Fits v.6->Cnd (Qv.1<(↑v.6.length:Int)) (Cnd (Um=true) (At v.6 Qv.1 fun y9=>Cnd (y9.2=key) (Cnd (y9.5=2) (q6q y9.6 Qv.2.2.2.1 fun Wx=>Cnd (Wx=true) (q0n (Envt.mk (Sett.mk v.1.1 v.1.2 v.1.3) v.2 v.3 v.4 v.5 v.6) (Subj.mk s.1) y9.1 fun Vv=>Cnd (Vv=true) (q35 y9.4 Qi.2 fun Zd=>z3u y9.7 Zd fun W6=>K (Asg.mk Qv.2.1 y9.1 Qv.2.2.2.1 W6 Qv.2.2.2.2.2.1) (0:Int)) (InI (Qv.1+1)/\v2q (Qv.1+1,Qv.2.1,Qv.2.2.1,Qv.2.2.2.1,Qv.2.2.2.2.1,Qv.2.2.2.2.2.1,Qv.2.2.2.2.2.2.1,Qv.2.2.2.2.2.2.2.1,Qv.2.2.2.2.2.2.2.2.1,Qv.2.2.2.2.2.2.2.2.2.1,Qv.2.2.2.2.2.2.2.2.2.2.1,()))) (InI (Qv.1+1)/\v2q (Qv.1+1,Qv.2.1,Qv.2.2.1,Qv.2.2.2.1,Qv.2.2.2.2.1,Qv.2.2.2.2.2.1,Qv.2.2.2.2.2.2.1,Qv.2.2.2.2.2.2.2.1,Qv.2.2.2.2.2.2.2.2.1,Qv.2.2.2.2.2.2.2.2.2.1,Qv.2.2.2.2.2.2.2.2.2.2.1,()))) (InI (Qv.1+1)/\v2q (Qv.1+1,Qv.2.1,Qv.2.2.1,Qv.2.2.2.1,Qv.2.2.2.2.1,Qv.2.2.2.2.2.1,Qv.2.2.2.2.2.2.1,Qv.2.2.2.2.2.2.2.1,Qv.2.2.2.2.2.2.2.2.1,Qv.2.2.2.2.2.2.2.2.2.1,Qv.2.2.2.2.2.2.2.2.2.2.1,()))) (InI (Qv.1+1)/\v2q (Qv.1+1,Qv.2.1,Qv.2.2.1,Qv.2.2.2.1,Qv.2.2.2.2.1,Qv.2.2.2.2.2.1,Qv.2.2.2.2.2.2.1,Qv.2.2.2.2.2.2.2.1,Qv.2.2.2.2.2.2.2.2.1,Qv.2.2.2.2.2.2.2.2.2.1,Qv.2.2.2.2.2.2.2.2.2.2.1,()))) (K (Asg.mk Qv.2.1 Qv.2.2.1 Qv.2.2.2.1 Qv.2.2.2.2.1 Qv.2.2.2.2.2.1) (0:Int))) (K (Asg.mk Qv.2.1 Qv.2.2.1 Qv.2.2.2.1 Qv.2.2.2.2.1 Qv.2.2.2.2.2.1) (0:Int))) ((0:Int),key,ByteArray.mk (Array.mk []),Qe,(0:Int),false,ByteArray.mk (Array.mk []),ByteArray.mk (Array.mk []),(0:Int),(0:Int),false,()))) (LpH (fun (Qv:Int×ByteArray×ByteArray×Int×Int×Bool×ByteArray×ByteArray×Int×Int×Bool×Unit) (v2q:Int×ByteArray×ByteArray×Int×Int×Bool×ByteArray×ByteArray×Int×Int×Bool×Unit->Prop)=>Fits v.6->Cnd (Qv.1<(↑v.6.length:Int)) (Cnd (Um=true) (At v.6 Qv.1 fun y9=>Cnd (y9.2=key) (Cnd (y9.5=2) (q6q y9.6 Qv.2.2.2.1 fun Wx=>Cnd (Wx=true) (q0n (Envt.mk (Sett.mk v.1.1 v.1.2 v.1.3) v.2 v.3 v.4 v.5 v.6) (Subj.mk s.1) y9.1 fun Vv=>Cnd (Vv=true) (q35 y9.4 Qi.2 fun Zd=>z3u y9.7 Zd fun W6=>K (Asg.mk Qv.2.1 y9.1 Qv.2.2.2.1 W6 Qv.2.2.2.2.2.1) (0:Int)) (InI (Qv.1+1)/\v2q (Qv.1+1,Qv.2.1,Qv.2.2.1,Qv.2.2.2.1,Qv.2.2.2.2.1,Qv.2.2.2.2.2.1,Qv.2.2.2.2.2.2.1,Qv.2.2.2.2.2.2.2.1,Qv.2.2.2.2.2.2.2.2.1,Qv.2.2.2.2.2.2.2.2.2.1,Qv.2.2.2.2.2.2.2.2.2.2.1,()))) (InI (Qv.1+1)/\v2q (Qv.1+1,Qv.2.1,Qv.2.2.1,Qv.2.2.2.1,Qv.2.2.2.2.1,Qv.2.2.2.2.2.1,Qv.2.2.2.2.2.2.1,Qv.2.2.2.2.2.2.2.1,Qv.2.2.2.2.2.2.2.2.1,Qv.2.2.2.2.2.2.2.2.2.1,Qv.2.2.2.2.2.2.2.2.2.2.1,()))) (InI (Qv.1+1)/\v2q (Qv.1+1,Qv.2.1,Qv.2.2.1,Qv.2.2.2.1,Qv.2.2.2.2.1,Qv.2.2.2.2.2.1,Qv.2.2.2.2.2.2.1,Qv.2.2.2.2.2.2.2.1,Qv.2.2.2.2.2.2.2.2.1,Qv.2.2.2.2.2.2.2.2.2.1,Qv.2.2.2.2.2.2.2.2.2.2.1,()))) (InI (Qv.1+1)/\v2q (Qv.1+1,Qv.2.1,Qv.2.2.1,Qv.2.2.2.1,Qv.2.2.2.2.1,Qv.2.2.2.2.2.1,Qv.2.2.2.2.2.2.1,Qv.2.2.2.2.2.2.2.1,Qv.2.2.2.2.2.2.2.2.1,Qv.2.2.2.2.2.2.2.2.2.1,Qv.2.2.2.2.2.2.2.2.2.2.1,()))) (K (Asg.mk Qv.2.1 Qv.2.2.1 Qv.2.2.2.1 Qv.2.2.2.2.1 Qv.2.2.2.2.2.1) (0:Int))) (K (Asg.mk Qv.2.1 Qv.2.2.1 Qv.2.2.2.1 Qv.2.2.2.2.1 Qv.2.2.2.2.2.1) (0:Int))) ((0:Int),key,ByteArray.mk (Array.mk []),Qe,(0:Int),false,ByteArray.mk (Array.mk []),ByteArray.mk (Array.mk []),(0:Int),(0:Int),false,()))))) fun v2u=>Cnd (Um=true) (q35 y1.3 Qi.2 fun Ql=>v2u Ql) (v2u (-1:Int)))
def z42:q9x:=j13 V7 q6c z41 z90 z00 q5a z4x z9w
abbrev q0g:Type:=Envt->Subj->List (Frc)->Flg->Dcs->(Bool->Prop)->Prop
def z18(Jg:Gb)(J1:Vu)(Z2:Hn)(Qz:Jf)(z59:q9x)(Vb:Gy)(Wm:V2):q0g:=fun v s forced f d K=>Cnd (d.4.1=1) (Cnd (f.4=true) (K false) (K (decide (d.2=f.5)))) (Cnd (d.4.1=2) (Lp1 (fun Qa R3=>Fits f.6->CAt f.6 Qa (fun y2=>Cnd (y2.1=d.4.3) (Jg (Envt.mk (Sett.mk v.1.1 v.1.2 v.1.3) v.2 v.3 v.4 v.5 v.6) y2.1 fun Qe=>J1 (Envt.mk (Sett.mk v.1.1 v.1.2 v.1.3) v.2 v.3 v.4 v.5 v.6) (Subj.mk s.1) forced y2.1 fun Ql _=>Cnd ((0:Int)<=Qe) (At v.4 Qe fun y6=>Cnd (y6.4=true) (Cnd (Ql.2=y2.2) (K false) (K (decide (d.2=f.5)))) (K (decide (d.2=f.5)))) (K false)) (InI (Qa+1)/\R3 (Qa+1))) (K false)) (0:Int)) (Cnd (d.4.1=3) (Cnd (d.4.2<1) (K false) (Fits f.7->Cnd ((↑f.7.length:Int)<d.4.2) (K false) (InI (d.4.2 - 1)/\((0:Int)<=d.4.2 - 1/\d.4.2 - 1<(↑f.7.length:Int))/\ ∀y1,f.7[(d.4.2 - 1).toNat]? =some y1->Z2 (Subj.mk s.1) y1.1 fun Qi Um=>Lp2 (fun Qe Js w9d=>InI (d.4.2 - 1)/\((0:Int)<=d.4.2 - 1/\d.4.2 - 1<(↑f.7.length:Int))/\ ∀y5,f.7[(d.4.2 - 1).toNat]? =some y5->Fits y5.3->Cnd (Js<(↑y5.3.length:Int)) (Cnd (Qe=true) (InI (Js+1)/\w9d true (Js+1)) (InI (d.4.2 - 1)/\((0:Int)<=d.4.2 - 1/\d.4.2 - 1<(↑f.7.length:Int))/\ ∀y8,f.7[(d.4.2 - 1).toNat]? =some y8->At y8.3 Js fun y10=>InI (Js+1)/\w9d (decide (y10=Qi.2)) (Js+1))) (Cnd (Um=true) (Cnd (Qe=true) (InI (d.4.2 - 1)/\((0:Int)<=d.4.2 - 1/\d.4.2 - 1<(↑f.7.length:Int))/\ ∀y8,f.7[(d.4.2 - 1).toNat]? =some y8->K (decide (d.2=y8.2))) (K false)) (K false))) false (0:Int)))) (Cnd (d.4.1=4) (Qz (Envt.mk (Sett.mk v.1.1 v.1.2 v.1.3) v.2 v.3 v.4 v.5 v.6) d.4.3 fun Qa=>Cnd (Qa<0) (K false) (At v.6 Qa fun y1=>Cnd (y1.3=f.1) (At v.6 Qa fun y3=>Cnd (y3.5=2) (At v.6 Qa fun y5=>z59 (Envt.mk (Sett.mk v.1.1 v.1.2 v.1.3) v.2 v.3 v.4 v.5 v.6) (Subj.mk s.1) forced y5.2 fun Qv _=>Cnd (Qv.2=d.4.3) (K (decide (Qv.4=d.2))) (K false)) (K false)) (K false))) (Cnd (d.4.1=5) (Cnd ((1:Int)<=d.4.2) (Fits f.8->Cnd (d.4.2<=(↑f.8.length:Int)) (InI (d.4.2 - 1)/\((0:Int)<=d.4.2 - 1/\d.4.2 - 1<(↑f.8.length:Int))/\ ∀y1,f.8[(d.4.2 - 1).toNat]? =some y1->Cnd (y1.1=d.4.3) (InI (d.4.2 - 1)/\((0:Int)<=d.4.2 - 1/\d.4.2 - 1<(↑f.8.length:Int))/\ ∀y3,f.8[(d.4.2 - 1).toNat]? =some y3->Vb v.3 (Subj.mk s.1) fun Ql=>Wm (Subj.mk s.1) Ql (Ex.mk y3.2.1 y3.2.2 y3.2.3 y3.2.4 y3.2.5) fun Zq=>K Zq) (K false)) (K false)) (K false)) (Cnd (d.4.1=7) (Cnd (d.2=f.5) (Cnd ((0:Int)<=d.4.2) (Fits f.8->K (decide (d.4.2<=(↑f.8.length:Int)))) (K false)) (K false)) (K (decide (d.4.1=6))))))))
def q5b:q0g:=z18 q56 Rw q6c Jy z42 q29 q8r
abbrev Gz:Type:=List (Int)->List (Int)->(Bool->Prop)->Prop
def G0(q8i:q26)(q8j:q27)(q5s:q0d)(q5t:q0g):Gz:=fun codes who K=>q8i fun Qa=>Cnd (Qa=true) (q8j codes who fun Qc Z6 z8v=>q5s (Envt.mk (Sett.mk Qc.1.1 Qc.1.2 Qc.1.3) Qc.2 Qc.3 Qc.4 Qc.5 Qc.6) (Subj.mk Z6.1) z8v fun Qf=>Fits Qf->Fits Qc.4->Cnd ((↑Qf.length:Int)=(↑Qc.4.length:Int)) (Fits Qf->Lp1 (fun Zq v7n=>Cnd (Zq<(↑Qf.length:Int)) (At Qc.4 Zq fun y7=>At Qf Zq fun y9=>Cnd (y9.1=y7.1) (Cnd (y9.2<1) (K false) (Fits y7.3->Cnd ((↑y7.3.length:Int)<y9.2) (K false) (Cnd (y9.3.1=y7.2) (Cnd (y9.5=0) (q5t (Envt.mk (Sett.mk Qc.1.1 Qc.1.2 Qc.1.3) Qc.2 Qc.3 Qc.4 Qc.5 Qc.6) (Subj.mk Z6.1) z8v (Flg.mk y7.1 y7.2 y7.3 y7.4 y7.5 y7.6 y7.7 y7.8 (Srv.mk y7.9.1 y7.9.2 y7.9.3 y7.9.4 y7.9.5)) (Dcs.mk y9.1 y9.2 (Val.mk y9.3.1 y9.3.2 y9.3.3 y9.3.4) (Rsn.mk y9.4.1 y9.4.2 y9.4.3 y9.4.4) y9.5) fun Vv=>Cnd (Vv=true) (InI (Zq+1)/\v7n (Zq+1)) (K false)) (K false)) (K false)))) (K false)) (K true)) (0:Int)) (K false)) (K false)
def Zt:Gz:=G0 q7w q28 q48 q5b
end Go.En
end
noncomputable section
set_option maxRecDepth 100000
namespace Go.Proofs
open Go.Shelf
def Tryz.laysM171_ren:Go.Shelf.Ren:=⟨fun|171=>164|243=>202|246=>260|283=>288|284=>289|285=>290|286=>291|129=>238|317=>304|318=>305|319=>306|320=>307|337=>319|338=>320|n=>n,fun|3=>3|9=>9|2=>2|4=>4|171=>365|0=>0|53=>221|37=>22|5=>5|173=>367|212=>375|51=>326|20=>20|213=>376|46=>273|232=>390|233=>391|n=>n,fun|17=>5|18=>7|19=>8|n=>n⟩
theorem Tryz.laysM171:Go.Proofs.LaysM.n171 Tryz.prog Tryz.laysM171_ren:={
 mixed:=by kernel_rfl
 f129:=Tryz.func238.trans (congrArg some (by kernel_rfl))
 f171:=Tryz.func164.trans (congrArg some (by kernel_rfl))
 f243:=Tryz.func202.trans (congrArg some (by kernel_rfl))
 f246:=Tryz.func260.trans (congrArg some (by kernel_rfl))
 f283:=Tryz.func288.trans (congrArg some (by kernel_rfl))
 f284:=Tryz.func289.trans (congrArg some (by kernel_rfl))
 f285:=Tryz.func290.trans (congrArg some (by kernel_rfl))
 f286:=Tryz.func291.trans (congrArg some (by kernel_rfl))
 f317:=Tryz.func304.trans (congrArg some (by kernel_rfl))
 f318:=Tryz.func305.trans (congrArg some (by kernel_rfl))
 f319:=Tryz.func306.trans (congrArg some (by kernel_rfl))
 f320:=Tryz.func307.trans (congrArg some (by kernel_rfl))
 f337:=Tryz.func319.trans (congrArg some (by kernel_rfl))
 f338:=Tryz.func320.trans (congrArg some (by kernel_rfl))
 t0:=Tryz.underlying0
 a0:=Tryz.isAgg0
 z0:=Tryz.sizeOf0
 v0:=Tryz.zeroValue0
 t2:=Tryz.underlying2
 a2:=Tryz.isAgg2
 z2:=Tryz.sizeOf2
 v2:=Tryz.zeroValue2
 t3:=Tryz.underlying3
 a3:=Tryz.isAgg3
 z3:=Tryz.sizeOf3
 v3:=Tryz.zeroValue3
 t4:=Tryz.underlying4
 a4:=Tryz.isAgg4
 z4:=Tryz.sizeOf4
 v4:=Tryz.zeroValue4
 t5:=Tryz.underlying5
 a5:=Tryz.isAgg5
 z5:=Tryz.sizeOf5
 v5:=Tryz.zeroValue5
 t9:=Tryz.underlying9
 a9:=Tryz.isAgg9
 z9:=Tryz.sizeOf9
 v9:=Tryz.zeroValue9
 t20:=Tryz.underlying20
 a20:=Tryz.isAgg20
 z20:=Tryz.sizeOf20
 v20:=Tryz.zeroValue20
 t37:=Tryz.underlying22
 a37:=Tryz.isAgg22
 z37:=Tryz.sizeOf22
 v37:=Tryz.zeroValue22
 t46:=Tryz.underlying273
 a46:=Tryz.isAgg273
 z46:=Tryz.sizeOf273
 v46:=Tryz.zeroValue273
 t51:=Tryz.underlying326
 a51:=Tryz.isAgg326
 z51:=Tryz.sizeOf326
 v51:=Tryz.zeroValue326
 t53:=Tryz.underlying221
 a53:=Tryz.isAgg221
 z53:=Tryz.sizeOf221
 v53:=Tryz.zeroValue221
 t171:=Tryz.underlying365
 a171:=Tryz.isAgg365
 z171:=Tryz.sizeOf365
 v171:=Tryz.zeroValue365
 t173:=Tryz.underlying367
 a173:=Tryz.isAgg367
 z173:=Tryz.sizeOf367
 v173:=Tryz.zeroValue367
 t212:=Tryz.underlying375
 a212:=Tryz.isAgg375
 z212:=Tryz.sizeOf375
 v212:=Tryz.zeroValue375
 t213:=Tryz.underlying376
 a213:=Tryz.isAgg376
 z213:=Tryz.sizeOf376
 t232:=Tryz.underlying390
 a232:=Tryz.isAgg390
 z232:=Tryz.sizeOf390
 v232:=Tryz.zeroValue390
 t233:=Tryz.underlying391
 a233:=Tryz.isAgg391
 z233:=Tryz.sizeOf391
 v233:=Tryz.zeroValue391
 g17:=by kernel_rfl
 g18:=by kernel_rfl
 g19:=by kernel_rfl
 i0:=by kernel_rfl
 i2:=by kernel_rfl
 i3:=by kernel_rfl
 i4:=by kernel_rfl
 i5:=by kernel_rfl
 i9:=by kernel_rfl
 i20:=by kernel_rfl
 i37:=by kernel_rfl
 i46:=by kernel_rfl
 i51:=by kernel_rfl
 i53:=by kernel_rfl
 i171:=by kernel_rfl
 i173:=by kernel_rfl
 i212:=by kernel_rfl
 i232:=by kernel_rfl
 i233:=by kernel_rfl
 m17:=by kernel_rfl
 m18:=by kernel_rfl
 m19:=by kernel_rfl}
open Go.RowKit Go.Sort Go.Lib in
theorem Tryz.strconv_Itoa (n:Int) (h0: -9223372036854775808<=n) (h1:n<=9223372036854775807) (w:World) (htab:Lib.TabIs Tryz.prog w "internal/strconv.uint64pow10" .u64 Lib.pow10Tab):
  Calls Tryz.prog 164 #[.int .i64 n] w fun e w'=>e= .returned (.string ⟨(Lib.itoa n).toArray⟩)/\ ∃k os,w'=grow (w.drewN k) os:=Any.strconv_Itoa Tryz.laysM171 n h0 h1 w htab
def Tryz.laysC172_ren:Go.Shelf.Ren:=⟨fun|172=>318|244=>326|245=>327|247=>331|279=>332|280=>333|281=>334|282=>335|287=>337|316=>338|171=>164|205=>339|321=>340|322=>341|243=>202|246=>260|283=>288|284=>289|285=>290|286=>291|129=>238|317=>304|318=>305|319=>306|320=>307|337=>319|338=>320|n=>n,fun|9=>9|3=>3|75=>383|76=>384|4=>4|5=>5|167=>395|37=>22|0=>0|85=>396|2=>2|168=>398|53=>221|175=>401|46=>273|210=>405|127=>408|145=>411|143=>409|21=>21|171=>365|173=>367|212=>375|51=>326|20=>20|213=>376|232=>390|233=>391|80=>95|n=>n,fun|15=>9|16=>10|17=>5|18=>7|19=>8|n=>n⟩
theorem Tryz.laysC172:Go.Proofs.LaysC.n172 Tryz.prog Tryz.laysC172_ren:={
 mixed:=by kernel_rfl
 f129:=Tryz.func238.trans (congrArg some (by kernel_rfl))
 f171:=Tryz.func164.trans (congrArg some (by kernel_rfl))
 f172:=Tryz.func318.trans (congrArg some (by kernel_rfl))
 f205:=Tryz.func339.trans (congrArg some (by kernel_rfl))
 f243:=Tryz.func202.trans (congrArg some (by kernel_rfl))
 f244:=Tryz.func326.trans (congrArg some (by kernel_rfl))
 f245:=Tryz.func327.trans (congrArg some (by kernel_rfl))
 f246:=Tryz.func260.trans (congrArg some (by kernel_rfl))
 f247:=Tryz.func331.trans (congrArg some (by kernel_rfl))
 f279:=Tryz.func332.trans (congrArg some (by kernel_rfl))
 f280:=Tryz.func333.trans (congrArg some (by kernel_rfl))
 f281:=Tryz.func334.trans (congrArg some (by kernel_rfl))
 f282:=Tryz.func335.trans (congrArg some (by kernel_rfl))
 f283:=Tryz.func288.trans (congrArg some (by kernel_rfl))
 f284:=Tryz.func289.trans (congrArg some (by kernel_rfl))
 f285:=Tryz.func290.trans (congrArg some (by kernel_rfl))
 f286:=Tryz.func291.trans (congrArg some (by kernel_rfl))
 f287:=Tryz.func337.trans (congrArg some (by kernel_rfl))
 f316:=Tryz.func338.trans (congrArg some (by kernel_rfl))
 f317:=Tryz.func304.trans (congrArg some (by kernel_rfl))
 f318:=Tryz.func305.trans (congrArg some (by kernel_rfl))
 f319:=Tryz.func306.trans (congrArg some (by kernel_rfl))
 f320:=Tryz.func307.trans (congrArg some (by kernel_rfl))
 f321:=Tryz.func340.trans (congrArg some (by kernel_rfl))
 f322:=Tryz.func341.trans (congrArg some (by kernel_rfl))
 f337:=Tryz.func319.trans (congrArg some (by kernel_rfl))
 f338:=Tryz.func320.trans (congrArg some (by kernel_rfl))
 t0:=Tryz.underlying0
 a0:=Tryz.isAgg0
 z0:=Tryz.sizeOf0
 v0:=Tryz.zeroValue0
 t2:=Tryz.underlying2
 a2:=Tryz.isAgg2
 z2:=Tryz.sizeOf2
 v2:=Tryz.zeroValue2
 t3:=Tryz.underlying3
 a3:=Tryz.isAgg3
 z3:=Tryz.sizeOf3
 v3:=Tryz.zeroValue3
 t4:=Tryz.underlying4
 a4:=Tryz.isAgg4
 z4:=Tryz.sizeOf4
 v4:=Tryz.zeroValue4
 t5:=Tryz.underlying5
 a5:=Tryz.isAgg5
 z5:=Tryz.sizeOf5
 v5:=Tryz.zeroValue5
 t9:=Tryz.underlying9
 a9:=Tryz.isAgg9
 z9:=Tryz.sizeOf9
 v9:=Tryz.zeroValue9
 t20:=Tryz.underlying20
 a20:=Tryz.isAgg20
 z20:=Tryz.sizeOf20
 v20:=Tryz.zeroValue20
 t21:=Tryz.underlying21
 a21:=Tryz.isAgg21
 z21:=Tryz.sizeOf21
 v21:=Tryz.zeroValue21
 t37:=Tryz.underlying22
 a37:=Tryz.isAgg22
 z37:=Tryz.sizeOf22
 v37:=Tryz.zeroValue22
 t46:=Tryz.underlying273
 a46:=Tryz.isAgg273
 z46:=Tryz.sizeOf273
 v46:=Tryz.zeroValue273
 t51:=Tryz.underlying326
 a51:=Tryz.isAgg326
 z51:=Tryz.sizeOf326
 v51:=Tryz.zeroValue326
 t53:=Tryz.underlying221
 a53:=Tryz.isAgg221
 z53:=Tryz.sizeOf221
 v53:=Tryz.zeroValue221
 t75:=Tryz.underlying383
 a75:=Tryz.isAgg383
 z75:=Tryz.sizeOf383
 v75:=Tryz.zeroValue383
 t76:=Tryz.underlying384
 a76:=Tryz.isAgg384
 z76:=Tryz.sizeOf384
 v76:=Tryz.zeroValue384
 t85:=Tryz.underlying396
 a85:=Tryz.isAgg396
 z85:=Tryz.sizeOf396
 v85:=Tryz.zeroValue396
 t127:=Tryz.underlying408
 a127:=Tryz.isAgg408
 z127:=Tryz.sizeOf408
 v127:=Tryz.zeroValue408
 t143:=Tryz.underlying409
 a143:=Tryz.isAgg409
 z143:=Tryz.sizeOf409
 v143:=Tryz.zeroValue409
 t145:=Tryz.underlying411
 a145:=Tryz.isAgg411
 z145:=Tryz.sizeOf411
 v145:=Tryz.zeroValue411
 t167:=Tryz.underlying395
 a167:=Tryz.isAgg395
 z167:=Tryz.sizeOf395
 v167:=Tryz.zeroValue395
 t168:=Tryz.underlying398
 a168:=Tryz.isAgg398
 z168:=Tryz.sizeOf398
 v168:=Tryz.zeroValue398
 t171:=Tryz.underlying365
 a171:=Tryz.isAgg365
 z171:=Tryz.sizeOf365
 v171:=Tryz.zeroValue365
 t173:=Tryz.underlying367
 a173:=Tryz.isAgg367
 z173:=Tryz.sizeOf367
 v173:=Tryz.zeroValue367
 t175:=Tryz.underlying401
 a175:=Tryz.isAgg401
 z175:=Tryz.sizeOf401
 v175:=Tryz.zeroValue401
 t210:=Tryz.underlying405
 a210:=Tryz.isAgg405
 z210:=Tryz.sizeOf405
 v210:=Tryz.zeroValue405
 t212:=Tryz.underlying375
 a212:=Tryz.isAgg375
 z212:=Tryz.sizeOf375
 v212:=Tryz.zeroValue375
 t213:=Tryz.underlying376
 a213:=Tryz.isAgg376
 z213:=Tryz.sizeOf376
 t232:=Tryz.underlying390
 a232:=Tryz.isAgg390
 z232:=Tryz.sizeOf390
 v232:=Tryz.zeroValue390
 t233:=Tryz.underlying391
 a233:=Tryz.isAgg391
 z233:=Tryz.sizeOf391
 v233:=Tryz.zeroValue391
 g15:=by kernel_rfl
 g16:=by kernel_rfl
 g17:=by kernel_rfl
 g18:=by kernel_rfl
 g19:=by kernel_rfl
 t80:=Tryz.underlying95
 a80:=Tryz.isAgg95
 z80:=Tryz.sizeOf95
 v80:=Tryz.zeroValue95
 i0:=by kernel_rfl
 i2:=by kernel_rfl
 i3:=by kernel_rfl
 i4:=by kernel_rfl
 i5:=by kernel_rfl
 i9:=by kernel_rfl
 i20:=by kernel_rfl
 i21:=by kernel_rfl
 i37:=by kernel_rfl
 i46:=by kernel_rfl
 i51:=by kernel_rfl
 i53:=by kernel_rfl
 i75:=by kernel_rfl
 i76:=by kernel_rfl
 i80:=by kernel_rfl
 i85:=by kernel_rfl
 i127:=by kernel_rfl
 i143:=by kernel_rfl
 i145:=by kernel_rfl
 i167:=by kernel_rfl
 i168:=by kernel_rfl
 i171:=by kernel_rfl
 i173:=by kernel_rfl
 i175:=by kernel_rfl
 i210:=by kernel_rfl
 i212:=by kernel_rfl
 i232:=by kernel_rfl
 i233:=by kernel_rfl
 m15:=by kernel_rfl
 m16:=by kernel_rfl
 m17:=by kernel_rfl
 m18:=by kernel_rfl
 m19:=by kernel_rfl
 c0:=by kernel_rfl
 c2:=by kernel_rfl
 c3:=by kernel_rfl
 c4:=by kernel_rfl
 c5:=by kernel_rfl
 c9:=by kernel_rfl
 c20:=by kernel_rfl
 c21:=by kernel_rfl
 c37:=by kernel_rfl
 c46:=by kernel_rfl
 c51:=by kernel_rfl
 c53:=by kernel_rfl
 c75:=by kernel_rfl
 c76:=by kernel_rfl
 c80:=by kernel_rfl
 c85:=by kernel_rfl
 c127:=by kernel_rfl
 c143:=by kernel_rfl
 c145:=by kernel_rfl
 c167:=by kernel_rfl
 c168:=by kernel_rfl
 c171:=by kernel_rfl
 c173:=by kernel_rfl
 c175:=by kernel_rfl
 c210:=by kernel_rfl
 c212:=by kernel_rfl
 c213:=by kernel_rfl
 c232:=by kernel_rfl
 c233:=by kernel_rfl}
open Go.RowKit in
theorem Tryz.strconv_Atoi_ok(s:ByteArray)(hmax:s.size<=9223372036854775806)(v:Int)(h:Lib.atoiAll s.data.toList= .ok v)(w:World):
  Calls Tryz.prog 318 #[.string s] w fun e w'=>e= .returned (.tuple #[.int .i64 v,.nilIface])/\(w'=w∨ ∃t,w'=Lib.bytesWorld w 5 t):=Any.strconv_Atoi_ok Tryz.laysC172 s hmax v h w
open Go.RowKit in
theorem Tryz.strconv_Atoi_syntax(s:ByteArray)(hlim:s.size<=281474976710656)(h:Lib.atoiAll s.data.toList=Go.Lib.NumEnd.syntax)(ev:Value)(w:World)(hv:w.cell? ⟨9,0,none⟩=some ev)(hev:ev= .nilIface∨ ∃te pe,ev= .iface te pe):
  Calls Tryz.prog 318 #[.string s] w fun e w'=> ∃N,e= .returned (.tuple #[.int .i64 (0),.iface 398 (.pointer (some ⟨N,0,none⟩))])/\w.heap.size<=N/\w'.heap[N]? =some (.cells #[.string ⟨#[65,116,111,105]⟩,.string s,ev] 405 (0,0))/\Below w.heap.size w w':=Any.strconv_Atoi_syntax Tryz.laysC172 s hlim h ev w hv hev
open Go.RowKit in
theorem Tryz.strconv_Atoi_range(s:ByteArray)(hlim:s.size<=281474976710656)(h:Lib.atoiAll s.data.toList= .range)(ev:Value)(w:World)(hv:w.cell? ⟨10,0,none⟩=some ev)(hev:ev= .nilIface∨ ∃te pe,ev= .iface te pe):
  Calls Tryz.prog 318 #[.string s] w fun e w'=> ∃N,e= .returned (.tuple #[.int .i64 (Lib.atoiSat s.data.toList),.iface 398 (.pointer (some ⟨N,0,none⟩))])/\w.heap.size<=N/\w'.heap[N]? =some (.cells #[.string ⟨#[65,116,111,105]⟩,.string s,ev] 405 (0,0))/\Below w.heap.size w w':=Any.strconv_Atoi_range Tryz.laysC172 s hlim h ev w hv hev
def Tryz.lays144_ren:Go.Shelf.Ren:=⟨fun|144=>251|143=>282|219=>298|217=>312|225=>313|224=>314|267=>315|266=>321|314=>322|n=>n,fun|9=>9|4=>4|3=>3|5=>5|46=>273|146=>386|51=>326|n=>n,fun|1=>6|n=>n⟩
theorem Tryz.lays144:Go.Proofs.Lays.n144 Tryz.prog Tryz.lays144_ren:={
 mixed:=by kernel_rfl
 f143:=Tryz.func282.trans (congrArg some (by kernel_rfl))
 f144:=Tryz.func251.trans (congrArg some (by kernel_rfl))
 f217:=Tryz.func312.trans (congrArg some (by kernel_rfl))
 f219:=Tryz.func298.trans (congrArg some (by kernel_rfl))
 f224:=Tryz.func314.trans (congrArg some (by kernel_rfl))
 f225:=Tryz.func313.trans (congrArg some (by kernel_rfl))
 f266:=Tryz.func321.trans (congrArg some (by kernel_rfl))
 f267:=Tryz.func315.trans (congrArg some (by kernel_rfl))
 f314:=Tryz.func322.trans (congrArg some (by kernel_rfl))
 t3:=Tryz.underlying3
 a3:=Tryz.isAgg3
 z3:=Tryz.sizeOf3
 v3:=Tryz.zeroValue3
 t4:=Tryz.underlying4
 a4:=Tryz.isAgg4
 z4:=Tryz.sizeOf4
 v4:=Tryz.zeroValue4
 t5:=Tryz.underlying5
 a5:=Tryz.isAgg5
 z5:=Tryz.sizeOf5
 v5:=Tryz.zeroValue5
 t9:=Tryz.underlying9
 a9:=Tryz.isAgg9
 z9:=Tryz.sizeOf9
 v9:=Tryz.zeroValue9
 t46:=Tryz.underlying273
 a46:=Tryz.isAgg273
 z46:=Tryz.sizeOf273
 v46:=Tryz.zeroValue273
 t51:=Tryz.underlying326
 a51:=Tryz.isAgg326
 z51:=Tryz.sizeOf326
 v51:=Tryz.zeroValue326
 t146:=Tryz.underlying386
 a146:=Tryz.isAgg386
 z146:=Tryz.sizeOf386
 v146:=Tryz.zeroValue386
 g1:=by kernel_rfl}
open Go.RowKit Go.Lib in
theorem Tryz.strings_Contains(s sub:ByteArray)(m:Int)(w:World)(hs:s.size<4294967281)(hm:w.cell? ⟨6,0,none⟩=some (.int .i64 m)):
  Calls Tryz.prog 251 #[.string s,.string sub] w fun e w'=>e= .returned (.bool (Lib.contains s.data.toList sub.data.toList))/\w'=w:=Any.strings_Contains Tryz.lays144 s sub m w hs hm
def Tryz.lays190_ren:Go.Shelf.Ren:=⟨fun|190=>137|125=>180|258=>179|128=>237|129=>238|302=>228|303=>229|304=>230|305=>231|306=>232|307=>233|308=>234|309=>235|310=>236|333=>270|329=>271|330=>272|334=>273|335=>274|336=>275|344=>297|n=>n,fun|31=>70|9=>9|3=>3|46=>273|0=>0|51=>326|53=>221|4=>4|183=>319|182=>318|131=>112|5=>5|218=>356|222=>353|228=>371|229=>341|n=>n,fun|n=>n⟩
theorem Tryz.lays190:Go.Proofs.Lays.n190 Tryz.prog Tryz.lays190_ren:={
 mixed:=by kernel_rfl
 f125:=Tryz.func180.trans (congrArg some (by kernel_rfl))
 f128:=Tryz.func237.trans (congrArg some (by kernel_rfl))
 f129:=Tryz.func238.trans (congrArg some (by kernel_rfl))
 f190:=Tryz.func137.trans (congrArg some (by kernel_rfl))
 f258:=Tryz.func179.trans (congrArg some (by kernel_rfl))
 f302:=Tryz.func228.trans (congrArg some (by kernel_rfl))
 f303:=Tryz.func229.trans (congrArg some (by kernel_rfl))
 f304:=Tryz.func230.trans (congrArg some (by kernel_rfl))
 f305:=Tryz.func231.trans (congrArg some (by kernel_rfl))
 f306:=Tryz.func232.trans (congrArg some (by kernel_rfl))
 f307:=Tryz.func233.trans (congrArg some (by kernel_rfl))
 f308:=Tryz.func234.trans (congrArg some (by kernel_rfl))
 f309:=Tryz.func235.trans (congrArg some (by kernel_rfl))
 f310:=Tryz.func236.trans (congrArg some (by kernel_rfl))
 f329:=Tryz.func271.trans (congrArg some (by kernel_rfl))
 f330:=Tryz.func272.trans (congrArg some (by kernel_rfl))
 f333:=Tryz.func270.trans (congrArg some (by kernel_rfl))
 f334:=Tryz.func273.trans (congrArg some (by kernel_rfl))
 f335:=Tryz.func274.trans (congrArg some (by kernel_rfl))
 f336:=Tryz.func275.trans (congrArg some (by kernel_rfl))
 f344:=Tryz.func297.trans (congrArg some (by kernel_rfl))
 t0:=Tryz.underlying0
 a0:=Tryz.isAgg0
 z0:=Tryz.sizeOf0
 v0:=Tryz.zeroValue0
 t3:=Tryz.underlying3
 a3:=Tryz.isAgg3
 z3:=Tryz.sizeOf3
 v3:=Tryz.zeroValue3
 t4:=Tryz.underlying4
 a4:=Tryz.isAgg4
 z4:=Tryz.sizeOf4
 v4:=Tryz.zeroValue4
 t5:=Tryz.underlying5
 a5:=Tryz.isAgg5
 z5:=Tryz.sizeOf5
 v5:=Tryz.zeroValue5
 t9:=Tryz.underlying9
 a9:=Tryz.isAgg9
 z9:=Tryz.sizeOf9
 v9:=Tryz.zeroValue9
 t31:=Tryz.underlying70
 a31:=Tryz.isAgg70
 z31:=Tryz.sizeOf70
 v31:=Tryz.zeroValue70
 t46:=Tryz.underlying273
 a46:=Tryz.isAgg273
 z46:=Tryz.sizeOf273
 v46:=Tryz.zeroValue273
 t51:=Tryz.underlying326
 a51:=Tryz.isAgg326
 z51:=Tryz.sizeOf326
 v51:=Tryz.zeroValue326
 t53:=Tryz.underlying221
 a53:=Tryz.isAgg221
 z53:=Tryz.sizeOf221
 v53:=Tryz.zeroValue221
 t131:=Tryz.underlying112
 a131:=Tryz.isAgg112
 z131:=Tryz.sizeOf112
 v131:=Tryz.zeroValue112
 t182:=Tryz.underlying318
 a182:=Tryz.isAgg318
 z182:=Tryz.sizeOf318
 v182:=Tryz.zeroValue318
 t183:=Tryz.underlying319
 a183:=Tryz.isAgg319
 z183:=Tryz.sizeOf319
 v183:=Tryz.zeroValue319
 t218:=Tryz.underlying356
 a218:=Tryz.isAgg356
 z218:=Tryz.sizeOf356
 v218:=Tryz.zeroValue356
 t222:=Tryz.underlying353
 a222:=Tryz.isAgg353
 z222:=Tryz.sizeOf353
 v222:=Tryz.zeroValue353
 t228:=Tryz.underlying371
 a228:=Tryz.isAgg371
 z228:=Tryz.sizeOf371
 v228:=Tryz.zeroValue371
 t229:=Tryz.underlying341
 a229:=Tryz.isAgg341
 z229:=Tryz.sizeOf341
 v229:=Tryz.zeroValue341}
open Go.Sort Go.RowKit in
theorem Tryz.slices_Sort_string(blk off cap:Nat)(ss:List (List UInt8))(w:World)(hH:Holds encStr w blk off ss.toArray)(hblk:blk<w.heap.size)(hsz:ss.length<4611686018427387904):
  Calls Tryz.prog 137 #[.slice (some ⟨blk,off,none⟩) ss.length cap] w fun e w'=>
   e= .returned (.tuple #[])/\ ∃n os,w'=grow (putRow encStr (Sort.ahead w n) blk off (ss.mergeSort fun x y=>decide (x<=y)).toArray) os:=Any.slices_Sort_string Tryz.lays190 blk off cap ss w hH hblk hsz
def Tryz.lays146_ren:Go.Shelf.Ren:=⟨fun|146=>302|221=>316|268=>323|138=>324|143=>282|195=>328|197=>329|218=>330|219=>298|260=>336|217=>312|225=>313|224=>314|267=>315|266=>321|314=>322|n=>n,fun|9=>9|31=>70|3=>3|4=>4|0=>0|105=>393|21=>21|5=>5|46=>273|119=>348|139=>351|138=>350|146=>386|51=>326|n=>n,fun|1=>6|3=>3|4=>4|n=>n⟩
theorem Tryz.lays146:Go.Proofs.Lays.n146 Tryz.prog Tryz.lays146_ren:={
 mixed:=by kernel_rfl
 f138:=Tryz.func324.trans (congrArg some (by kernel_rfl))
 f143:=Tryz.func282.trans (congrArg some (by kernel_rfl))
 f146:=Tryz.func302.trans (congrArg some (by kernel_rfl))
 f195:=Tryz.func328.trans (congrArg some (by kernel_rfl))
 f197:=Tryz.func329.trans (congrArg some (by kernel_rfl))
 f217:=Tryz.func312.trans (congrArg some (by kernel_rfl))
 f218:=Tryz.func330.trans (congrArg some (by kernel_rfl))
 f219:=Tryz.func298.trans (congrArg some (by kernel_rfl))
 f221:=Tryz.func316.trans (congrArg some (by kernel_rfl))
 f224:=Tryz.func314.trans (congrArg some (by kernel_rfl))
 f225:=Tryz.func313.trans (congrArg some (by kernel_rfl))
 f260:=Tryz.func336.trans (congrArg some (by kernel_rfl))
 f266:=Tryz.func321.trans (congrArg some (by kernel_rfl))
 f267:=Tryz.func315.trans (congrArg some (by kernel_rfl))
 f268:=Tryz.func323.trans (congrArg some (by kernel_rfl))
 f314:=Tryz.func322.trans (congrArg some (by kernel_rfl))
 t0:=Tryz.underlying0
 a0:=Tryz.isAgg0
 z0:=Tryz.sizeOf0
 v0:=Tryz.zeroValue0
 t3:=Tryz.underlying3
 a3:=Tryz.isAgg3
 z3:=Tryz.sizeOf3
 v3:=Tryz.zeroValue3
 t4:=Tryz.underlying4
 a4:=Tryz.isAgg4
 z4:=Tryz.sizeOf4
 v4:=Tryz.zeroValue4
 t5:=Tryz.underlying5
 a5:=Tryz.isAgg5
 z5:=Tryz.sizeOf5
 v5:=Tryz.zeroValue5
 t9:=Tryz.underlying9
 a9:=Tryz.isAgg9
 z9:=Tryz.sizeOf9
 v9:=Tryz.zeroValue9
 t21:=Tryz.underlying21
 a21:=Tryz.isAgg21
 z21:=Tryz.sizeOf21
 v21:=Tryz.zeroValue21
 t31:=Tryz.underlying70
 a31:=Tryz.isAgg70
 z31:=Tryz.sizeOf70
 v31:=Tryz.zeroValue70
 t46:=Tryz.underlying273
 a46:=Tryz.isAgg273
 z46:=Tryz.sizeOf273
 v46:=Tryz.zeroValue273
 t51:=Tryz.underlying326
 a51:=Tryz.isAgg326
 z51:=Tryz.sizeOf326
 v51:=Tryz.zeroValue326
 t105:=Tryz.underlying393
 a105:=Tryz.isAgg393
 z105:=Tryz.sizeOf393
 v105:=Tryz.zeroValue393
 t119:=Tryz.underlying348
 a119:=Tryz.isAgg348
 z119:=Tryz.sizeOf348
 t138:=Tryz.underlying350
 a138:=Tryz.isAgg350
 z138:=Tryz.sizeOf350
 v138:=Tryz.zeroValue350
 t139:=Tryz.underlying351
 a139:=Tryz.isAgg351
 z139:=Tryz.sizeOf351
 v139:=Tryz.zeroValue351
 t146:=Tryz.underlying386
 a146:=Tryz.isAgg386
 z146:=Tryz.sizeOf386
 v146:=Tryz.zeroValue386
 g1:=by kernel_rfl
 g3:=by kernel_rfl
 g4:=by kernel_rfl}
open Go.RowKit Go.Lib in
theorem Tryz.strings_Split(s sep:ByteArray)(m:Int)(w:World)(hs:s.size<4294967281)(hm:w.cell? ⟨6,0,none⟩=some (.int .i64 m))(h1:1<=sep.size):
  Calls Tryz.prog 302 #[.string s,.string sep] w fun e w'=>
   e= .returned (.slice (some ⟨w.heap.size,0,none⟩) (Lib.countB s sep+1) (Lib.countB s sep+1))/\w'=w.alloc (.cells ((Lib.splitB sep 0 (Lib.countB s sep) s).map Value.string).toArray 9):=Any.strings_Split Tryz.lays146 (by kernel_rfl) s sep m w hs hm h1
def Tryz.lays194_ren:Go.Shelf.Ren:=⟨fun|194=>220|n=>n,fun|31=>70|9=>9|3=>3|4=>4|0=>0|n=>n,fun|n=>n⟩
theorem Tryz.lays194:Go.Proofs.Lays.n194 Tryz.prog Tryz.lays194_ren:={
 mixed:=by kernel_rfl
 f194:=Tryz.func220.trans (congrArg some (by kernel_rfl))
 t0:=Tryz.underlying0
 a0:=Tryz.isAgg0
 z0:=Tryz.sizeOf0
 v0:=Tryz.zeroValue0
 t3:=Tryz.underlying3
 a3:=Tryz.isAgg3
 z3:=Tryz.sizeOf3
 v3:=Tryz.zeroValue3
 t4:=Tryz.underlying4
 a4:=Tryz.isAgg4
 z4:=Tryz.sizeOf4
 v4:=Tryz.zeroValue4
 t9:=Tryz.underlying9
 a9:=Tryz.isAgg9
 z9:=Tryz.sizeOf9
 v9:=Tryz.zeroValue9
 t31:=Tryz.underlying70
 a31:=Tryz.isAgg70
 z31:=Tryz.sizeOf70
 v31:=Tryz.zeroValue70}
open Go.RowKit Go.Lib Go.Sort in
theorem Tryz.slices_Compact_string(blk off cap:Nat)(zs:List (List UInt8))(w:World)(hH:Holds encStr w blk off zs.toArray)(hsz:zs.length<=9223372036854775807)(hcap:zs.length<=cap):
  Calls Tryz.prog 220 #[.slice (some ⟨blk,off,none⟩) zs.length cap] w fun e w'=>e= .returned (.slice (some ⟨blk,off,none⟩) (Lib.compact zs).length cap)/\ ∃q,w'=putRow encStr (Sort.ahead w q) blk off (Lib.compact zs++List.replicate (zs.length - (Lib.compact zs).length) []).toArray:=Any.slices_Compact_string Tryz.lays194 blk off cap zs w hH hsz hcap
open Go.RowKit Go.Lib Go.Sort in
theorem Tryz.slices_Compact_string_empty(a:Option Addr)(cap:Nat)(w:World):
  Calls Tryz.prog 220 #[.slice a 0 cap] w fun e w'=>e= .returned (.slice a 0 cap)/\w'=w:=Any.slices_Compact_string_empty Tryz.lays194 a cap w
def Tryz.laysNm224_ren:Go.Shelf.Ren:=⟨fun|24=>227|n=>n,fun|24=>70|9=>9|3=>3|4=>4|0=>0|n=>n,fun|n=>n⟩
theorem Tryz.laysNm224:Go.Proofs.Lays2.n24 Tryz.prog Tryz.laysNm224_ren:={
 mixed:=by kernel_rfl
 f24:=Tryz.func227.trans (congrArg some (by kernel_rfl))
 t0:=Tryz.underlying0
 a0:=Tryz.isAgg0
 z0:=Tryz.sizeOf0
 v0:=Tryz.zeroValue0
 t3:=Tryz.underlying3
 a3:=Tryz.isAgg3
 z3:=Tryz.sizeOf3
 v3:=Tryz.zeroValue3
 t4:=Tryz.underlying4
 a4:=Tryz.isAgg4
 z4:=Tryz.sizeOf4
 v4:=Tryz.zeroValue4
 t9:=Tryz.underlying9
 a9:=Tryz.isAgg9
 z9:=Tryz.sizeOf9
 v9:=Tryz.zeroValue9
 t24:=Tryz.underlying70
 a24:=Tryz.isAgg70
 z24:=Tryz.sizeOf70
 v24:=Tryz.zeroValue70
 i9:=by kernel_rfl}
open Go.RowKit Go.Lib Go.Sort in
theorem Tryz.slices_Delete_string(blk off cap i j:Nat)(zs:List (List UInt8))(w:World)(hH:Holds encStr w blk off zs.toArray)(hcap:zs.length<=cap)(hm:cap<=9223372036854775807)(hij:i<=j)(hj:j<=zs.length):
  Calls Tryz.prog 227 #[.slice (some ⟨blk,off,none⟩) zs.length cap,.int .i64 i,.int .i64 j] w fun e w'=>e= .returned (.slice (some ⟨blk,off,none⟩) (zs.length - (j - i)) cap)/\ ∃q,w'=putRow encStr (Sort.ahead w q) blk off (zs.take i++zs.drop j++List.replicate (j - i) []).toArray:=Any.slices_Delete_string Tryz.laysNm224 blk off cap i j zs w hH hcap hm hij hj
open Go.RowKit Go.Sort in
theorem Tryz.slices_Sort_string_none(p:Option Addr)(cap:Nat)(w:World):
  Calls Tryz.prog 137 #[.slice p 0 cap] w fun e w'=>e= .returned (.tuple #[])/\w'=w:=Any.slices_Sort_string_none Tryz.lays190 p cap w
def Tryz.lays196_ren:Go.Shelf.Ren:=⟨fun|196=>206|259=>263|n=>n,fun|9=>9|4=>4|3=>3|5=>5|12=>12|119=>348|0=>0|46=>273|139=>351|138=>350|53=>221|n=>n,fun|3=>3|4=>4|n=>n⟩
theorem Tryz.lays196:Go.Proofs.Lays.n196 Tryz.prog Tryz.lays196_ren:={
 mixed:=by kernel_rfl
 f196:=Tryz.func206.trans (congrArg some (by kernel_rfl))
 f259:=Tryz.func263.trans (congrArg some (by kernel_rfl))
 t0:=Tryz.underlying0
 a0:=Tryz.isAgg0
 z0:=Tryz.sizeOf0
 v0:=Tryz.zeroValue0
 t3:=Tryz.underlying3
 a3:=Tryz.isAgg3
 z3:=Tryz.sizeOf3
 v3:=Tryz.zeroValue3
 t4:=Tryz.underlying4
 a4:=Tryz.isAgg4
 z4:=Tryz.sizeOf4
 v4:=Tryz.zeroValue4
 t5:=Tryz.underlying5
 a5:=Tryz.isAgg5
 z5:=Tryz.sizeOf5
 v5:=Tryz.zeroValue5
 t9:=Tryz.underlying9
 a9:=Tryz.isAgg9
 z9:=Tryz.sizeOf9
 v9:=Tryz.zeroValue9
 t12:=Tryz.underlying12
 a12:=Tryz.isAgg12
 z12:=Tryz.sizeOf12
 v12:=Tryz.zeroValue12
 t46:=Tryz.underlying273
 a46:=Tryz.isAgg273
 z46:=Tryz.sizeOf273
 v46:=Tryz.zeroValue273
 t53:=Tryz.underlying221
 a53:=Tryz.isAgg221
 z53:=Tryz.sizeOf221
 v53:=Tryz.zeroValue221
 t119:=Tryz.underlying348
 a119:=Tryz.isAgg348
 z119:=Tryz.sizeOf348
 t138:=Tryz.underlying350
 a138:=Tryz.isAgg350
 z138:=Tryz.sizeOf350
 v138:=Tryz.zeroValue350
 t139:=Tryz.underlying351
 a139:=Tryz.isAgg351
 z139:=Tryz.sizeOf351
 v139:=Tryz.zeroValue351
 g3:=by kernel_rfl
 g4:=by kernel_rfl}
def Tryz.sorted221_ren:Go.Shelf.Ren:=⟨fun|6=>221|8=>268|9=>137|11=>296|13=>180|12=>179|23=>237|24=>238|14=>228|15=>229|16=>230|17=>231|18=>232|19=>233|20=>234|21=>235|22=>236|25=>270|26=>271|27=>272|28=>273|29=>274|30=>275|31=>297|n=>n,fun|26=>9|28=>311|24=>70|0=>0|3=>3|37=>273|48=>326|50=>221|4=>4|40=>319|39=>318|45=>112|5=>5|9=>9|51=>356|55=>353|57=>371|58=>341|33=>264|n=>n,fun|n=>n⟩
theorem Tryz.sorted221:Go.Proofs.SlLaysZ.n6 Tryz.prog Tryz.sorted221_ren:={
 mixed:=by kernel_rfl
 f6:=⟨Tryz.f221.name,by decide,Tryz.func221.trans (congrArg some (by kernel_rfl))⟩
 f8:=⟨Tryz.f268.name,by decide,Tryz.func268.trans (congrArg some (by kernel_rfl))⟩
 f11:=⟨Tryz.f296.name,by decide,Tryz.func296.trans (congrArg some (by kernel_rfl))⟩
 t0:=Tryz.underlying0
 a0:=Tryz.isAgg0
 z0:=Tryz.sizeOf0
 v0:=Tryz.zeroValue0
 t24:=Tryz.underlying70
 a24:=Tryz.isAgg70
 z24:=Tryz.sizeOf70
 v24:=Tryz.zeroValue70
 t26:=Tryz.underlying9
 a26:=Tryz.isAgg9
 z26:=Tryz.sizeOf9
 v26:=Tryz.zeroValue9
 t28:=Tryz.underlying311
 a28:=Tryz.isAgg311
 z28:=Tryz.sizeOf311
 v28:=Tryz.zeroValue311
 i26:=by kernel_rfl}
end Go.Proofs
end
noncomputable section
set_option maxRecDepth 100000
namespace Go.Fl
open Go Go.Proofs Go.RowKit Go.Maps Go.Sort Go.Shelf
variable {P:Program}{ρ:Ren}
def y2j(F:Fence)(n:Nat)(P:Program)(g:Nat)(lb:Array Value)(ss:List (List UInt8))(w:World):Prop:=
 ∀(l:Nat) (J:List (List UInt8)->World->Prop) (W:World),Below w.heap.size w W->AbidesFrom W.heap.size J->(∀pre W1,J pre W1->Below w.heap.size w W1)->
  (∀pre x W1,J pre W1->pre.length<ss.length->YieldAt F (n - 1) P l #[encStr x] W1 fun e W'=>e= .returned (.bool true)/\J (pre++[x]) W'/\KeepsWalks W1 W')->
  J [] W->CallsIn F n P g (#[.func (.yield l) #[] #[]]++lb) W fun e W'=>(∃v,e= .returned v)/\J ss W'
theorem w53{W:World}{base j:Nat}{e:TypeId}{v:Value}{k:Nat}{xs:List Value}{o:Obj}(h:W.ownsRow base e 1 v k xs)(hj:W.heap[j]? =some o)(hno: ∀cur,o≠ .cells cur e (0,0))(o':Obj):(W.putObj j o').ownsRow base e 1 v k xs:=
 h.kept (grownBy_putObj_a W j o') (ownsRow_ne_a h hj hno)
set_option maxHeartbeats 2000000 in
theorem w1j(L:SlLaysZ.n11 P ρ)(F:Fence)(n:Nat)(hf:F.fn (ρ.f 11))(hro:F.round=none)(hn:2<=n)(g:Nat)(lb:Array Value)(hg:F.fn g)(eg: ∀args w,(callFunc g args).run P w= .ok (.enter g args) w)
  (ss:List (List UInt8))(hN:ss.length<=maxLen)(hNb:ss.length*16<=140737488355328)(w:World)(hseq:y2j F (n - 1) P g lb ss w):
  CallsIn F n P (ρ.f 11) #[.slice none 0 0,.func (.func g) #[] lb] w fun e w'=> ∃v,e= .returned v/\w'.ownsRow w.heap.size (ρ.t 26) 1 v ss.length (ss.map encStr)/\Below w.heap.size w w':=by
 have mixed:=L.mixed;have t0:=L.t0;have a0:=L.a0;have z0:=L.z0;have v0:=L.v0;have t24:=L.t24;have a24:=L.a24;have z24:=L.z24;have v24:=L.v24;have t26:=L.t26;have a26:=L.a26;have z26:=L.z26;have v26:=L.v26
 have u0:=run_underlying L.t0;have u24:=run_underlying L.t24;have u26:=run_underlying L.t26
 have apart:ρ.t 24≠ρ.t 26:=fun e=>by have h:=L.t24;rw[e,L.t26] at h;cases h
 obtain⟨_,_,body⟩:=L.f11
 refine callsIn_of_wp_marks body rfl hf ?_ hro
 simp only[SlBodyZ.n11_ntmps ρ,List.size_toArray,List.length_cons,List.length_nil,Nat.reduceAdd,Nat.reduceSub,Array.replicate_succ,Array.replicate_zero,List.push_toArray,List.append_toArray,List.nil_append,List.cons_append]
 gi_wp2
 refine wpIn_rangeFunc fun fn hfn=> ?_
 rw[hro]
 generalize hA:w.alloc (.cells #[.slice none 0 0] (ρ.t 24))=A
 have sA:A.heap.size=w.heap.size+1:=by rw[←hA];simp
 have bA:Below w.heap.size w A:=by rw[←hA];exact (Below.refl _ w).alloc (Nat.le_refl _) _
 have xA:A.heap[w.heap.size]? =some (.cells #[.slice none 0 0] (ρ.t 24) (0,0)):=by rw[←hA];exact World.alloc_heap_new w _
 generalize hrec:AnyZ.apRec ρ fn (.func (.func g) #[] lb) w.heap.size A.heap.size .ready none=rec
 generalize hB:(A.alloc (.deferred (some []))).alloc (.loop rec)=B
 have oldB: ∀k,k<A.heap.size->B.heap[k]? =A.heap[k]? :=fun k hk=>by rw[←hB];exact (Below.heap_alloc _ _ k (by simp;omega)).trans (Below.heap_alloc _ _ k hk)
 have bB:Below w.heap.size w B:=by rw[←hB];exact (bA.alloc bA.size _).alloc (by have:=bA.size;simp;omega) _
 have dB:B.heap[A.heap.size]? =some (.deferred (some [])):=by rw[←hB];exact (Below.heap_alloc _ _ _ (by simp)).trans (World.alloc_heap_new A _)
 have lB:B.heap[A.heap.size+1]? =some (.loop rec):=by rw[←hB];have:=World.alloc_heap_new (A.alloc (.deferred (some []))) (.loop rec);rwa [World.size_alloc] at this
 have start:AnyZ.ApAt ρ w fn (.func (.func g) #[] lb) w.heap.size (A.heap.size+1) A.heap.size [] B:=
  ⟨⟨_,(oldB _ (by omega)).trans xA,⟨rfl,.inl ⟨rfl,rfl⟩⟩,by simp⟩,by rw[hrec];exact lB,dB,bB⟩
 refine⟨A.heap.size+1,[{target:= .collected A.heap.size,args:= #[]}],B,{target:= .fn (.func g) lb,args:= #[.func (.yield (A.heap.size+1)) #[] #[]]},B,g,#[.func (.yield (A.heap.size+1)) #[] #[]]++lb,B,?_,?_,?_,?_,fun _=>(by omega),?_⟩
 ·rw[←hB,←hrec];exact run_enterLoop_outer _ _ _ _ _
 ·simp[resolve,go_sem]
 ·intro f' h';simp[Target.leads] at h';exact h'▸hg
 ·simp[invoke,go_sem,eg]
 refine (hseq _ (AnyZ.ApAt ρ w fn (.func (.func g) #[] lb) w.heap.size (A.heap.size+1) A.heap.size) B bB (AnyZ.ap_abides ρ _ _ _ _ _ _ _ bB.size) (fun _ _ h=>h.below)
  (fun pre x W h hl=>AnyZ.apYield {L with} F _ w fn hfn _ _ _ _ (by omega) (by omega) (by omega) (Nat.le_refl _) (by omega) ss.length hN hNb pre x W h hl) start).mono ?_
 rintro e C ⟨⟨_,rfl⟩,hC⟩
 obtain⟨v,hv,hrow,_⟩:=hC.box
 have hend:=run_endLoop (P:=P) hC.L (by simp[AnyZ.apRec])
 generalize hD:C.putObj (A.heap.size+1) (.loop {AnyZ.apRec ρ fn (.func (.func g) #[] lb) w.heap.size A.heap.size .ready none with state:= .exhausted})=D at hend
 have rowD:D.ownsRow w.heap.size (ρ.t 26) 1 v ss.length (ss.map encStr):=by rw[←hD];exact w53 hrow hC.L (fun _ h=>by cases h) _
 have boxD:D.heap[w.heap.size]? =some (.cells #[v] (ρ.t 24) (0,0)):=by rw[←hD];exact (World.putObj_heap_other (by omega)).trans hv
 have defD:D.heap[A.heap.size]? =some (.deferred (some [])):=by rw[←hD];exact (World.putObj_heap_other (by omega)).trans hC.K
 have belD:Below w.heap.size w D:=by rw[←hD];exact hC.below.grown (grownBy_putObj_a _ _ _) hC.below.size (fun k h=>by cases h;omega)
 obtain⟨cellD,markD⟩:=cell_of_box_a boxD
 clear hD
 refine⟨none,D,hend,?_⟩
 gi_wp2
 rw[←sA]
 refine⟨by simp,.inl ⟨_,_,rfl,run_takeDeferred defD,?_⟩⟩
 exact⟨_,results_tmp rfl _ _ _,v,rfl,w53 rowD defD (fun _ h=>by cases h) _,belD.grown (grownBy_putObj_a _ _ _) belD.size (fun k h=>by cases h;omega)⟩
end Go.Fl
end
noncomputable section
set_option maxRecDepth 100000
namespace Go.Proofs.YtkbjibhkaddepaaGreatDoor
open Go Go.Proofs Go.RowKit Go.Fl Go.Maps Go.Sort Go.Shelf
attribute [local go_sem] Oper.semAt_some
set_option maxHeartbeats 2000000 in
theorem v3t(n:Nat)(hn:1<=n)(w W:World)(l Bs b off cap:Nat)(zs:List (List UInt8))(hreach:zs.length<=140737488355328)(hBs:Bs<w.heap.size)(hb:b<w.heap.size)(J:List (List UInt8)->World->Prop)
  (hJ: ∀pre W1,J pre W1->Below w.heap.size w W1)(hc:w.cell? ⟨Bs,0,none⟩=some (.slice (some ⟨b,off,none⟩) zs.length cap))(hcs: ∀j,j<zs.length->w.cell? ⟨b,off+j,none⟩=some (encStr (zs[j]?.getD [])))
  (hY: ∀pre x W1,J pre W1->pre.length<zs.length->YieldAt Fence.wide (n - 1) Tryz.prog l #[encStr x] W1 fun e W'=>e= .returned (.bool true)/\J (pre++[x]) W'/\KeepsWalks W1 W')(h0:J [] W):
  CallsIn Fence.wide n Tryz.prog 269 #[.func (.yield l) #[] #[],.pointer (some ⟨Bs,0,none⟩)] W fun e W'=>(∃v,e= .returned v)/\J zs W':=by
 have hc0:=((hJ _ _ h0).cell (p:=⟨Bs,0,none⟩) hBs).trans hc
 refine callsIn_of_wp Tryz.func269 rfl trivial ?_ rfl
 simp only[Tryz.ntmps269,List.size_toArray,List.length_cons,List.length_nil,Nat.reduceAdd,Nat.reduceSub,Array.replicate_succ,Array.replicate_zero,List.push_toArray,List.append_toArray,List.nil_append,List.cons_append]
 gi_wp2
 gi_loopw [7] (fun i wr=> ∃k:Nat,k<=zs.length/\i= .int .i64 k/\J (zs.take k) wr) (fun i _=>zs.length - (intOf i).toNat)
 case atStart=>exact⟨0,Nat.zero_le _,rfl,h0⟩
 case round=>
  obtain⟨k,hk,rfl,hJk⟩:=hrel
  by_cases hlt:k<zs.length
  ·have hck:=((hJ _ _ hJk).cell (p:=⟨b,off+k,none⟩) hb).trans (hcs k hlt)
   obtain⟨fn,tmps,assign,body,hy,hR⟩:=hY _ zs[k] wr hJk (by rw[List.length_take];omega)
   gi_wp2
   refine hR.mono ?_
   rintro e W3 ⟨rfl,hJ3,_⟩
   gi_wp2
   go_roundw
   case rel=>exact⟨k+1,by omega,by simp,by rw[List.take_succ_eq_append_getElem hlt];exact hJ3⟩
   case measure=>simp[intOf];omega
  ·obtain rfl:k=zs.length:=by omega
   rw[List.take_length] at hJk
   gi_wp2
   go_end0
   exact⟨⟨_,rfl⟩,hJk⟩
set_option maxHeartbeats 2000000 in
theorem v3u(n:Nat)(w W:World)(l Bs cap:Nat)(a:Option Addr)(hBs:Bs<w.heap.size)(J:List (List UInt8)->World->Prop)(hJ: ∀pre W1,J pre W1->Below w.heap.size w W1)(hc:w.cell? ⟨Bs,0,none⟩=some (.slice a 0 cap))(h0:J [] W):
  CallsIn Fence.wide n Tryz.prog 269 #[.func (.yield l) #[] #[],.pointer (some ⟨Bs,0,none⟩)] W fun e W'=>(∃v,e= .returned v)/\J [] W':=by
 have hc0:=((hJ _ _ h0).cell (p:=⟨Bs,0,none⟩) hBs).trans hc
 refine callsIn_of_wp Tryz.func269 rfl trivial ?_ rfl
 simp only[Tryz.ntmps269,List.size_toArray,List.length_cons,List.length_nil,Nat.reduceAdd,Nat.reduceSub,Array.replicate_succ,Array.replicate_zero,List.push_toArray,List.append_toArray,List.nil_append,List.cons_append]
 gi_wp2
 gi_loopw [7] (fun i wr=>i= .int .i64 0/\J [] wr) (fun _ _=>0)
 case atStart=>exact⟨rfl,h0⟩
 case round=>
  obtain⟨rfl,hJs⟩:=hrel
  gi_wp2
  go_end0
  exact⟨⟨_,rfl⟩,hJs⟩
theorem u5i{σ:Hv}{w:World}(Bs:Nat)(v:Value)(l:List ByteArray)(hV:View σ w)(hB:σ Bs=some (.cells #[v] 70 (0,0)))(hr:RSl 1 (REnc Qj) σ v l)(hs:Sml l.length):
  Calls Tryz.prog 296 #[.slice none 0 0,.func (.func 269) #[] #[.pointer (some ⟨Bs,0,none⟩)]] w fun e w1=> ∃v1,e= .returned v1/\Grow [] σ w σ w1/\((vec v1 9 1 l.length (l.flatMap Qj)).ok w1/\ ∀k,(vec v1 9 1 l.length (l.flatMap Qj)).foot=some k->w.heap.size<=k/\σ k=none):=by
 have hBw:=hV _ _ hB
 have hBl:=lt_of_block hBw
 have hBc:w.cell? ⟨Bs,0,none⟩=some v:=by simp[World.cell?,hBw]
 have hlen:(l.map (·.data.toList)).length=l.length:=List.length_map _
 have hgive:y2j Fence.wide 2 Tryz.prog 269 #[.pointer (some ⟨Bs,0,none⟩)] (l.map (·.data.toList)) w:=by
  intro lp J W _ _ hJB hY h0
  obtain⟨a,cap,rfl,h1,h2,hel⟩:=hr
  cases hl0:l with
  |nil=>
   subst hl0
   exact v3u 2 w W lp Bs cap a hBl J hJB hBc h0
  |cons x l'=>
   obtain⟨ad,cs,rfl,_,hrow0,hcs0⟩:=hel 0 x (by rw[hl0];rfl)
   have cell0:=(hrow0.row hV) 0 _ (by rw[hcs0];rfl)
   obtain⟨ab,ao,asp⟩:=ad
   have hsp:asp=none:=by
    cases asp with
    |none=>rfl
    |some s=>
     have:=hrow0 0 (.string x) (by rw[hcs0];rfl)
     simp[Hv.cell,Addr.add] at this
     split at this<;>simp at this
   subst hsp
   have hbl:ab<w.heap.size:=by
    have:=hrow0 0 (.string x) (by rw[hcs0];rfl)
    simp only[Uo] at this
    unfold Hv.cell at this
    simp only at this
    cases hq:σ ab with
    |none=>rw[hq] at this;simp at this
    |some o=>exact lt_of_block (hV _ _ hq)
   rw[←hl0]
   have hcome:=v3t 2 (by omega) w W lp Bs ab ao cap (l.map (·.data.toList)) (by rw[hlen];exact h2) hBl hbl J hJB (by rw[hlen];exact hBc) (fun j hj=>by
    rw[hlen] at hj
    obtain⟨y,hy⟩:=getq hj
    obtain⟨ad',cs',had,_,hrow,hcs⟩:=hel j y hy
    cases had
    have hc:=(hrow.row hV) 0 (.string y) (by rw[hcs];rfl)
    rw[q0o,Uo] at hc
    rw[List.getElem?_map,hy]
    simpa [encStr] using hc) hY h0
   exact hcome
 refine (callsIn_wide (n:=3)).1 ((w1j (ρ:=Tryz.sorted221_ren) {Tryz.sorted221 with} Fence.wide 3 trivial rfl (by omega) 269 _ trivial (enters_of Tryz.func269 (by kernel_rfl) rfl) (l.map (·.data.toList)) (by rw[hlen];exact (q5x hs (show 16<=32768 by omega)).2) (by rw[hlen];exact (q5x hs (by omega)).1) w hgive).mono ?_)
 rintro e w1 ⟨v1,rfl,hown,hbel⟩
 rw[hlen] at hown
 have hfl:(l.map (·.data.toList)).map encStr=l.flatMap Qj:=(R5 l).symm
 rw[hfl] at hown
 have hsame: ∀b,b<w.heap.size->w1.heap[b]? =w.heap[b]? :=fun b hb=>hbel.block b hb
 refine⟨v1,rfl,⟨⟨hbel.os,hbel.tape,hbel.output,hbel.size,fun k hk _=>hbel.block k hk⟩,fun b o hb=>(hbel.block b (lt_of_block (hV b o hb))).trans (hV b o hb),.refl _,fun _ _ _=>rfl⟩,?_,?_⟩
 ·exact⟨hown.1,hown.2.imp id fun ⟨g,cap,cur,e1,_,e3⟩=>⟨g,cap,cur,e1,Nat.zero_le _,e3⟩⟩
 ·intro k hk
  have hge:w.heap.size<=k:=(hown.lt k hk).1
  refine⟨hge,?_⟩
  cases hq:σ k with
  |none=>rfl
  |some o=>have:=lt_of_block (hV k o hq);omega
end Go.Proofs.YtkbjibhkaddepaaGreatDoor
end
