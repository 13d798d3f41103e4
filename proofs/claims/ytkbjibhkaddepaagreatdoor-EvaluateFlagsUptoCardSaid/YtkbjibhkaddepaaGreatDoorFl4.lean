/- For every input within the given bound on its size EvaluateFlags returns true and leaves its arguments as they were. This is part 4 of 11. Conditions: those in the statements. -/
import Derived.Test.YtkbjibhkaddepaaGreatDoorProg
import Derived.Test.YtkbjibhkaddepaaGreatDoorFl3
import Derived.Lib.ValidU
import Derived.Lib.ItoaNum
import Derived.KernelRfl
import Derived.Conc.MuLone
import Derived.Shelf.Small.Bits
import Derived.Shelf.Utf8.RuneCount
import Derived.Shelf.Strconv.Atoi
import Derived.Shelf.Strconv.Itoa0
import Derived.Shelf.Strconv.Itoa1
import Derived.Shelf.LaysM
import Derived.Shelf.Strconv.Itoa2
import Derived.Shelf.Strconv.Itoa3
import Derived.Shelf.Strconv.AtoiErrFast
import Derived.Shelf.Strconv.ParseIntEmpty
import Derived.Shelf.Strconv.AtoiFail
import Derived.Shelf.Strconv.Clone
import Derived.Shelf.Strconv.SyntaxError
import Derived.Shelf.LaysC
import Derived.Shelf.Strconv.ToError
import Derived.Shelf.Strconv.Lower
import Derived.Shelf.Strconv.ParseUint10
import Derived.Shelf.Strconv.ParseUint10Empty
import Derived.Shelf.Strconv.ParseUint10Any
import Derived.Shelf.Strconv.ParseInt10
import Derived.Shelf.Strconv.AtoiLong
import Derived.Shelf.Strconv.AtoiInnerAll
import Derived.Shelf.Strconv.RangeError
import Derived.Shelf.Strconv.ToErrorRange
import Derived.Shelf.Strconv.AtoiAll
import Derived.Shelf.Strconv.ErrVarAll
import Derived.Shelf.Strings.Search1
import Derived.Shelf.Strings.Search2
import Derived.Shelf.Strings.Search3
import Derived.Shelf.Strings.Count
import Derived.Shelf.Strings.Shaped
import Derived.Shelf.Sort.Plain
import Derived.Shelf.Strings.Split
import Derived.Shelf.Strings.SplitShaped
import Derived.Shelf.Unicode.Decode
import Derived.Shelf.Strings.RuneCount
import Derived.Shelf.Strings.Explode
import Derived.Shelf.Unicode.DecodeSlow
import Derived.Shelf.Unicode.DecodeAny
import Derived.Ground.Names2Prog
import Derived.Shelf.Slices.Clone
import Derived.Shelf.Slices.CompactS
import Derived.Shelf.Slices.SearchI
import Derived.Shelf.Slices.Delete
import Derived.Shelf.Slices.Cells
import Derived.Shelf.Slices.In.SortNone
import Derived.Shelf.Slices.Empties
import Derived.Ground.SlgnProg
import Derived.Shelf.SlicesE.Clone
import Derived.Ground.NamesProg
import Derived.Shelf.Unicode.ValidAny
import Derived.Shelf.SlIter.Sorted
import Derived.Ground.GgzProg
import Derived.Shelf.SlIter.Collect
import Derived.WalkKit
import Derived.OwnWalkIn
import Derived.TacticsInMore
import Derived.LoopNIn
import Derived.LoopIn
import Derived.RangeFuncLeaves
set_option maxRecDepth 100000
noncomputable section
open Go Go.RowKit Go.Fl Go.Fl.Lk Go.Fx
namespace Go.En
abbrev Two(p:Prop):Prop:=p/\p
abbrev Vp:=(List Decl->Prop)->Prop
def Gw:Vp:=fun K=>K [Decl.mk (B8 [100,101,118,105,99,101]) (B8 [99,111,114,101,115]) (2:Int),Decl.mk (B8 [100,101,118,105,99,101]) (B8 [111,115]) (3:Int),Decl.mk (B8 [117,115,101,114]) (B8 [97,103,101]) (2:Int),Decl.mk (B8 [117,115,101,114]) (B8 [97,112,112]) (4:Int),Decl.mk (B8 [117,115,101,114]) (B8 [98,101,116,97]) (1:Int),Decl.mk (B8 [117,115,101,114]) (B8 [99,111,117,110,116,114,121]) (3:Int),Decl.mk (B8 [117,115,101,114]) (B8 [112,108,97,110]) (3:Int),Decl.mk (B8 [117,115,101,114]) (B8 [116,97,103,115]) (5:Int)]
abbrev w2g:=List Int->Int->(Bool->Int->Prop)->Prop
def w9s:w2g:=fun list at_ K=>Fits list->K (decide (at_<(↑list.length:Int))) at_
abbrev Zn:=List Int->Int->Int->(Int->Int->Prop)->Prop
def w9t(w2w:w2g):Zn:=fun list at_ n K=>w2w list at_ fun Qa Qv=>Cnd (Qa=true) (InI (Qv+1)/\InI (Qv+1 - (1:Int))/\(0<=Qv+1 - (1:Int)/\Qv+1 - (1:Int)<(↑list.length:Int))/\∀y1,list[(Qv+1 - (1:Int)).toNat]? =some y1->InI y1/\n≠0/\K (y1.tmod n) (Qv+1)) (K 0 Qv)
def Wl:Zn:=w9t w9s
abbrev q21:=List Int->Int->(BA->Int->Prop)->Prop
def w9u(Qb:Zn):q21:=fun list at_ K=>Qb list at_ 11 fun Qa Qv=>(0<=Qa/\Qa<(↑(11:Nat):Int))/\∀y1,j5i[Qa.toNat]? =some y1->K y1 Qv
def z5n:q21:=w9u Wl
abbrev q8j:=List Int->Int->Int->(Int->Int->Prop)->Prop
def w9v(Qb:Zn):q8j:=fun list at_ n K=>Qb list at_ 256 fun Qa Qv=>InI (256*Qa)/\Qb list Qv 256 fun Qc Z9=>InI (256*Qa+Qc)/\n≠0/\K ((256*Qa+Qc).tmod n) Z9
def j01:q8j:=w9v Wl
abbrev j02:=Int->List BA->(List BA->Prop)->Prop
def w2h:j02:=fun n l K=>(0<=n/\n<=(↑l.length:Int))/\K (List.take n.toNat l)
abbrev z5o:=List Int->Int->(List BA->Int->Prop)->Prop
def w9w(Qb:Zn):z5o:=fun list at_ K=>Qb list at_ 10 fun Qa Qv=>Lp3 (fun Qc Z9 z8f y72=>Qb list z8f 4 fun Qf Zs=>Cnd (Z9<Qf) (InI (Qa+Z9)/\(10:Int)≠0/\InI (48+(Qa+Z9).tmod 10)/\(↑((B8 [107]).size+(Go.Utf8.encode (IntKind.i32.wrap (48+(Qa+Z9).tmod 10))).size):Int)<=(9223372036854775807:Int)/\Sml (Qc++[B8 [107]++Go.Utf8.encode (IntKind.i32.wrap (48+(Qa+Z9).tmod 10))]).length/\InI (Z9+1)/\y72 (Qc++[B8 [107]++Go.Utf8.encode (IntKind.i32.wrap (48+(Qa+Z9).tmod 10))]) (Z9+1) Zs) (Lp2 (fun Qg V1 w1u=>Fits V1->CAt V1 Qg (fun y5=>InI (Qg - 1)/\(0<=Qg - 1/\Qg - 1<(↑V1.length:Int))/\∀y7,V1[(Qg - 1).toNat]? =some y7->Cnd (Lk.blt y7 y5) (InI (Qg+1)/\w1u (Qg+1) V1) ((0<=Qg/\Qg<=(↑V1.length:Int))/\K (List.take Qg.toNat V1) Zs)) (K V1 Zs)) (1:Int) Qc)) [] (0:Int) Qv
def j5j:z5o:=w9w Wl
abbrev j3g:=List Int->Int->(BA->Int->Prop)->Prop
def v6p(Qb:Zn):j3g:=fun list at_ K=>Qb list at_ 10 fun Qa Qv=>InI (48+Qa)/\(↑((B8 [107]).size+(Go.Utf8.encode (IntKind.i32.wrap (48+Qa))).size):Int)<=(9223372036854775807:Int)/\K (B8 [107]++Go.Utf8.encode (IntKind.i32.wrap (48+Qa))) Qv
def w33:j3g:=v6p Wl
abbrev q22:=List Int->Int->Int->(Val->Int->Prop)->Prop
def j5k(Qb:Zn)(Wz:q21):q22:=fun list at_ kind K=>Cnd (kind=1) (Qb list at_ 2 fun Qa Qv=>K (Val.mk kind Qa (B8 []) []) Qv) (Cnd (kind=2) ([(0:Int),(1:Int),(17:Int),(18:Int),(19:Int),(-5:Int),(64:Int),(1099511627776:Int),(-1099511627776:Int)].length<=(9223372036854775807:Nat)->Qb list at_ (↑[(0:Int),(1:Int),(17:Int),(18:Int),(19:Int),(-5:Int),(64:Int),(1099511627776:Int),(-1099511627776:Int)].length:Int) fun Qc Z9=>(0<=Qc/\Qc<(↑[(0:Int),(1:Int),(17:Int),(18:Int),(19:Int),(-5:Int),(64:Int),(1099511627776:Int),(-1099511627776:Int)].length:Int))/\∀y2,[(0:Int),(1:Int),(17:Int),(18:Int),(19:Int),(-5:Int),(64:Int),(1099511627776:Int),(-1099511627776:Int)][Qc.toNat]? =some y2->K (Val.mk kind y2 (B8 []) []) Z9) (Cnd (kind=3) (Wz list at_ fun Qa Qv=>K (Val.mk kind (0:Int) Qa []) Qv) (Cnd (kind=4) (Qb list at_ 6 fun Qa Qv=>(0<=Qa/\Qa<(↑(6:Nat):Int))/\∀y1,z8n[Qa.toNat]? =some y1->K (Val.mk kind (0:Int) y1 []) Qv) (Qb list at_ 5 fun Qa Qv=>(0<=Qa/\Qa<(↑(5:Nat):Int))/\∀y1,w31[Qa.toNat]? =some y1->Sml ([]++y1).length/\K (Val.mk (5:Int) (0:Int) (B8 []) ([]++y1)) Qv))))
def q0v:q22:=j5k Wl z5n
abbrev j5l:=List Int->Int->(Ex->Int->Prop)->Prop
def w9x(Q6:Vp)(Qb:Zn)(z7j:j3g)(Jr:q22):j5l:=fun list at_ K=>Q6 fun Qa=>Fits Qa->InI ((↑Qa.length:Int)+1)/\Qb list at_ ((↑Qa.length:Int)+1) fun Qf Zs=>Fits Qa->Cnd (Qf=(↑Qa.length:Int)) (z7j list Zs fun Qe J2=>K (Ex.mk (7:Int) (B8 [117,115,101,114]) (B8 [107,101,121]) [Val.mk (3:Int) (0:Int) Qe []] []) J2) (At Qa Qf fun y4=>Jn1 (fun (Zx:Int×BA×BA×List Val×List Ex×Int×Int×BA×BA×List Val×List Ex×Unit)=>Jr list Zx.2.2.2.2.2.1 y4.3 fun Qn z8g=>K (Ex.mk (7:Int) Zx.2.1 Zx.2.2.1 [Qn] Zx.2.2.2.2.1) z8g) fun (w2x:Int×BA×BA×List Val×List Ex×Int×Int×BA×BA×List Val×List Ex×Unit->Prop)=>Qb list Zs 5 fun Qn z8g=>Jn1 (fun (Ws:Int×Int×BA×BA×List Val×List Ex×Int×BA×BA×List Val×List Ex×Unit)=>Cnd (y4.3=2) (Qb list Ws.1 (4:Int) fun Qp j1z=>InI (12+Qp)/\Jr list j1z y4.3 fun Zd q08=>K (Ex.mk (12+Qp) Ws.2.2.1 Ws.2.2.2.1 [Zd] Ws.2.2.2.2.2.1) q08) (Cnd (y4.3=3) (Qb list Ws.1 (4:Int) fun Qp j1z=>InI (12+Qp)/\Jr list j1z y4.3 fun Zd q08=>K (Ex.mk (12+Qp) Ws.2.2.1 Ws.2.2.2.1 [Zd] Ws.2.2.2.2.2.1) q08) (Cnd (y4.3=4) (Qb list Ws.1 (4:Int) fun Qp j1z=>InI (12+Qp)/\Jr list j1z y4.3 fun Zd q08=>K (Ex.mk (12+Qp) Ws.2.2.1 Ws.2.2.2.1 [Zd] Ws.2.2.2.2.2.1) q08) (w2x (Ws.2.1,Ws.2.2.1,Ws.2.2.2.1,Ws.2.2.2.2.1,Ws.2.2.2.2.2.1,Ws.1,Ws.2.2.2.2.2.2.1,Ws.2.2.2.2.2.2.2.1,Ws.2.2.2.2.2.2.2.2.1,Ws.2.2.2.2.2.2.2.2.2.1,Ws.2.2.2.2.2.2.2.2.2.2.1,()))))) fun (u0v:Int×Int×BA×BA×List Val×List Ex×Int×BA×BA×List Val×List Ex×Unit->Prop)=>Cnd (Qn=0) (K (Ex.mk (6:Int) y4.1 y4.2 [] []) z8g) (Cnd (Qn=1) (Cnd (y4.3=5) (w2x ((0:Int),y4.1,y4.2,[],[],z8g,(0:Int),B8 [],B8 [],[],[],())) (Lp3 (fun Qp j1z u40 u81=>Qb list u40 3 fun Zd q08=>Cnd (Qp<=Zd) (Jr list q08 y4.3 fun Wp j0m=>Sml (j1z++[Wp]).length/\InI (Qp+1)/\u81 (Qp+1) (j1z++[Wp]) j0m) (K (Ex.mk (8:Int) y4.1 y4.2 j1z []) q08)) (0:Int) [] z8g)) (Cnd (Qn=2) (Cnd (y4.3=3) (Jr list z8g 3 fun Qp j1z=>K (Ex.mk (11:Int) y4.1 y4.2 [Qp] []) j1z) (Cnd (y4.3=5) (Jr list z8g 3 fun Qp j1z=>K (Ex.mk (11:Int) y4.1 y4.2 [Qp] []) j1z) (w2x ((0:Int),y4.1,y4.2,[],[],z8g,(0:Int),B8 [],B8 [],[],[],())))) (Cnd (Qn=3) (Cnd (y4.3=3) (Qb list z8g 2 fun Qp j1z=>InI (9+Qp)/\Jr list j1z 3 fun Zd q08=>K (Ex.mk (9+Qp) y4.1 y4.2 [Zd] []) q08) (u0v (z8g,(0:Int),y4.1,y4.2,[],[],(0:Int),B8 [],B8 [],[],[],()))) (Cnd (Qn=4) (u0v (z8g,(0:Int),y4.1,y4.2,[],[],(0:Int),B8 [],B8 [],[],[],())) (w2x ((0:Int),y4.1,y4.2,[],[],z8g,(0:Int),B8 [],B8 [],[],[],())))))))
def j03:j5l:=w9x Gw Wl w33 q0v
abbrev q52:=List Int->Int->List BA->Int->(Ex->Int->Prop)->Prop
def w2i(Qb:Zn)(j7c:j5l)(X:q52):q52:=fun list at_ segments levels K=>Qb list at_ 8 fun Qa Qv=>Jn1 (fun Qc=>Cnd (Qc=0) (K (Ex.mk (1:Int) (B8 []) (B8 []) [] []) Qv) (Cnd (Qc=3) (Fits segments->Cnd (0<(↑segments.length:Int)) (Fits segments->Qb list Qv (↑segments.length:Int) fun Qe J2=>At segments Qe fun y5=>K (Ex.mk (5:Int) (B8 []) y5 [] []) J2) (j7c list Qv fun Qg V1=>K (Ex.mk Qg.1 Qg.2 Qg.3 Qg.4 Qg.5) V1)) (Cnd (Qc=4) (InI (levels - 1)/\X list Qv segments (levels - 1) fun Qf Zs=>K (Ex.mk (4:Int) (B8 []) (B8 []) [] [Ex.mk Qf.1 Qf.2 Qf.3 Qf.4 Qf.5]) Zs) (Jn1 (fun Qf=>Cnd (Qf=true) (Qb list Qv 2 fun Qg V1=>InI (2+Qg)/\Qb list V1 2 fun Qe J2=>InI (2+Qe)/\LpH (fun (Ql:Int×Int×Int×BA×BA×List Val×List Ex×Unit) (w2y:Int×Int×Int×BA×BA×List Val×List Ex×Unit->Prop)=>Cnd (Ql.1<2+Qe) (InI (levels - 1)/\X list Ql.2.1 segments (levels - 1) fun Zx z34=>Jn1 (fun (Qn:Int×BA×BA×List Val×List Ex×Unit)=>Sml (Ql.2.2.2.2.2.2.1++[Ex.mk Qn.1 Qn.2.1 Qn.2.2.1 Qn.2.2.2.1 Qn.2.2.2.2.1]).length/\InI (Ql.1+1)/\w2y (Ql.1+1,z34,Ql.2.2.1,Ql.2.2.2.1,Ql.2.2.2.2.1,Ql.2.2.2.2.2.1,Ql.2.2.2.2.2.2.1++[Ex.mk Qn.1 Qn.2.1 Qn.2.2.1 Qn.2.2.2.1 Qn.2.2.2.2.1],())) fun (y77:Int×BA×BA×List Val×List Ex×Unit->Prop)=>Cnd (Zx.1=2+Qg) (y77 ((4:Int),B8 [],B8 [],[],[Ex.mk Zx.1 Zx.2 Zx.3 Zx.4 Zx.5],())) (y77 (Zx.1,Zx.2,Zx.3,Zx.4,Zx.5,()))) (K (Ex.mk Ql.2.2.1 Ql.2.2.2.1 Ql.2.2.2.2.1 Ql.2.2.2.2.2.1 Ql.2.2.2.2.2.2.1) Ql.2.1)) ((0:Int),J2,2+Qg,B8 [],B8 [],[],[],())) (j7c list Qv fun Qg V1=>K (Ex.mk Qg.1 Qg.2 Qg.3 Qg.4 Qg.5) V1)) fun v5r=>Cnd (Qc=5) (v5r (decide (Qc=5))) (v5r (decide (Qc=6))))))) fun j92=>Cnd (levels<=1) (Cnd (4<=Qa) (InI (Qa - 4)/\j92 (Qa - 4)) (j92 Qa)) (j92 Qa)
def j5m:q52:=fun list at_ segments levels K=> ∀X:q52,(∀list at_ segments levels K,w2i Wl j03 X list at_ segments levels K->X list at_ segments levels K)->X list at_ segments levels K
abbrev q6z:=List Int->Int->BA->BA->Int->List Decl->List Seg->List Flg->List Lay_->List Exper->(Int->BA->BA->Int->List Decl->List Seg->List Flg->List Lay_->List Exper->Prop)->Prop
def z8p(Qb:Zn)(q4r:j02)(q6j:z5o)(q6k:q52):q6z:=fun list at_ salt hkind hold attrs segs flags layers expers K=>Qb list at_ 4 fun Qa Qv=>q4r Qa [B8 [97,108,112,104,97],B8 [98,101,116,97],B8 [103,97,109,109,97]] fun Qc=>Lp3 (fun Qf Zs v2a u41=>Fits Qc->CAt Qc Qf (fun y4=>q6j list Zs fun Zx z34=>q6j list z34 fun Qn z8g=>Jn2 (fun Ws v5s=>Jn1 (fun (Qp:Int×BA×BA×List Val×List Ex×Int×Unit)=>Sml (v2a++[Seg.mk y4 Ws Zx Qn (Ex.mk Qp.1 Qp.2.1 Qp.2.2.1 Qp.2.2.2.1 Qp.2.2.2.2.1)]).length/\InI (Qf+1)/\u41 (Qf+1) Qp.2.2.2.2.2.1 (v2a++[Seg.mk y4 Ws Zx Qn (Ex.mk Qp.1 Qp.2.1 Qp.2.2.1 Qp.2.2.2.1 Qp.2.2.2.2.1)])) fun (u0w:Int×BA×BA×List Val×List Ex×Int×Unit->Prop)=>Qb list v5s 3 fun Zd q08=>Cnd (0<Zd) ((0<=(0:Int)/\0<=Qf/\Qf<=(↑Qc.length:Int))/\q6k list q08 (List.drop (Int.toNat 0) (List.take Qf.toNat Qc)) (3:Int) fun Wp j0m=>u0w (Wp.1,Wp.2,Wp.3,Wp.4,Wp.5,j0m,())) (u0w ((0:Int),B8 [],B8 [],[],[],q08,()))) fun u0v=>Qb list z8g 4 fun Qp j1z=>Cnd (Qp=1) (u0v (B8 [100,101,118,105,99,101]) j1z) (u0v (B8 [117,115,101,114]) j1z)) (K Zs salt hkind hold attrs v2a flags layers expers)) (0:Int) Qv segs
def z1w:q6z:=z8p Wl w2h j5j j5m
abbrev q23:=Envt->(List BA->Prop)->Prop
def q24:q23:=fun v K=>Lp2 (fun Qa Qv q47=>Fits v.3->CAt v.3 Qv (fun y2=>Sml (Qa++[y2.1]).length/\InI (Qv+1)/\q47 (Qa++[y2.1]) (Qv+1)) (K Qa)) [] (0:Int)
abbrev q98:=List Int->Int->Int->(List Rng->Int->Prop)->Prop
def w34(Qb:Zn)(Vi:q8j):q98:=fun list at_ n K=>Jn4 (fun Qa Qv z5d q48=>Qb list q48 n fun Qc Z9=>InI (1+Qc)/\Jn1 (fun Qf=>Sml (Qa++[Rng.mk Qv (10000:Int) Qf]).length/\K (Qa++[Rng.mk Qv (10000:Int) Qf]) Z9) fun v5r=>Cnd (1+Qc=z5d) (n≠0/\InI (1+(1+Qc).tmod n)/\v5r (1+(1+Qc).tmod n)) (v5r (1+Qc))) fun q0r=>Lp5 (fun Qc Z9 z8f j10 u12 u7j=>Qb list u12 4 fun Qf Zs=>Cnd (j10<Qf) (Cnd (1<n) (InI (Z9+1)/\Vi list Zs 5000 fun Qg V1=>InI (Z9+1+Qg)/\Qb list V1 n fun Qe J2=>InI (1+Qe)/\Jn1 (fun Ql=>Cnd (10000<=Z9+1+Qg) (q0r Qc Z9 z8f J2) (Sml (Qc++[Rng.mk Z9 (Z9+1+Qg) Ql]).length/\InI (j10+1)/\u7j (Qc++[Rng.mk Z9 (Z9+1+Qg) Ql]) (Z9+1+Qg) Ql (j10+1) J2)) fun u9w=>Cnd (1+Qe=z8f) (n≠0/\InI (1+(1+Qe).tmod n)/\u9w (1+(1+Qe).tmod n)) (u9w (1+Qe))) (q0r Qc Z9 z8f Zs)) (q0r Qc Z9 z8f Zs)) [] (0:Int) (0:Int) (0:Int) at_
def z8q:q98:=w34 Wl j01
abbrev z8r:=List Int->Int->Int->(Srv->Int->Prop)->Prop
def w35(Qb:Zn)(Wz:q21)(q4s:q98)(Q6:Vp):z8r:=fun list at_ n K=>Qb list at_ 2 fun Qa Qv=>Cnd (Qa=0) (Qb list Qv n fun Qc Z9=>InI (1+Qc)/\K (Srv.mk (1+Qc) (B8 []) (B8 []) (B8 []) []) Z9) (Wz list Qv fun Qc Z9=>q4s list Z9 n fun Qf Zs=>Q6 fun Qg=>Qb list Zs 12 fun Qe J2=>Fits Qg->CAt Qg Qe (fun y6=>Cnd (y6.3=5) (K (Srv.mk (0:Int) (B8 [117,115,101,114]) (B8 [107,101,121]) Qc Qf) J2) (At Qg Qe fun y8=>At Qg Qe fun y10=>K (Srv.mk (0:Int) y8.1 y10.2 Qc Qf) J2)) (K (Srv.mk (0:Int) (B8 [117,115,101,114]) (B8 [107,101,121]) Qc Qf) J2))
def j5n:z8r:=w35 Wl z5n z8q Gw
abbrev j5o:=(List Nd->(Nd->Option (Int))->Bool->Prop)->Prop
def v3l:j5o:=fun K=>K [] (fun _=>none) false
abbrev W2:=Int->(Bool->Prop)->Prop
def We:W2:=fun op K=>Cnd (6<=op) (K (decide (op<=15))) (K false)
abbrev j5p:=List BA->List BA->(Bool->Prop)->Prop
def j5q:j5p:=fun a b K=>Fits a->Fits b->Cnd ((↑a.length:Int)=(↑b.length:Int)) (Lp1 (fun Qf j2o=>Fits a->CAt a Qf (fun y4=>At b Qf fun y6=>Cnd (y4=y6) (InI (Qf+1)/\j2o (Qf+1)) (K false)) (K true)) (0:Int)) (K false)
abbrev Bq:=Val->Val->(Bool->Prop)->Prop
def j79(j7d:j5p):Bq:=fun a b K=>Cnd (a.1=b.1) (Cnd (a.2=b.2) (Cnd (a.3=b.3) (j7d a.4 b.4 fun Qa=>K Qa) (K false)) (K false)) (K false)
def q49:Bq:=j79 j5q
abbrev Rx:=List Val->List Val->(Bool->Prop)->Prop
def q99(Wc:Bq):Rx:=fun a b K=>Fits a->Fits b->Cnd ((↑a.length:Int)=(↑b.length:Int)) (Lp1 (fun Qf j2o=>Fits a->CAt a Qf (fun y4=>At b Qf fun y6=>Wc y4 y6 fun Ws=>Cnd (Ws=true) (InI (Qf+1)/\j2o (Qf+1)) (K false)) (K true)) (0:Int)) (K false)
def Ge:Rx:=q99 q49
abbrev Uo:=Ex->Ex->(Bool->Prop)->Prop
def z5p(q4t:Rx)(X:Uo):Uo:=fun a b K=>Cnd (a.1=b.1) (Cnd (a.2=b.2) (Cnd (a.3=b.3) (q4t a.4 b.4 fun Qa=>Cnd (Qa=true) (Fits a.5->Fits b.5->Cnd ((↑a.5.length:Int)=(↑b.5.length:Int)) (Lp1 (fun Qg j4z=>Fits a.5->CAt a.5 Qg (fun y5=>At b.5 Qg fun y7=>X (Ex.mk y5.1 y5.2 y5.3 y5.4 y5.5) (Ex.mk y7.1 y7.2 y7.3 y7.4 y7.5) fun Qp=>Cnd (Qp=true) (InI (Qg+1)/\j4z (Qg+1)) (K false)) (K true)) (0:Int)) (K false)) (K false)) (K false)) (K false)) (K false)
def q25:Uo:=fun a b K=> ∀X:Uo,(∀a b K,z5p Ge X a b K->X a b K)->X a b K
abbrev q1z:=List Ex->Ex->(Int->Prop)->Prop
def j3h(q9a:Uo):q1z:=fun l e K=>Lp1 (fun Qa Bj=>Fits l->CAt l Qa (fun y2=>q9a (Ex.mk y2.1 y2.2 y2.3 y2.4 y2.5) (Ex.mk e.1 e.2 e.3 e.4 e.5) fun Qe=>Cnd (Qe=true) (K Qa) (InI (Qa+1)/\Bj (Qa+1))) (K (-1:Int))) (0:Int)
def U3:q1z:=j3h q25
abbrev Vq:=List Ex->Ex->(List Ex->Prop)->Prop
def z3d(U5:q1z)(Q0:W2)(X:Vq):Vq:=fun l e K=>Jn1 (fun Qa=>Lp2 (fun Qc Z9 j0n=>Fits e.5->CAt e.5 Z9 (fun y3=>X Qc (Ex.mk y3.1 y3.2 y3.3 y3.4 y3.5) fun Ql=>InI (Z9+1)/\j0n Ql (Z9+1)) (K Qc)) Qa (0:Int)) fun q0r=>Cnd (e.1=5) (U5 l (Ex.mk e.1 e.2 e.3 e.4 e.5) fun Qc=>Cnd (Qc<0) ((Sml ([]++l).length/\Sml ([]++l++[Ex.mk e.1 e.2 e.3 e.4 e.5]).length/\q0r ([]++l++[Ex.mk e.1 e.2 e.3 e.4 e.5]))/\Sml ([]++l).length/\Sml ([]++l++[Ex.mk e.1 e.2 e.3 e.4 e.5]).length/\q0r ([]++l++[Ex.mk e.1 e.2 e.3 e.4 e.5])) (q0r l)) (Q0 e.1 fun Qc=>Cnd (Qc=true) (U5 l (Ex.mk e.1 e.2 e.3 e.4 e.5) fun Qf=>Cnd (Qf<0) ((Sml ([]++l).length/\Sml ([]++l++[Ex.mk e.1 e.2 e.3 e.4 e.5]).length/\q0r ([]++l++[Ex.mk e.1 e.2 e.3 e.4 e.5]))/\Sml ([]++l).length/\Sml ([]++l++[Ex.mk e.1 e.2 e.3 e.4 e.5]).length/\q0r ([]++l++[Ex.mk e.1 e.2 e.3 e.4 e.5])) (q0r l)) (q0r l))
def q53:Vq:=fun l e K=> ∀X:Vq,(∀l e K,z3d U3 We X l e K->X l e K)->X l e K
abbrev Ry:=List Rul->(List Ex->Prop)->Prop
def z0a(q6l:Vq):Ry:=fun l K=>Lp2 (fun Qa Qv q47=>Fits l->CAt l Qv (fun y2=>q6l Qa (Ex.mk y2.2.1 y2.2.2 y2.2.3 y2.2.4 y2.2.5) fun Qe=>InI (Qv+1)/\q47 Qe (Qv+1)) (K Qa)) [] (0:Int)
def q26:Ry:=z0a q53
abbrev Wm:=List Nd->(Nd->Option (Int))->Bool->Int->(Bool->List Nd->(Nd->Option (Int))->Bool->Prop)->Prop
def G1:Wm:=fun ns ids full id K=>Cnd ((-1002:Int)<id) (Fits ns->K (decide (id<(↑ns.length:Int))) ns ids full) (K false ns ids full)
abbrev q1e:=List Nd->(Nd->Option (Int))->Bool->Int->((Int->Option (Bool))->List Nd->(Nd->Option (Int))->Bool->Prop)->Prop
def q1f:q1e:=fun ns ids full id K=>Lp2 (fun Qa Bj q47=>Fits Qa->Cnd (0<(↑Qa.length:Int)) (Fits Qa->InI ((↑Qa.length:Int) - 1)/\(0<=(↑Qa.length:Int) - 1/\(↑Qa.length:Int) - 1<(↑Qa.length:Int))/\∀y3,Qa[((↑Qa.length:Int) - 1).toNat]? =some y3->Fits Qa->InI ((↑Qa.length:Int) - 1)/\(0<=(↑Qa.length:Int) - 1/\(↑Qa.length:Int) - 1<=(↑Qa.length:Int))/\Cnd ((Bj y3).getD false=true) (q47 (List.take ((↑Qa.length:Int) - 1).toNat Qa) Bj) (Cnd (0<=y3) (At ns y3 fun y6=>At ns y3 fun y8=>Sml (List.take ((↑Qa.length:Int) - 1).toNat Qa++[y6.2.1,y8.2.2]).length/\q47 (List.take ((↑Qa.length:Int) - 1).toNat Qa++[y6.2.1,y8.2.2]) (put Bj y3 true)) (q47 (List.take ((↑Qa.length:Int) - 1).toNat Qa) (put Bj y3 true)))) (K Bj ns ids full)) [id] fun _=>none
abbrev Gf:=List Nd->(Nd->Option (Int))->Bool->Int->(List Int->List Nd->(Nd->Option (Int))->Bool->Prop)->Prop
def z4d(Q2:Wm)(q1r:q1e):Gf:=fun ns ids full id K=>Q2 ns ids full id fun Qa (Qv:List (Int×Int×Int)) q47 q48=>Cnd (Qa=true) (q1r Qv q47 q48 id fun j92 (Z9:List (Int×Int×Int)) j0n j10=>Lp2 (fun Qf Zs q8d=>Cnd (Zs<=1000) (InI ((-1:Int) - Zs)/\Cnd ((j92 ((-1:Int) - Zs)).getD false=true) (Sml (Qf++[Zs]).length/\InI (Zs+1)/\q8d (Qf++[Zs]) (Zs+1)) (InI (Zs+1)/\q8d Qf (Zs+1))) (K Qf Z9 j0n j10)) [] (0:Int)) (K [] Qv q47 q48)
def Br:Gf:=z4d G1 q1f
abbrev Zo:=List Nd->(Nd->Option (Int))->Bool->Int->(Bool->List Nd->(Nd->Option (Int))->Bool->Prop)->Prop
def q79(Q2:Wm)(q0a:Gf):Zo:=fun ns ids full id K=>Q2 ns ids full id fun Qa (Qv:List (Int×Int×Int)) q47 q48=>Cnd (Qa=true) (q0a Qv q47 q48 id fun Qc (Z9:List (Int×Int×Int)) j0n j10=>Lp1 (fun Qf j2o=>Fits Qc->CAt Qc Qf (fun y4=>Cnd (1<y4) (K false Z9 j0n j10) (InI (Qf+1)/\j2o (Qf+1))) (K true Z9 j0n j10)) (0:Int)) (K false Qv q47 q48)
def Wa:Zo:=q79 G1 Br
abbrev Vr:=List Nd->(Nd->Option (Int))->Bool->Int->(Int->List Nd->(Nd->Option (Int))->Bool->Prop)->Prop
def Wn:Vr:=fun ns ids full id K=>Cnd (id<0) (K 1001 ns ids full) (At ns id fun y0=>K y0.1 ns ids full)
abbrev Hx:=List Nd->(Nd->Option (Int))->Bool->Int->Int->(Int->Int->List Nd->(Nd->Option (Int))->Bool->Prop)->Prop
def z7z(Za:Vr):Hx:=fun ns ids full id test K=>Za ns ids full id fun Qa (Qv:List (Int×Int×Int)) q47 q48=>Cnd (Qa=test) (At Qv id fun y1=>At Qv id fun y3=>K y1.2.1 y3.2.2 Qv q47 q48) (K id id Qv q47 q48)
def W4:Hx:=z7z Wn
abbrev V4:=List Nd->(Nd->Option (Int))->Bool->Int->Int->Int->(Int->List Nd->(Nd->Option (Int))->Bool->Prop)->Prop
def z8s(Q2:Wm)(Za:Vr):V4:=fun ns ids full test yes no K=>Cnd (test<0) (K (-1002:Int) ns ids full) (Cnd (1000<test) (K (-1002:Int) ns ids full) (Q2 ns ids full yes fun Qa (Qv:List (Int×Int×Int)) q47 q48=>Cnd (Qa=true) (Q2 Qv q47 q48 no fun Qc (Z9:List (Int×Int×Int)) j0n j10=>Cnd (Qc=true) (Za Z9 j0n j10 yes fun Qf (Zs:List (Int×Int×Int)) q8d w6v=>Cnd (Qf<=test) (K (-1002:Int) Zs q8d w6v) (Za Zs q8d w6v no fun Qg (V1:List (Int×Int×Int)) w1u y78=>Cnd (Qg<=test) (K (-1002:Int) V1 w1u y78) (Cnd (yes=no) (K yes V1 w1u y78) (Cnd ((w1u (test,yes,no)).isSome=true) (K ((w1u (test,yes,no)).getD (0:Int)) V1 w1u y78) (Fits V1->Cnd (4000<=(↑V1.length:Int)) (K (-1002:Int) V1 w1u true) (Fits V1->Sml (V1++[(test,yes,no)]).length/\((V1++[(test,yes,no)]).length<=(9223372036854775807:Nat)->InI ((↑(V1++[(test,yes,no)]).length:Int) - 1)/\K ((↑(V1++[(test,yes,no)]).length:Int) - 1) (V1++[(test,yes,no)]) (put w1u (test,yes,no) (↑V1.length:Int)) y78))))))) (K (-1002:Int) Z9 j0n j10)) (K (-1002:Int) Qv q47 q48)))
def Jq:V4:=z8s G1 Wn
abbrev Jz:=List Nd->(Nd->Option (Int))->Bool->Int->Int->Int->(A3->Option (Int))->(Int->List Nd->(Nd->Option (Int))->Bool->(A3->Option (Int))->Prop)->Prop
def Gg(Za:Vr)(Uk:Hx)(J7:V4)(X:Jz):Jz:=fun ns ids full f g h known K=>Cnd (f=(-2:Int)) (K g ns ids full known) (Cnd (g=h) (K g ns ids full known) (Cnd (f=(-1:Int)) (K h ns ids full known) (Cnd ((known (f,g,h)).isSome=true) (K ((known (f,g,h)).getD (0:Int)) ns ids full known) (Za ns ids full f fun Qa (Qv:List (Int×Int×Int)) q47 q48=>Za Qv q47 q48 g fun Qc (Z9:List (Int×Int×Int)) j0n j10=>Za Z9 j0n j10 h fun Qf (Zs:List (Int×Int×Int)) q8d w6v=>Uk Zs q8d w6v f (Min.min (Min.min Qa Qc) Qf) fun Qg V1 (u13:List (Int×Int×Int)) u9y u9z=>Uk u13 u9y u9z g (Min.min (Min.min Qa Qc) Qf) fun Qe J2 (j7e:List (Int×Int×Int)) u5l u82=>Uk j7e u5l u82 h (Min.min (Min.min Qa Qc) Qf) fun Ql q8e (u83:List (Int×Int×Int)) u42 u90=>X u83 u42 u90 Qg Qe Ql known fun Zx (z34:List (Int×Int×Int)) y79 v11 u91=>X z34 y79 v11 V1 J2 q8e u91 fun Qn (z8g:List (Int×Int×Int)) u5m v2b u5n=>Jn4 (fun Ws (v5s:List (Int×Int×Int)) u92 u84=>K Ws v5s u84 u92 (put u5n (f,g,h) Ws)) fun u0v=>Cnd (Zx=(-1002:Int)) (u0v (-1002:Int) z8g v2b u5m) (Cnd (Qn=(-1002:Int)) (u0v (-1002:Int) z8g v2b u5m) (J7 z8g u5m v2b (Min.min (Min.min Qa Qc) Qf) Zx Qn fun Qp (j1z:List (Int×Int×Int)) u43 u14=>u0v Qp j1z u14 u43))))))
def Bt:Jz:=fun ns ids full f g h known K=> ∀X:Jz,(∀ns ids full f g h known K,Gg Wn W4 Jq X ns ids full f g h known K->X ns ids full f g h known K)->X ns ids full f g h known K
abbrev Jf:=List Nd->(Nd->Option (Int))->Bool->Int->Int->Int->(Int->List Nd->(Nd->Option (Int))->Bool->Prop)->Prop
def z4e(Qs:Zo)(Q2:Wm)(q0b:Jz):Jf:=fun ns ids full f g h K=>Qs ns ids full f fun Qa (Qv:List (Int×Int×Int)) q47 q48=>Cnd (Qa=true) (Q2 Qv q47 q48 g fun Qc (Z9:List (Int×Int×Int)) j0n j10=>Cnd (Qc=true) (Q2 Z9 j0n j10 h fun Qf (Zs:List (Int×Int×Int)) q8d w6v=>Cnd (Qf=true) (q0b Zs q8d w6v f g h (fun _=>none) fun Qg (V1:List (Int×Int×Int)) w1u y78 Y3_4=>K Qg V1 w1u y78) (K (-1002:Int) Zs q8d w6v)) (K (-1002:Int) Z9 j0n j10)) (K (-1002:Int) Qv q47 q48)
def Vy:Jf:=z4e Wa G1 Bt
abbrev q0w:=List Nd->(Nd->Option (Int))->Bool->Int->(Int->List Nd->(Nd->Option (Int))->Bool->Prop)->Prop
def j2v(Q4:Jf):q0w:=fun ns ids full f K=>Q4 ns ids full f (-1:Int) (-2:Int) fun Qa (Qv:List (Int×Int×Int)) q47 q48=>K Qa Qv q47 q48
def Rb:q0w:=j2v Vy
abbrev q0x:=List Nd->(Nd->Option (Int))->Bool->Int->Int->(Int->List Nd->(Nd->Option (Int))->Bool->Prop)->Prop
def j2w(Qs:Zo)(Q4:Jf):q0x:=fun ns ids full f g K=>Qs ns ids full g fun Qa (Qv:List (Int×Int×Int)) q47 q48=>Cnd (Qa=true) (Q4 Qv q47 q48 f g (-1:Int) fun Qc (Z9:List (Int×Int×Int)) j0n j10=>K Qc Z9 j0n j10) (K (-1002:Int) Qv q47 q48)
def Rd:q0x:=j2w Wa Vy
abbrev G2:=List Nd->(Nd->Option (Int))->Bool->Int->Int->(Int->List Nd->(Nd->Option (Int))->Bool->Prop)->Prop
def j5r(Qs:Zo)(Q4:Jf):G2:=fun ns ids full f g K=>Qs ns ids full g fun Qa (Qv:List (Int×Int×Int)) q47 q48=>Cnd (Qa=true) (Q4 Qv q47 q48 f (-2:Int) g fun Qc (Z9:List (Int×Int×Int)) j0n j10=>K Qc Z9 j0n j10) (K (-1002:Int) Qv q47 q48)
def G3:G2:=j5r Wa Vy
abbrev Wt:=List Nd->(Nd->Option (Int))->Bool->List Ex->Ex->(Int->List Nd->(Nd->Option (Int))->Bool->Prop)->Prop
def z0b(q6m:q0w)(q6n:q0x)(Vj:G2)(U5:q1z)(J7:V4)(X:Wt):Wt:=fun ns ids full atoms e K=>Cnd (e.1=1) (K (-2:Int) ns ids full) (Cnd (e.1=4) ((0<=(0:Int)/\0<(↑e.5.length:Int))/\∀y0,e.5[Int.toNat 0]? =some y0->X ns ids full atoms (Ex.mk y0.1 y0.2 y0.3 y0.4 y0.5) fun Qf (Zs:List (Int×Int×Int)) q8d w6v=>q6m Zs q8d w6v Qf fun Qg (V1:List (Int×Int×Int)) w1u y78=>K Qg V1 w1u y78) (Jn1 (fun Qa=>Cnd (Qa=true) ((0<=(0:Int)/\0<(↑e.5.length:Int))/\∀y1,e.5[Int.toNat 0]? =some y1->X ns ids full atoms (Ex.mk y1.1 y1.2 y1.3 y1.4 y1.5) fun Qg (V1:List (Int×Int×Int)) w1u y78=>Lp5 (fun Qe J2 (j7e:List (Int×Int×Int)) y8a u7y u7z=>Fits e.5->CAt e.5 J2 (fun y6=>X j7e u7y y8a atoms (Ex.mk y6.1 y6.2 y6.3 y6.4 y6.5) fun Ws (v5s:List (Int×Int×Int)) u70 u9x=>Cnd (e.1=2) (q6n v5s u70 u9x Qe Ws fun Qp (j1z:List (Int×Int×Int)) u43 u14=>InI (J2+1)/\u7z Qp (J2+1) j1z u14 u43) (Vj v5s u70 u9x Qe Ws fun Qp (j1z:List (Int×Int×Int)) u43 u14=>InI (J2+1)/\u7z Qp (J2+1) j1z u14 u43)) (K Qe j7e u7y y8a)) Qg (1:Int) V1 y78 w1u) (U5 atoms (Ex.mk e.1 e.2 e.3 e.4 e.5) fun Qc=>Cnd (Qc<0) (K (-1002:Int) ns ids full) (J7 ns ids full Qc (-2:Int) (-1:Int) fun Qf (Zs:List (Int×Int×Int)) q8d w6v=>K Qf Zs q8d w6v))) fun q0r=>Cnd (e.1=2) (q0r (decide (e.1=2))) (q0r (decide (e.1=3)))))
def q27:Wt:=fun ns ids full atoms e K=> ∀X:Wt,(∀ns ids full atoms e K,z0b Rb Rd G3 U3 Jq X ns ids full atoms e K->X ns ids full atoms e K)->X ns ids full atoms e K
abbrev Wf:=List Rul->(List Int->Int->Bool->Prop)->Prop
def q5a(j7f:j5o)(q4u:Ry)(q4v:Wt)(Vj:G2):Wf:=fun l K=>j7f fun (Qa:List (Int×Int×Int)) Bj z5d=>q4u l fun Qc=>LpH (fun Qf j2o=>Fits l->CAt l Qf.2.2.1 (fun y4=>q4v Qf.2.2.2.1 Qf.2.2.2.2.2.1 Qf.2.2.2.2.1 Qc (Ex.mk y4.2.1 y4.2.2 y4.2.3 y4.2.4 y4.2.5) fun Zx (z34:List (Int×Int×Int)) y79 v11=>Vj z34 y79 v11 Qf.1 Zx fun Qn (z8g:List (Int×Int×Int)) u5m v2b=>Cnd (Qn=(-1002:Int)) (Fits z8g->K [] (↑z8g.length:Int) false) (Cnd (Qn=Qf.1) (InI (Qf.2.2.1+1)/\Sml (Qf.2.1++[Qf.2.2.1+1]).length/\InI (Qf.2.2.1+1)/\j2o (Qn,Qf.2.1++[Qf.2.2.1+1],Qf.2.2.1+1,z8g,v2b,u5m,())) (InI (Qf.2.2.1+1)/\j2o (Qn,Qf.2.1,Qf.2.2.1+1,z8g,v2b,u5m,())))) (Fits Qf.2.2.2.1->K Qf.2.1 (↑Qf.2.2.2.1.length:Int) true)) ((-1:Int),[],(0:Int),Qa,z5d,Bj,())
def Gh:Wf:=q5a v3l q26 q27 G3
abbrev z8t:=List Int->Int->BA->(Lay_->Int->Prop)->Prop
def w36(Wz:q21)(Qb:Zn)(Vi:q8j):z8t:=fun list at_ key K=>Wz list at_ fun Qa Qv=>Qb list Qv 3 fun Qc Z9=>InI (Qc*50)/\Jn2 (fun Qf Zs=>Jn2 (fun Qg V1=>Lp4 (fun Qe J2 j7e y8a u7y=>Qb list y8a 3 fun Ql q8e=>Cnd (J2<Ql) (Vi list q8e 3000 fun Zx z34=>InI (Qe+Zx)/\InI (Qe+Zx+1)/\Vi list z34 2000 fun Qn z8g=>InI (Qe+Zx+1+Qn)/\Cnd (10000<Qe+Zx+1+Qn) (K (Lay_.mk key Qf Qa Qg (Qc*50) j7e) z8g) (Qb list z8g 200 fun Ws v5s=>Sml (j7e++[Col.mk (Qe+Zx) (Qe+Zx+1+Qn) Ws]).length/\InI (J2+1)/\u7y (Qe+Zx+1+Qn) (J2+1) (j7e++[Col.mk (Qe+Zx) (Qe+Zx+1+Qn) Ws]) v5s)) (K (Lay_.mk key Qf Qa Qg (Qc*50) j7e) q8e)) (0:Int) (0:Int) [] V1) fun y73=>Qb list Zs 2 fun Qe J2=>Cnd (Qe=1) (Vi list J2 3000 fun Ql q8e=>y73 Ql q8e) (y73 (0:Int) J2)) fun v5r=>Qb list Z9 4 fun Qg V1=>Cnd (Qg=1) (v5r (B8 [100,101,118,105,99,101]) V1) (v5r (B8 [117,115,101,114]) V1)
def j5s:z8t:=w36 z5n Wl j01
abbrev j04:=Int->(Bool->Prop)->Prop
def j05:j04:=fun now K=>Cnd (0<=now) (K (decide (now<=1099511627776))) (K false)
abbrev Jt:=Envt->BA->(Int->Prop)->Prop
def Vf:Jt:=fun v key K=>Lp1 (fun Qa Bj=>Fits v.5->CAt v.5 Qa (fun y2=>Cnd (y2.1=key) (K Qa) (InI (Qa+1)/\Bj (Qa+1))) (K (-1:Int))) (0:Int)
abbrev q28:=List Col->Int->(List Int->Prop)->Prop
def q29:q28:=fun l now K=>(0<=(10000:Int)/\10000<=(10000:Int)/\Sml (Int.toNat 10000))/\Lp2 (fun Qa Qv q47=>Fits Qv->CAt Qv Qa (fun _=>InI (Qa+1)/\q47 (Qa+1) (Qv.set Qa.toNat now)) (Lp2 (fun Qf Zs q8d=>Fits l->CAt l Qf (fun y4=>Lp2 (fun Zx z34 y79=>At l Qf fun y7=>Cnd (Zx<Min.min y7.2 (10000:Int)) (At z34 Zx fun y9=>At l Qf fun y11=>At z34 Zx fun _=>InI (Zx+1)/\y79 (Zx+1) (z34.set Zx.toNat (Max.max y9 y11.3))) (InI (Qf+1)/\q8d (Qf+1) z34)) (Max.max y4.1 (0:Int)) Zs) (K Zs)) (0:Int) Qv)) (0:Int) (List.replicate (Int.toNat 10000) (0:Int))
abbrev W5:=List Bool->(List Spn->Prop)->Prop
def Rz:W5:=fun set_ K=>Lp2 (fun Qa Qv q47=>Fits set_->CAt set_ Qv (fun y2=>Cnd (y2=true) (Cnd (0<Qv) (InI (Qv - 1)/\(0<=Qv - 1/\Qv - 1<(↑set_.length:Int))/\∀y4,set_[(Qv - 1).toNat]? =some y4->Cnd (y4=true) (Fits Qa->InI ((↑Qa.length:Int) - 1)/\InI (Qv+1)/\(0<=(↑Qa.length:Int) - 1/\(↑Qa.length:Int) - 1<(↑Qa.length:Int))/\∀y7,Qa[((↑Qa.length:Int) - 1).toNat]? =some y7->InI (Qv+1)/\q47 (Qa.set ((↑Qa.length:Int) - 1).toNat (Spn.mk y7.1 (Qv+1))) (Qv+1)) (InI (Qv+1)/\Sml (Qa++[Spn.mk Qv (Qv+1)]).length/\InI (Qv+1)/\q47 (Qa++[Spn.mk Qv (Qv+1)]) (Qv+1))) (InI (Qv+1)/\Sml (Qa++[Spn.mk Qv (Qv+1)]).length/\InI (Qv+1)/\q47 (Qa++[Spn.mk Qv (Qv+1)]) (Qv+1))) (InI (Qv+1)/\q47 Qa (Qv+1))) (K Qa)) [] (0:Int)
abbrev z0c:=List Int->Int->(List Spn->Prop)->Prop
def j3i(Q7:W5):z0c:=fun until_ now K=>Fits until_->(0<=(↑until_.length:Int)/\(↑until_.length:Int)<=(↑until_.length:Int)/\Sml (↑until_.length:Int).toNat)/\Lp2 (fun Qc Z9 j0n=>Fits until_->CAt until_ Qc (fun y3=>At Z9 Qc fun _=>InI (Qc+1)/\j0n (Qc+1) (Z9.set Qc.toNat (decide (now<y3)))) (Q7 Z9 fun Qg=>K Qg)) (0:Int) (List.replicate (↑until_.length:Int).toNat false)
def z5q:z0c:=j3i Rz
abbrev q0y:=List Spn->(List Bool->Prop)->Prop
def z0d:q0y:=fun l K=>(0<=(10000:Int)/\10000<=(10000:Int)/\Sml (Int.toNat 10000))/\Lp2 (fun Qa Qv q47=>Fits l->CAt l Qa (fun y2=>Lp2 (fun Qe J2 v5t=>At l Qa fun y5=>Cnd (Qe<Min.min y5.2 (10000:Int)) (At J2 Qe fun _=>InI (Qe+1)/\v5t (Qe+1) (J2.set Qe.toNat true)) (InI (Qa+1)/\q47 (Qa+1) J2)) (Max.max y2.1 (0:Int)) Qv) (K Qv)) (0:Int) (List.replicate (Int.toNat 10000) false)
abbrev z0e:=List Spn->List Spn->(List Spn->Prop)->Prop
def j3j(Jm:q0y)(Q7:W5):z0e:=fun a b K=>Jm a fun Qa=>Jm b fun Qc=>Lp2 (fun Qf Zs q8d=>Fits Zs->CAt Zs Qf (fun y4=>Cnd (y4=true) (At Zs Qf fun _=>InI (Qf+1)/\q8d (Qf+1) (Zs.set Qf.toNat true)) (At Qc Qf fun y6=>At Zs Qf fun _=>InI (Qf+1)/\q8d (Qf+1) (Zs.set Qf.toNat y6))) (Q7 Zs fun Qe=>K Qe)) (0:Int) Qa
def z5r:z0e:=j3j z0d Rz
abbrev z0f:=Envt->BA->BA->Int->(List Spn->Prop)->Prop
def j3k(Qt:Jt)(q2k:z0e)(Bk:q28)(q51:z0c):z0f:=fun v layer but now K=>Qt (Envt.mk (Sett.mk v.1.1 v.1.2 v.1.3) v.2 v.3 v.4 v.5 v.6) layer fun Qa=>Cnd (Qa<0) (K []) (Jn1 (fun Qc=>Lp2 (fun Qf Zs q8d=>Fits v.6->CAt v.6 Zs (fun y4=>Cnd (y4.2=layer) (Cnd (y4.1=but) (InI (Zs+1)/\q8d Qf (Zs+1)) (Cnd (y4.5=3) (InI (Zs+1)/\q8d Qf (Zs+1)) (q2k Qf y4.6 fun Zx=>InI (Zs+1)/\q8d Zx (Zs+1)))) (InI (Zs+1)/\q8d Qf (Zs+1))) (K Qf)) Qc (0:Int)) fun j92=>At v.5 Qa fun y2=>At v.5 Qa fun y4=>(Bk y4.6 now fun Zx=>q51 Zx now fun Qn=>q2k [Spn.mk (0:Int) y2.4] Qn fun Ws=>j92 Ws)/\Bk y4.6 now fun Zx=>(q51 Zx now fun Qn=>q2k [Spn.mk (0:Int) y2.4] Qn fun Ws=>j92 Ws)/\q51 Zx now fun Qn=>q2k [Spn.mk (0:Int) y2.4] Qn fun Ws=>j92 Ws)
def z5s:z0f:=j3k Vf z5r q29 z5q
abbrev q13:=List Spn->List Spn->(List Spn->Prop)->Prop
def j3l(Jm:q0y)(Q7:W5):q13:=fun a b K=>Jm a fun Qa=>Jm b fun Qc=>Lp2 (fun Qf Zs q8d=>Fits Zs->CAt Zs Qf (fun y4=>Cnd (y4=true) (At Qc Qf fun y6=>At Zs Qf fun _=>InI (Qf+1)/\q8d (Qf+1) (Zs.set Qf.toNat (match decide ((flC C.bool y6).1=true) with|true=>false|false=>true))) (At Zs Qf fun _=>InI (Qf+1)/\q8d (Qf+1) (Zs.set Qf.toNat false))) (Q7 Zs fun Qe=>K Qe)) (0:Int) Qa
def z0g:q13:=j3l z0d Rz
abbrev z4f:=Envt->BA->Int->(List Spn->Int->Prop)->Prop
def j8a(j11:j04)(Qt:Jt)(z7k:z0f)(Hn:q13):z4f:=fun v layer now K=>j11 now fun Qa=>Cnd (Qa=true) (Qt (Envt.mk (Sett.mk v.1.1 v.1.2 v.1.3) v.2 v.3 v.4 v.5 v.6) layer fun Qc=>Cnd (Qc<0) (K [] (11:Int)) (z7k (Envt.mk (Sett.mk v.1.1 v.1.2 v.1.3) v.2 v.3 v.4 v.5 v.6) layer (B8 []) now fun Qf=>Hn [Spn.mk (0:Int) (10000:Int)] Qf fun Qg=>K Qg (0:Int))) (K [] (3:Int))
def j06:z4f:=j8a j05 Vf z5s z0g
abbrev z0h:=List Spn->Int->(List Spn->Prop)->Prop
def j3m(Jm:q0y)(Q7:W5):z0h:=fun l n K=>Jm l fun Qa=>Lp3 (fun Qc Z9 z8f y72=>Fits z8f->CAt z8f Z9 (fun y3=>Cnd (y3=true) (Cnd (Qc<=0) (At z8f Z9 fun _=>InI (Z9+1)/\y72 Qc (Z9+1) (z8f.set Z9.toNat false)) (At z8f Z9 fun y5=>Cnd (y5=true) (InI (Qc - 1)/\InI (Z9+1)/\y72 (Qc - 1) (Z9+1) z8f) (InI (Z9+1)/\y72 Qc (Z9+1) z8f))) (At z8f Z9 fun y5=>Cnd (y5=true) (InI (Qc - 1)/\InI (Z9+1)/\y72 (Qc - 1) (Z9+1) z8f) (InI (Z9+1)/\y72 Qc (Z9+1) z8f))) (Q7 z8f fun Qg=>K Qg)) n (0:Int) Qa
def z5t:z0h:=j3m z0d Rz
abbrev Up:=BA->(Bool->Prop)->Prop
def Uq(s:BA)(K:Bool->Prop):Prop:=s.size<=(9223372036854775807:Nat)/\K (Go.Lib.validD s.data.toList)
abbrev J0:=BA->(Bool->Prop)->Prop
def j07(Z6:Up):J0:=fun s K=>Cnd (200<(↑s.size:Int)) (K false) (Z6 s fun Qa=>Cnd (Qa=true) (Lp1 (fun Qc q0c=>Cnd (Qc<(↑s.size:Int)) ((0<=Qc/\Qc<(↑s.size:Int))/\∀b2,s[Qc.toNat]? =some b2->Cnd ((↑b2.toNat:Int)<32) (K false) ((0<=Qc/\Qc<(↑s.size:Int))/\∀b4,s[Qc.toNat]? =some b4->Cnd ((↑b4.toNat:Int)=127) (K false) (InI (Qc+1)/\q0c (Qc+1)))) (K true)) (0:Int)) (K false))
def Ui:J0:=j07 Uq
abbrev j5t:=BA->(Bool->Prop)->Prop
def j5u:j5t:=fun s K=>Lp1 (fun Qa Bj=>Cnd (Qa<(↑s.size:Int)) ((0<=Qa/\Qa<(↑s.size:Int))/\∀b1,s[Qa.toNat]? =some b1->Cnd (97<=(↑b1.toNat:Int)) (Cnd ((↑b1.toNat:Int)<=122) (InI (Qa+1)/\Bj (Qa+1)) (Cnd (Qa=0) (K false) (Cnd (48<=(↑b1.toNat:Int)) (Cnd ((↑b1.toNat:Int)<=57) (InI (Qa+1)/\Bj (Qa+1)) (Cnd ((↑b1.toNat:Int)=45) (InI (Qa+1)/\Bj (Qa+1)) (Cnd ((↑b1.toNat:Int)=95) (InI (Qa+1)/\Bj (Qa+1)) (K false)))) (Cnd ((↑b1.toNat:Int)=45) (InI (Qa+1)/\Bj (Qa+1)) (Cnd ((↑b1.toNat:Int)=95) (InI (Qa+1)/\Bj (Qa+1)) (K false)))))) (Cnd (Qa=0) (K false) (Cnd (48<=(↑b1.toNat:Int)) (Cnd ((↑b1.toNat:Int)<=57) (InI (Qa+1)/\Bj (Qa+1)) (Cnd ((↑b1.toNat:Int)=45) (InI (Qa+1)/\Bj (Qa+1)) (Cnd ((↑b1.toNat:Int)=95) (InI (Qa+1)/\Bj (Qa+1)) (K false)))) (Cnd ((↑b1.toNat:Int)=45) (InI (Qa+1)/\Bj (Qa+1)) (Cnd ((↑b1.toNat:Int)=95) (InI (Qa+1)/\Bj (Qa+1)) (K false)))))) (K (decide (0<(↑s.size:Int))))) (0:Int)
abbrev q8k:=(List BA->Prop)->Prop
def q8l:q8k:=fun K=>K [B8 [97,110,100],B8 [97,114,109,115],B8 [97,116,116,114,105,98,117,116,101],B8 [98,111,111,108],B8 [99,108,97,105,109,115],B8 [99,111,110,116,97,105,110,115],B8 [99,111,111,108],B8 [99,111,111,108,105,110,103],B8 [100,101,102,97,117,108,116],B8 [100,114,97,102,116],B8 [101,110,100,115],B8 [101,120,99,108,117,100,101],B8 [101,120,105,115,116,115],B8 [101,120,112,101,114,105,109,101,110,116],B8 [102,97,108,115,101],B8 [102,108,97,103],B8 [104,111,108,100,111,117,116],B8 [105,110],B8 [105,110,99,108,117,100,101],B8 [105,115],B8 [108,97,121,101,114],B8 [108,105,115,116],B8 [109,101,109,98,101,114],B8 [110,101,101,100,115],B8 [110,111,116],B8 [110,117,109,98,101,114],B8 [111,102,102],B8 [111,110],B8 [111,114],B8 [114,117,108,101],B8 [114,117,110,110,105,110,103],B8 [115,97,108,116],B8 [115,101,103,109,101,110,116],B8 [115,101,114,118,101],B8 [115,101,116,116,105,110,103,115],B8 [115,112,108,105,116],B8 [115,116,97,114,116,115],B8 [115,116,111,112,112,101,100],B8 [116,97,114,103,101,116],B8 [116,101,120,116],B8 [116,111],B8 [116,114,117,101],B8 [117,110,116,105,108],B8 [118,97,114,105,97,116,105,111,110,115],B8 [118,101,114,115,105,111,110],B8 [119,104,101,110]]
abbrev Ju:=BA->(Bool->Prop)->Prop
def w9y(j7g:j5t)(q9b:q8k):Ju:=fun s K=>j7g s fun Qa=>Cnd (Qa=true) (Cnd (32<(↑s.size:Int)) (K false) (q9b fun Qc=>Lp1 (fun Qf j2o=>Fits Qc->CAt Qc Qf (fun y4=>Cnd (y4=s) (K false) (InI (Qf+1)/\j2o (Qf+1))) (K true)) (0:Int))) (K false)
def Rk:Ju:=w9y j5u q8l
abbrev q3a:=Sett->(Int->Prop)->Prop
def z5u(Qw:J0)(Qm:Ju):q3a:=fun s K=>Qw s.1 fun Qa=>Cnd (Qa=true) (Cnd (s.3<0) (K 3) (Cnd (10000<s.3) (K 3) (Qm s.2 fun Qc=>Cnd (Qc=true) (K 0) (Cnd (s.2=B8 []) (Cnd (s.3=0) (K 0) (K 6)) (K 6))))) (K 2)
def q8m:q3a:=z5u Ui Rk
abbrev q3b:=List Decl->(Int->Prop)->Prop
def z5v(Qm:Ju):q3b:=fun l K=>Fits l->Cnd (30<(↑l.length:Int)) (K 5) (Lp1 (fun Qc q0c=>Fits l->CAt l Qc (fun y3=>Qm y3.1 fun Ql=>Cnd (Ql=true) (At l Qc fun y6=>Qm y6.2 fun Ws=>Cnd (Ws=true) (At l Qc fun y9=>Cnd (y9.2=B8 [107,101,121]) (K 6) (At l Qc fun y11=>Cnd (y11.3<1) (K 7) (At l Qc fun y13=>Cnd (5<y13.3) (K 7) (Cnd (0<Qc) (At l Qc fun y15=>InI (Qc - 1)/\(0<=Qc - 1/\Qc - 1<(↑l.length:Int))/\∀y17,l[(Qc - 1).toNat]? =some y17->Cnd (Lk.blt y15.1 y17.1) (K 9) (At l Qc fun y19=>InI (Qc - 1)/\(0<=Qc - 1/\Qc - 1<(↑l.length:Int))/\∀y21,l[(Qc - 1).toNat]? =some y21->Cnd (y19.1=y21.1) (At l Qc fun y23=>InI (Qc - 1)/\(0<=Qc - 1/\Qc - 1<(↑l.length:Int))/\∀y25,l[(Qc - 1).toNat]? =some y25->Cnd (Lk.blt y25.2 y23.2) (InI (Qc+1)/\q0c (Qc+1)) (K 9)) (InI (Qc+1)/\q0c (Qc+1)))) (InI (Qc+1)/\q0c (Qc+1)))))) (K 6)) (K 6)) (K 0)) (0:Int))
def q8n:q3b:=z5v Rk
abbrev R0:=List BA->(Int->Prop)->Prop
def z8u(Qw:J0):R0:=fun l K=>Fits l->Cnd (40<(↑l.length:Int)) (K 5) (Lp1 (fun Qc q0c=>Fits l->CAt l Qc (fun y3=>Cnd (y3=B8 []) (K 2) (At l Qc fun y5=>Qw y5 fun Qn=>Cnd (Qn=true) (Cnd (0<Qc) (At l Qc fun y8=>InI (Qc - 1)/\(0<=Qc - 1/\Qc - 1<(↑l.length:Int))/\∀y10,l[(Qc - 1).toNat]? =some y10->Cnd (Lk.blt y10 y8) (InI (Qc+1)/\q0c (Qc+1)) (K 9)) (InI (Qc+1)/\q0c (Qc+1))) (K 2))) (K 0)) (0:Int))
def q60:R0:=z8u Ui
abbrev j5v:=Ex->(Bool->Prop)->Prop
def j5w:j5v:=fun e K=>Cnd (e.1=0) (Cnd (e.2=B8 []) (Cnd (e.3=B8 []) (Fits e.4->Cnd ((↑e.4.length:Int)=0) (Fits e.5->K (decide ((↑e.5.length:Int)=0))) (K false)) (K false)) (K false)) (K false)
abbrev z0i:=Ex->(Bool->Prop)->Prop
def j3n(Q0:W2):z0i:=fun e K=>Fits e.5->Fits e.4->Jn2 (fun Qf Zs=>Q0 e.1 fun Qg=>Cnd (Qf=true) (Cnd (Zs=true) (Cnd (Qg=true) (Cnd (Qg=true) (K true) (Cnd (e.1=5) (K true) (K (decide (e.3=B8 []))))) (Cnd (e.2=B8 []) (Cnd (Qg=true) (K true) (Cnd (e.1=5) (K true) (K (decide (e.3=B8 []))))) (K false))) (K false)) (K false)) fun v5r=>Cnd (e.1=2) (Fits e.5->v5r (decide (2<=(↑e.5.length:Int))) (decide ((↑e.4.length:Int)=0))) (Cnd (e.1=3) (Fits e.5->v5r (decide (2<=(↑e.5.length:Int))) (decide ((↑e.4.length:Int)=0))) (Cnd (e.1=4) (Fits e.5->v5r (decide ((↑e.5.length:Int)=1)) (decide ((↑e.4.length:Int)=0))) (Cnd (e.1=8) (Fits e.4->v5r (decide ((↑e.5.length:Int)=0)) (decide (0<(↑e.4.length:Int)))) (Q0 e.1 fun Qg=>Cnd (Qg=true) (Cnd (e.1=6) (v5r (decide ((↑e.5.length:Int)=0)) (decide ((↑e.4.length:Int)=0))) (Fits e.4->v5r (decide ((↑e.5.length:Int)=0)) (decide ((↑e.4.length:Int)=1)))) (v5r (decide ((↑e.5.length:Int)=0)) (decide ((↑e.4.length:Int)=0)))))))
def z5w:z0i:=j3n We
abbrev j08:=Val->(Bool->Prop)->Prop
def q9s:j08:=fun v K=>Cnd (v.1=1) (Cnd (v.1=3) (Cnd (v.1=5) (K true) (Fits v.4->K (decide ((↑v.4.length:Int)=0)))) (Cnd (v.1=4) (Cnd (v.1=5) (K true) (Fits v.4->K (decide ((↑v.4.length:Int)=0)))) (Cnd (v.3=B8 []) (Cnd (v.1=5) (K true) (Fits v.4->K (decide ((↑v.4.length:Int)=0)))) (K false)))) (Cnd (v.1=3) (Cnd (v.1=2) (Cnd (v.1=5) (K true) (Fits v.4->K (decide ((↑v.4.length:Int)=0)))) (Cnd (v.2=0) (Cnd (v.1=5) (K true) (Fits v.4->K (decide ((↑v.4.length:Int)=0)))) (K false))) (Cnd (v.1=2) (Cnd (v.1=4) (Cnd (v.1=5) (K true) (Fits v.4->K (decide ((↑v.4.length:Int)=0)))) (Cnd (v.3=B8 []) (Cnd (v.1=5) (K true) (Fits v.4->K (decide ((↑v.4.length:Int)=0)))) (K false))) (Cnd (v.2=0) (Cnd (v.1=4) (Cnd (v.1=5) (K true) (Fits v.4->K (decide ((↑v.4.length:Int)=0)))) (Cnd (v.3=B8 []) (Cnd (v.1=5) (K true) (Fits v.4->K (decide ((↑v.4.length:Int)=0)))) (K false))) (K false))))
abbrev q1g:=BA->(Int->Int->Prop)->Prop
def W6:q1g:=fun s K=>Jn1 (fun Qa=>Lp1 (fun Qc q0c=>Cnd (Qc<(↑Qa.size:Int)) ((0<=Qc/\Qc<(↑Qa.size:Int))/\∀b2,Qa[Qc.toNat]? =some b2->Cnd ((↑b2.toNat:Int)<48) (K 0 (1:Int)) ((0<=Qc/\Qc<(↑Qa.size:Int))/\∀b4,Qa[Qc.toNat]? =some b4->Cnd (57<(↑b4.toNat:Int)) (K 0 (1:Int)) (InI (Qc+1)/\q0c (Qc+1)))) (Cnd (Qa=B8 []) (K 0 (1:Int)) ((0<=(0:Int)/\0<(↑Qa.size:Int))/\∀b2,Qa[Int.toNat 0]? =some b2->Cnd ((↑b2.toNat:Int)=48) (Cnd (s=B8 [48]) (Cnd (13<(↑Qa.size:Int)) (K 0 (3:Int)) (Lp2 (fun Qe J2 v5t=>Cnd (J2<(↑Qa.size:Int)) (InI (10*Qe)/\(0<=J2/\J2<(↑Qa.size:Int))/\∀b5,Qa[J2.toNat]? =some b5->InI (IntKind.u8.wrap ((↑b5.toNat:Int) - 48))/\InI (10*Qe+IntKind.u8.wrap ((↑b5.toNat:Int) - 48))/\InI (J2+1)/\v5t (10*Qe+IntKind.u8.wrap ((↑b5.toNat:Int) - 48)) (J2+1)) (Cnd (1099511627776<Qe) (K 0 (3:Int)) (Cnd ((↑Qa.size:Int)<(↑s.size:Int)) (InI ((0:Int) - Qe)/\K ((0:Int) - Qe) (0:Int)) (K Qe (0:Int))))) (0:Int) (0:Int))) (K 0 (1:Int))) (Cnd (13<(↑Qa.size:Int)) (K 0 (3:Int)) (Lp2 (fun Qe J2 v5t=>Cnd (J2<(↑Qa.size:Int)) (InI (10*Qe)/\(0<=J2/\J2<(↑Qa.size:Int))/\∀b5,Qa[J2.toNat]? =some b5->InI (IntKind.u8.wrap ((↑b5.toNat:Int) - 48))/\InI (10*Qe+IntKind.u8.wrap ((↑b5.toNat:Int) - 48))/\InI (J2+1)/\v5t (10*Qe+IntKind.u8.wrap ((↑b5.toNat:Int) - 48)) (J2+1)) (Cnd (1099511627776<Qe) (K 0 (3:Int)) (Cnd ((↑Qa.size:Int)<(↑s.size:Int)) (InI ((0:Int) - Qe)/\K ((0:Int) - Qe) (0:Int)) (K Qe (0:Int))))) (0:Int) (0:Int)))))) (0:Int)) fun q0r=>Cnd (0<(↑s.size:Int)) ((0<=(0:Int)/\0<(↑s.size:Int))/\∀b1,s[Int.toNat 0]? =some b1->Cnd ((↑b1.toNat:Int)=45) ((0<=(1:Int)/\1<=(↑s.size:Int)/\(↑s.size:Int)<=(↑s.size:Int))/\q0r (s.extract (Int.toNat 1) (↑s.size:Int).toNat)) (q0r s)) (q0r s)
abbrev q5b:=BA->(A3->Bool->Prop)->Prop
def j09(H9:q1g):q5b:=fun s K=>LpH (fun (Qa:Int×Int×Int×Int×Int×Int×Int×Int×Unit) Bj=>Cnd (Qa.2.1<3) (Lp1 (fun Qc q0c=>Cnd (Qc<(↑s.size:Int)) ((0<=Qc/\Qc<(↑s.size:Int))/\∀b2,s[Qc.toNat]? =some b2->Cnd ((↑b2.toNat:Int)=46) ((0<=Qa.1/\Qa.1<=Qc/\Qc<=(↑s.size:Int))/\H9 (s.extract Qa.1.toNat Qc.toNat) fun Qe J2=>Cnd (J2=0) (Cnd (Qe<0) (K ((0:Int),(0:Int),(0:Int)) false) (Cnd (999999<Qe) (K ((0:Int),(0:Int),(0:Int)) false) (Cnd (decide (Qa.2.1<2)=decide (Qc<(↑s.size:Int))) ((0<=Qa.2.1/\Qa.2.1<(↑(3:Nat):Int))/\((True/\(Qa.2.1=(↑(nat_lit 0):Int)->InI (Qc+1)/\InI (Qa.2.1+1)/\Bj (Qc+1,Qa.2.1+1,Qe,Qa.2.2.2.1,Qa.2.2.2.2.1,Qa.2.2.2.2.2.1,Qa.2.2.2.2.2.2.1,Qa.2.2.2.2.2.2.2.1,())))/\(Qa.2.1=(↑(nat_lit 1):Int)->InI (Qc+1)/\InI (Qa.2.1+1)/\Bj (Qc+1,Qa.2.1+1,Qa.2.2.1,Qe,Qa.2.2.2.2.1,Qa.2.2.2.2.2.1,Qa.2.2.2.2.2.2.1,Qa.2.2.2.2.2.2.2.1,())))/\(Qa.2.1=(↑(nat_lit 2):Int)->InI (Qc+1)/\InI (Qa.2.1+1)/\Bj (Qc+1,Qa.2.1+1,Qa.2.2.1,Qa.2.2.2.1,Qe,Qa.2.2.2.2.2.1,Qa.2.2.2.2.2.2.1,Qa.2.2.2.2.2.2.2.1,()))) (K ((0:Int),(0:Int),(0:Int)) false)))) (K ((0:Int),(0:Int),(0:Int)) false)) (InI (Qc+1)/\q0c (Qc+1))) ((0<=Qa.1/\Qa.1<=Qc/\Qc<=(↑s.size:Int))/\H9 (s.extract Qa.1.toNat Qc.toNat) fun Qf Zs=>Cnd (Zs=0) (Cnd (Qf<0) (K ((0:Int),(0:Int),(0:Int)) false) (Cnd (999999<Qf) (K ((0:Int),(0:Int),(0:Int)) false) (Cnd (decide (Qa.2.1<2)=decide (Qc<(↑s.size:Int))) ((0<=Qa.2.1/\Qa.2.1<(↑(3:Nat):Int))/\((True/\(Qa.2.1=(↑(nat_lit 0):Int)->InI (Qc+1)/\InI (Qa.2.1+1)/\Bj (Qc+1,Qa.2.1+1,Qf,Qa.2.2.2.1,Qa.2.2.2.2.1,Qa.2.2.2.2.2.1,Qa.2.2.2.2.2.2.1,Qa.2.2.2.2.2.2.2.1,())))/\(Qa.2.1=(↑(nat_lit 1):Int)->InI (Qc+1)/\InI (Qa.2.1+1)/\Bj (Qc+1,Qa.2.1+1,Qa.2.2.1,Qf,Qa.2.2.2.2.1,Qa.2.2.2.2.2.1,Qa.2.2.2.2.2.2.1,Qa.2.2.2.2.2.2.2.1,())))/\(Qa.2.1=(↑(nat_lit 2):Int)->InI (Qc+1)/\InI (Qa.2.1+1)/\Bj (Qc+1,Qa.2.1+1,Qa.2.2.1,Qa.2.2.2.1,Qf,Qa.2.2.2.2.2.1,Qa.2.2.2.2.2.2.1,Qa.2.2.2.2.2.2.2.1,()))) (K ((0:Int),(0:Int),(0:Int)) false)))) (K ((0:Int),(0:Int),(0:Int)) false))) Qa.1) (K (Qa.2.2.1,Qa.2.2.2.1,Qa.2.2.2.2.1) true)) ((0:Int),(0:Int),(0:Int),(0:Int),(0:Int),(0:Int),(0:Int),(0:Int),())
def q5c:q5b:=j09 W6
abbrev z8v:=List BA->(Int->Prop)->Prop
def j5x(Qw:J0):z8v:=fun l K=>Fits l->Cnd (20<(↑l.length:Int)) (K 5) (Lp1 (fun Qc q0c=>Fits l->CAt l Qc (fun y3=>Qw y3 fun Ql=>Cnd (Ql=true) (InI (Qc+1)/\q0c (Qc+1)) (K 2)) (Lp1 (fun Qg j4z=>Fits l->CAt l Qg (fun y5=>InI (Qg - 1)/\(0<=Qg - 1/\Qg - 1<(↑l.length:Int))/\∀y7,l[(Qg - 1).toNat]? =some y7->Cnd (Lk.blt y7 y5) (InI (Qg+1)/\j4z (Qg+1)) (K 9)) (K 0)) (1:Int))) (0:Int))
def z4g:z8v:=j5x Ui
abbrev Bu:=Val->(Int->Prop)->Prop
def j1a(j12:j08)(Qw:J0)(Rg:q5b)(j7h:z8v):Bu:=fun v K=>Cnd (v.1<1) (K 7) (Cnd (5<v.1) (K 7) (j12 v fun Qa=>Cnd (Qa=true) (Cnd (v.1=1) (Cnd (v.2=0) (K 0) (Cnd (v.2=1) (K 0) (K 3))) (Cnd (v.1=2) (Cnd (v.2<(-1099511627776:Int)) (K 3) (Cnd (1099511627776<v.2) (K 3) (K 0))) (Cnd (v.1=3) (Qw v.3 fun Qc=>Cnd (Qc=true) (K 0) (K 2)) (Cnd (v.1=4) (Rg v.3 fun (Qc:Int×Int×Int) Z9=>Cnd (Z9=true) (K 0) (K 1)) (Cnd (v.1=5) (j7h v.4 fun Qc=>K Qc) (K 0)))))) (K 15)))
def q2o:Bu:=j1a q9s Ui q5c z4g
abbrev z8w:=Ex->(Int->Prop)->Prop
def w37(z7l:z0i)(Q0:W2)(Qm:Ju)(Jb:Bu):z8w:=fun e K=>Cnd (e.1<1) (K 7) (Cnd (15<e.1) (K 7) (z7l (Ex.mk e.1 e.2 e.3 e.4 e.5) fun Qa=>Cnd (Qa=true) (Fits e.5->Cnd (12<(↑e.5.length:Int)) (K 5) (Fits e.4->Cnd (20<(↑e.4.length:Int)) (K 5) (Lp1 (fun Qg j4z=>Fits e.5->CAt e.5 Qg (fun y5=>Cnd (y5.1=e.1) (Cnd (e.1=4) (InI (Qg+1)/\j4z (Qg+1)) (K 15)) (InI (Qg+1)/\j4z (Qg+1))) (Q0 e.1 fun Ql=>Cnd (Ql=true) (Qm e.2 fun Zx=>Cnd (Zx=true) (Q0 e.1 fun Qn=>Cnd (Qn=true) (Qm e.3 fun Ws=>Cnd (Ws=true) (Lp1 (fun Qp u0x=>Fits e.4->CAt e.4 Qp (fun y11=>Jb y11 fun Zb=>Cnd (Zb=0) (InI (Qp+1)/\u0x (Qp+1)) (K Zb)) (Cnd (e.1=9) ((0<=(0:Int)/\0<(↑e.4.length:Int))/\∀y11,e.4[Int.toNat 0]? =some y11->Cnd (y11.1=3) (K 0) (K 8)) (Cnd (e.1=10) ((0<=(0:Int)/\0<(↑e.4.length:Int))/\∀y11,e.4[Int.toNat 0]? =some y11->Cnd (y11.1=3) (K 0) (K 8)) (Cnd (e.1=11) ((0<=(0:Int)/\0<(↑e.4.length:Int))/\∀y11,e.4[Int.toNat 0]? =some y11->Cnd (y11.1=3) (K 0) (K 8)) (K 0))))) (0:Int)) (K 6)) (Cnd (e.1=5) (Qm e.3 fun Ws=>Cnd (Ws=true) (Lp1 (fun Qp u0x=>Fits e.4->CAt e.4 Qp (fun y11=>Jb y11 fun Zb=>Cnd (Zb=0) (InI (Qp+1)/\u0x (Qp+1)) (K Zb)) (Cnd (e.1=9) ((0<=(0:Int)/\0<(↑e.4.length:Int))/\∀y11,e.4[Int.toNat 0]? =some y11->Cnd (y11.1=3) (K 0) (K 8)) (Cnd (e.1=10) ((0<=(0:Int)/\0<(↑e.4.length:Int))/\∀y11,e.4[Int.toNat 0]? =some y11->Cnd (y11.1=3) (K 0) (K 8)) (Cnd (e.1=11) ((0<=(0:Int)/\0<(↑e.4.length:Int))/\∀y11,e.4[Int.toNat 0]? =some y11->Cnd (y11.1=3) (K 0) (K 8)) (K 0))))) (0:Int)) (K 6)) (Lp1 (fun Ws u7k=>Fits e.4->CAt e.4 Ws (fun y10=>Jb y10 fun Zp=>Cnd (Zp=0) (InI (Ws+1)/\u7k (Ws+1)) (K Zp)) (Cnd (e.1=9) ((0<=(0:Int)/\0<(↑e.4.length:Int))/\∀y10,e.4[Int.toNat 0]? =some y10->Cnd (y10.1=3) (K 0) (K 8)) (Cnd (e.1=10) ((0<=(0:Int)/\0<(↑e.4.length:Int))/\∀y10,e.4[Int.toNat 0]? =some y10->Cnd (y10.1=3) (K 0) (K 8)) (Cnd (e.1=11) ((0<=(0:Int)/\0<(↑e.4.length:Int))/\∀y10,e.4[Int.toNat 0]? =some y10->Cnd (y10.1=3) (K 0) (K 8)) (K 0))))) (0:Int)))) (K 6)) (Q0 e.1 fun Zx=>Cnd (Zx=true) (Qm e.3 fun Qn=>Cnd (Qn=true) (Lp1 (fun Ws u7k=>Fits e.4->CAt e.4 Ws (fun y10=>Jb y10 fun Zp=>Cnd (Zp=0) (InI (Ws+1)/\u7k (Ws+1)) (K Zp)) (Cnd (e.1=9) ((0<=(0:Int)/\0<(↑e.4.length:Int))/\∀y10,e.4[Int.toNat 0]? =some y10->Cnd (y10.1=3) (K 0) (K 8)) (Cnd (e.1=10) ((0<=(0:Int)/\0<(↑e.4.length:Int))/\∀y10,e.4[Int.toNat 0]? =some y10->Cnd (y10.1=3) (K 0) (K 8)) (Cnd (e.1=11) ((0<=(0:Int)/\0<(↑e.4.length:Int))/\∀y10,e.4[Int.toNat 0]? =some y10->Cnd (y10.1=3) (K 0) (K 8)) (K 0))))) (0:Int)) (K 6)) (Cnd (e.1=5) (Qm e.3 fun Qn=>Cnd (Qn=true) (Lp1 (fun Ws u7k=>Fits e.4->CAt e.4 Ws (fun y10=>Jb y10 fun Zp=>Cnd (Zp=0) (InI (Ws+1)/\u7k (Ws+1)) (K Zp)) (Cnd (e.1=9) ((0<=(0:Int)/\0<(↑e.4.length:Int))/\∀y10,e.4[Int.toNat 0]? =some y10->Cnd (y10.1=3) (K 0) (K 8)) (Cnd (e.1=10) ((0<=(0:Int)/\0<(↑e.4.length:Int))/\∀y10,e.4[Int.toNat 0]? =some y10->Cnd (y10.1=3) (K 0) (K 8)) (Cnd (e.1=11) ((0<=(0:Int)/\0<(↑e.4.length:Int))/\∀y10,e.4[Int.toNat 0]? =some y10->Cnd (y10.1=3) (K 0) (K 8)) (K 0))))) (0:Int)) (K 6)) (Lp1 (fun Qn v18=>Fits e.4->CAt e.4 Qn (fun y9=>Jb y9 fun Wp=>Cnd (Wp=0) (InI (Qn+1)/\v18 (Qn+1)) (K Wp)) (Cnd (e.1=9) ((0<=(0:Int)/\0<(↑e.4.length:Int))/\∀y9,e.4[Int.toNat 0]? =some y9->Cnd (y9.1=3) (K 0) (K 8)) (Cnd (e.1=10) ((0<=(0:Int)/\0<(↑e.4.length:Int))/\∀y9,e.4[Int.toNat 0]? =some y9->Cnd (y9.1=3) (K 0) (K 8)) (Cnd (e.1=11) ((0<=(0:Int)/\0<(↑e.4.length:Int))/\∀y9,e.4[Int.toNat 0]? =some y9->Cnd (y9.1=3) (K 0) (K 8)) (K 0))))) (0:Int)))))) (0:Int)))) (K 15)))
def z4h:z8w:=w37 z5w We Rk q2o
abbrev q61:=Ex->Int->Int->(Int->Int->Prop)->Prop
def w38(j7i:z8w)(X:q61):q61:=fun e depth n K=>Cnd (60<=n) (K 5 n) (InI (n+1)/\Cnd (10<depth) (K 18 (n+1)) (j7i (Ex.mk e.1 e.2 e.3 e.4 e.5) fun Qa=>Cnd (Qa=0) (Lp2 (fun Qc Z9 j0n=>Fits e.5->CAt e.5 Qc (fun y3=>InI (depth+1)/\X (Ex.mk y3.1 y3.2 y3.3 y3.4 y3.5) (depth+1) Z9 fun Ql q8e=>Cnd (Ql=0) (InI (Qc+1)/\j0n (Qc+1) q8e) (K Ql q8e)) (K 0 Z9)) (0:Int) (n+1)) (K Qa (n+1))))
def j5y:q61:=fun e depth n K=> ∀X:q61,(∀e depth n K,w38 z4h X e depth n K->X e depth n K)->X e depth n K
abbrev q3c:=Ex->(Int->Prop)->Prop
def w39(j7j:q61):q3c:=fun e K=>j7j (Ex.mk e.1 e.2 e.3 e.4 e.5) (1:Int) (0:Int) fun Qa _=>K Qa
def z4i:q3c:=w39 j5y
abbrev q62:=Seg->(Int->Prop)->Prop
def z8x(Qm:Ju)(Vw:R0)(j7k:j5v)(Uz:q3c):q62:=fun g K=>Qm g.1 fun Qa=>Cnd (Qa=true) (Qm g.2 fun Qc=>Cnd (Qc=true) (Vw g.3 fun Qf=>Cnd (Qf=0) (Vw g.4 fun Qg=>Cnd (Qg=0) (j7k (Ex.mk g.5.1 g.5.2 g.5.3 g.5.4 g.5.5) fun Qe=>Cnd (Qe=true) (K 0) (Uz (Ex.mk g.5.1 g.5.2 g.5.3 g.5.4 g.5.5) fun Ql=>K Ql)) (K Qg)) (K Qf)) (K 6)) (K 6)
def z1x:q62:=z8x Rk q60 j5w z4i
abbrev q3d:=List Seg->(Int->Prop)->Prop
def z5x(z2s:q62):q3d:=fun l K=>Fits l->Cnd (20<(↑l.length:Int)) (K 5) (Lp1 (fun Qc q0c=>Fits l->CAt l Qc (fun y3=>z2s (Seg.mk y3.1 y3.2 y3.3 y3.4 (Ex.mk y3.5.1 y3.5.2 y3.5.3 y3.5.4 y3.5.5)) fun Ql=>Cnd (Ql=0) (Cnd (0<Qc) (At l Qc fun y6=>InI (Qc - 1)/\(0<=Qc - 1/\Qc - 1<(↑l.length:Int))/\∀y8,l[(Qc - 1).toNat]? =some y8->Cnd (Lk.blt y8.1 y6.1) (InI (Qc+1)/\q0c (Qc+1)) (K 9)) (InI (Qc+1)/\q0c (Qc+1))) (K Ql)) (K 0)) (0:Int))
def q8o:q3d:=z5x z1x
abbrev R1:=Flg->(Int->Prop)->Prop
def z0j(Jb:Bu):R1:=fun f K=>Fits f.3->Cnd (8<(↑f.3.length:Int)) (K 5) (Cnd ((↑f.3.length:Int)=0) (K 3) (Lp1 (fun Qc q0c=>CAt f.3 Qc (fun y2=>Jb y2 fun Qe=>Cnd (Qe=0) (At f.3 Qc fun y5=>Cnd (y5.1=f.2) (InI (Qc+1)/\q0c (Qc+1)) (K 8)) (K Qe)) (Cnd (f.5<1) (K 3) (Cnd ((↑f.3.length:Int)<f.5) (K 3) (K 0)))) (0:Int)))
def q3e:R1:=z0j q2o
abbrev Ur:=List Prq->(Int->Prop)->Prop
def q3f(Qm:Ju):Ur:=fun l K=>Fits l->Cnd (4<(↑l.length:Int)) (K 5) (Lp1 (fun Qc q0c=>Fits l->CAt l Qc (fun y3=>Qm y3.1 fun Ql=>Cnd (Ql=true) (Cnd (0<Qc) (At l Qc fun y6=>InI (Qc - 1)/\(0<=Qc - 1/\Qc - 1<(↑l.length:Int))/\∀y8,l[(Qc - 1).toNat]? =some y8->Cnd (Lk.blt y8.1 y6.1) (At l Qc fun y10=>Cnd (y10.2<1) (K 3) (At l Qc fun y12=>Cnd (8<y12.2) (K 3) (InI (Qc+1)/\q0c (Qc+1)))) (K 9)) (At l Qc fun y6=>Cnd (y6.2<1) (K 3) (At l Qc fun y8=>Cnd (8<y8.2) (K 3) (InI (Qc+1)/\q0c (Qc+1))))) (K 6)) (K 0)) (0:Int))
def Rl:Ur:=q3f Rk
abbrev q63:=List Tgt->Int->(Int->Prop)->Prop
def z8y(Qm:Ju)(Vw:R0):q63:=fun l n K=>Fits l->Cnd (8<(↑l.length:Int)) (K 5) (Lp1 (fun Qc q0c=>Fits l->CAt l Qc (fun y3=>Qm y3.1 fun Ql=>Cnd (Ql=true) (At l Qc fun y6=>Cnd (y6.2<1) (K 3) (At l Qc fun y8=>Cnd (n<y8.2) (K 3) (At l Qc fun y10=>Fits y10.3->Cnd ((↑y10.3.length:Int)=0) (K 3) (At l Qc fun y13=>Vw y13.3 fun w74=>Cnd (w74=0) (InI (Qc+1)/\q0c (Qc+1)) (K w74))))) (K 6)) (K 0)) (0:Int))
def z1y:q63:=z8y Rk q60
abbrev q9t:=List Rng->Int->(Int->Prop)->Prop
def z4j:q9t:=fun l variations K=>Fits l->Cnd (16<(↑l.length:Int)) (K 5) (Lp2 (fun Qc Z9 j0n=>Fits l->CAt l Z9 (fun y3=>Cnd (y3.3<1) (K 3) (At l Z9 fun y5=>Cnd (variations<y5.3) (K 3) (At l Z9 fun y7=>Cnd (y7.1=Qc) (At l Z9 fun y9=>Cnd (y9.2<=Qc) (K 9) (Cnd (0<Z9) (At l Z9 fun y11=>InI (Z9 - 1)/\(0<=Z9 - 1/\Z9 - 1<(↑l.length:Int))/\∀y13,l[(Z9 - 1).toNat]? =some y13->Cnd (y11.3=y13.3) (K 9) (At l Z9 fun y15=>InI (Z9+1)/\j0n y15.2 (Z9+1))) (At l Z9 fun y11=>InI (Z9+1)/\j0n y11.2 (Z9+1)))) (K 9)))) (Cnd (Qc=10000) (K 0) (K 3))) (0:Int) (0:Int))
abbrev q5d:=Srv->Int->(Int->Prop)->Prop
def j8b(Qm:Ju)(Qw:J0)(q0d:q9t):q5d:=fun v variations K=>Cnd (v.1=0) (Qm v.2 fun Qa=>Cnd (Qa=true) (Qm v.3 fun Qc=>Cnd (Qc=true) (Qw v.4 fun Qf=>Cnd (Qf=true) (q0d v.5 variations fun Qg=>K Qg) (K 2)) (K 6)) (K 6)) (Cnd (v.1<1) (K 3) (Cnd (variations<v.1) (K 3) (Cnd (v.2=B8 []) (Cnd (v.3=B8 []) (Cnd (v.4=B8 []) (Fits v.5->Cnd (0<(↑v.5.length:Int)) (K 15) (K 0)) (K 15)) (K 15)) (K 15))))
def z4k:q5d:=j8b Rk Ui z4j
abbrev z4l:=List Rul->Int->(Int->Prop)->Prop
def j8c(Qm:Ju)(Uz:q3c)(q0e:q5d):z4l:=fun l n K=>Fits l->Cnd (12<(↑l.length:Int)) (K 5) (Lp1 (fun Qc q0c=>Fits l->CAt l Qc (fun y3=>Qm y3.1 fun Ql=>Cnd (Ql=true) (Lp1 (fun Zx y3o=>Cnd (Zx<Qc) (At l Zx fun y7=>At l Qc fun y9=>Cnd (y7.1=y9.1) (K 10) (InI (Zx+1)/\y3o (Zx+1))) (At l Qc fun y7=>Uz (Ex.mk y7.2.1 y7.2.2 y7.2.3 y7.2.4 y7.2.5) fun Qp=>Cnd (Qp=0) (At l Qc fun y10=>q0e (Srv.mk y10.3.1 y10.3.2 y10.3.3 y10.3.4 y10.3.5) n fun Zp=>Cnd (Zp=0) (InI (Qc+1)/\q0c (Qc+1)) (K Zp)) (K Qp))) (0:Int)) (K 6)) (K 0)) (0:Int))
def j1b:z4l:=j8c Rk z4i z4k
abbrev z8z:=Flg->(Int->Prop)->Prop
def w4a(Qm:Ju)(q4w:R1)(Rs:Ur)(z2t:q63)(j13:z4l)(q0e:q5d):z8z:=fun f K=>Fits f.3->Qm f.1 fun Qc=>Cnd (Qc=true) (Cnd (f.2<1) (K 7) (Cnd (5<f.2) (K 7) (q4w (Flg.mk f.1 f.2 f.3 f.4 f.5 f.6 f.7 f.8 (Srv.mk f.9.1 f.9.2 f.9.3 f.9.4 f.9.5)) fun Qf=>Cnd (Qf=0) (Rs f.6 fun Qg=>Cnd (Qg=0) (z2t f.7 (↑f.3.length:Int) fun Qe=>Cnd (Qe=0) (j13 f.8 (↑f.3.length:Int) fun Ql=>Cnd (Ql=0) (q0e (Srv.mk f.9.1 f.9.2 f.9.3 f.9.4 f.9.5) (↑f.3.length:Int) fun Zx=>K Zx) (K Ql)) (K Qe)) (K Qg)) (K Qf)))) (K 6)
def j5z:z8z:=w4a Rk q3e Rl z1y j1b z4k
abbrev z4m:=List Flg->(Int->Prop)->Prop
def j8d(j7l:z8z):z4m:=fun l K=>Fits l->Cnd (30<(↑l.length:Int)) (K 5) (Lp1 (fun Qc q0c=>Fits l->CAt l Qc (fun y3=>j7l (Flg.mk y3.1 y3.2 y3.3 y3.4 y3.5 y3.6 y3.7 y3.8 (Srv.mk y3.9.1 y3.9.2 y3.9.3 y3.9.4 y3.9.5)) fun Ql=>Cnd (Ql=0) (Cnd (0<Qc) (At l Qc fun y6=>InI (Qc - 1)/\(0<=Qc - 1/\Qc - 1<(↑l.length:Int))/\∀y8,l[(Qc - 1).toNat]? =some y8->Cnd (Lk.blt y8.1 y6.1) (InI (Qc+1)/\q0c (Qc+1)) (K 9)) (InI (Qc+1)/\q0c (Qc+1))) (K Ql)) (K 0)) (0:Int))
def j1c:z4m:=j8d j5z
abbrev z4n:=Lay_->(Int->Prop)->Prop
def j8e(Qm:Ju)(Qw:J0):z4n:=fun l K=>Qm l.1 fun Qa=>Cnd (Qa=true) (Qm l.2 fun Qc=>Cnd (Qc=true) (Qw l.3 fun Qf=>Cnd (Qf=true) (Cnd (l.4<0) (K 3) (Cnd (10000<l.4) (K 3) (Cnd (l.5<0) (K 3) (Cnd (1099511627776<l.5) (K 3) (Fits l.6->Cnd (32<(↑l.6.length:Int)) (K 5) (Lp1 (fun Qe v2c=>Fits l.6->CAt l.6 Qe (fun y6=>Cnd (y6.1<0) (K 3) (Cnd (y6.2<=y6.1) (K 3) (Cnd (10000<y6.2) (K 3) (Cnd (y6.3<0) (K 3) (Cnd (1099511627776<y6.3) (K 3) (Cnd (0<Qe) (InI (Qe - 1)/\(0<=Qe - 1/\Qe - 1<(↑l.6.length:Int))/\∀y8,l.6[(Qe - 1).toNat]? =some y8->Cnd (y6.1<y8.2) (K 9) (InI (Qe+1)/\v2c (Qe+1))) (InI (Qe+1)/\v2c (Qe+1)))))))) (K 0)) (0:Int))))))) (K 2)) (K 6)) (K 6)
def j1d:z4n:=j8e Rk Ui
abbrev z0k:=List Lay_->(Int->Prop)->Prop
def j3o(j14:z4n):z0k:=fun l K=>Fits l->Cnd (6<(↑l.length:Int)) (K 5) (Lp1 (fun Qc q0c=>Fits l->CAt l Qc (fun y3=>j14 y3 fun Ql=>Cnd (Ql=0) (Cnd (0<Qc) (At l Qc fun y6=>InI (Qc - 1)/\(0<=Qc - 1/\Qc - 1<(↑l.length:Int))/\∀y8,l[(Qc - 1).toNat]? =some y8->Cnd (Lk.blt y8.1 y6.1) (InI (Qc+1)/\q0c (Qc+1)) (K 9)) (InI (Qc+1)/\q0c (Qc+1))) (K Ql)) (K 0)) (0:Int))
def z5y:z0k:=j3o j1d
abbrev j1e:=List Spn->(Int->Prop)->Prop
def j1f:j1e:=fun l K=>Fits l->Cnd (16<(↑l.length:Int)) (K 5) (Lp1 (fun Qc q0c=>Fits l->CAt l Qc (fun y3=>Cnd (y3.1<0) (K 3) (At l Qc fun y5=>At l Qc fun y7=>Cnd (y7.2<=y5.1) (K 3) (At l Qc fun y9=>Cnd (10000<y9.2) (K 3) (Cnd (0<Qc) (At l Qc fun y11=>InI (Qc - 1)/\(0<=Qc - 1/\Qc - 1<(↑l.length:Int))/\∀y13,l[(Qc - 1).toNat]? =some y13->Cnd (y11.1<=y13.2) (K 9) (InI (Qc+1)/\q0c (Qc+1))) (InI (Qc+1)/\q0c (Qc+1)))))) (K 0)) (0:Int))
abbrev R2:=Exper->(Int->Prop)->Prop
def z0l(Qm:Ju)(Qw:J0)(j15:j1e)(q0d:q9t)(Uz:q3c):R2:=fun x K=>Qm x.1 fun Qa=>Cnd (Qa=true) (Qm x.2 fun Qc=>Cnd (Qc=true) (Qm x.3 fun Qf=>Cnd (Qf=true) (Qw x.4 fun Qg=>Cnd (Qg=true) (Cnd (x.5<1) (K 7) (Cnd (3<x.5) (K 7) (j15 x.6 fun Qe=>Cnd (Qe=0) (q0d x.7 (8:Int) fun Ql=>Cnd (Ql=0) (Uz (Ex.mk x.8.1 x.8.2 x.8.3 x.8.4 x.8.5) fun Zx=>K Zx) (K Ql)) (K Qe)))) (K 2)) (K 6)) (K 6)) (K 6)
def q3g:R2:=z0l Rk Ui j1f z4j z4i
abbrev Hy:=List Exper->(Int->Prop)->Prop
def q7u(q4x:R2):Hy:=fun l K=>Fits l->Cnd (16<(↑l.length:Int)) (K 5) (Lp1 (fun Qc q0c=>Fits l->CAt l Qc (fun y3=>q4x (Exper.mk y3.1 y3.2 y3.3 y3.4 y3.5 y3.6 y3.7 (Ex.mk y3.8.1 y3.8.2 y3.8.3 y3.8.4 y3.8.5)) fun Ql=>Cnd (Ql=0) (Cnd (0<Qc) (At l Qc fun y6=>InI (Qc - 1)/\(0<=Qc - 1/\Qc - 1<(↑l.length:Int))/\∀y8,l[(Qc - 1).toNat]? =some y8->Cnd (Lk.blt y8.1 y6.1) (InI (Qc+1)/\q0c (Qc+1)) (K 9)) (InI (Qc+1)/\q0c (Qc+1))) (K Ql)) (K 0)) (0:Int))
def q1h:Hy:=q7u q3g
abbrev Hz:=Envt->(Int->Prop)->Prop
def q7v(q9c:q3a)(q9d:q3b)(q9e:q3d)(j16:z4m)(z7m:z0k)(q1s:Hy):Hz:=fun v K=>q9c (Sett.mk v.1.1 v.1.2 v.1.3) fun Qa=>Cnd (Qa=0) (q9d v.2 fun Qc=>Cnd (Qc=0) (q9e v.3 fun Qf=>Cnd (Qf=0) (j16 v.4 fun Qg=>Cnd (Qg=0) (z7m v.5 fun Qe=>Cnd (Qe=0) (q1s v.6 fun Ql=>K Ql) (K Qe)) (K Qg)) (K Qf)) (K Qc)) (K Qa)
def q1i:Hz:=q7v q8m q8n q8o j1c z5y q1h
abbrev Re:=List Seg->(List BA->Prop)->Prop
def q9u:Re:=fun l K=>Lp2 (fun Qa Qv q47=>Fits l->CAt l Qv (fun y2=>Sml (Qa++[y2.1]).length/\InI (Qv+1)/\q47 (Qa++[y2.1]) (Qv+1)) (K Qa)) [] (0:Int)
abbrev Wv:=List BA->BA->(Bool->Prop)->Prop
def U6:Wv:=fun l s K=>Lp1 (fun Qa Bj=>Fits l->CAt l Qa (fun y2=>Cnd (y2=s) (K true) (InI (Qa+1)/\Bj (Qa+1))) (K false)) (0:Int)
abbrev z4o:=List Decl->BA->BA->(Int->Prop)->Prop
def q64:z4o:=fun l kind name K=>Lp1 (fun Qa Bj=>Fits l->CAt l Qa (fun y2=>Cnd (y2.1=kind) (At l Qa fun y4=>Cnd (y4.2=name) (At l Qa fun y6=>K y6.3) (InI (Qa+1)/\Bj (Qa+1))) (InI (Qa+1)/\Bj (Qa+1))) (Cnd (name=B8 [107,101,121]) (K 3) (K 0))) (0:Int)
abbrev j50:=Int->Ex->(Bool->Prop)->Prop
def z0m:j50:=fun t e K=>Cnd (e.1=6) (K true) (Cnd (e.1=8) (Lp1 (fun Qa Bj=>Fits e.4->CAt e.4 Qa (fun y2=>Cnd (y2.1=t) (InI (Qa+1)/\Bj (Qa+1)) (K false)) (K (match decide ((t,e,()).1=5) with|true=>false|false=>true))) (0:Int)) (Fits e.4->Cnd ((↑e.4.length:Int)=0) (K false) ((0<=(0:Int)/\0<(↑e.4.length:Int))/\∀y1,e.4[Int.toNat 0]? =some y1->Cnd (e.1=7) (K (decide (y1.1=t))) (Jn1 (fun Qg=>Cnd (Qg=true) (Cnd (t=3) (K (decide (y1.1=3))) (K false)) (Cnd (e.1=11) (Cnd (t=3) (K (decide (y1.1=3))) (Cnd (t=5) (K (decide (y1.1=3))) (K false))) (Cnd (t=2) (K (decide (y1.1=t))) (Cnd (t=3) (K (decide (y1.1=t))) (Cnd (t=4) (K (decide (y1.1=t))) (K false)))))) fun y73=>Cnd (e.1=9) (y73 (decide (e.1=9))) (y73 (decide (e.1=10)))))))
abbrev H0:=List Decl->List BA->Ex->(Int->Prop)->Prop
def w4b(Qx:Wv)(Q0:W2)(q09:z4o)(j0o:j50)(X:H0):H0:=fun l segments e K=>Cnd (e.1=5) (Qx segments e.3 fun Qa=>Cnd (Qa=true) (Jn0 (Lp1 (fun Qc q0c=>Fits e.5->CAt e.5 Qc (fun y3=>X l segments (Ex.mk y3.1 y3.2 y3.3 y3.4 y3.5) fun Ql=>Cnd (Ql=0) (InI (Qc+1)/\q0c (Qc+1)) (K Ql)) (K 0)) (0:Int)) fun Qc=>Q0 e.1 fun Qf=>Cnd (Qf=true) (q09 l e.2 e.3 fun Qg=>Cnd (Qg=0) (K 11) (j0o Qg (Ex.mk e.1 e.2 e.3 e.4 e.5) fun Qe=>Cnd (Qe=true) Qc (K 8))) Qc) (K 11)) (Jn0 (Lp1 (fun Qa Bj=>Fits e.5->CAt e.5 Qa (fun y2=>X l segments (Ex.mk y2.1 y2.2 y2.3 y2.4 y2.5) fun Qe=>Cnd (Qe=0) (InI (Qa+1)/\Bj (Qa+1)) (K Qe)) (K 0)) (0:Int)) fun Qa=>Q0 e.1 fun Qc=>Cnd (Qc=true) (q09 l e.2 e.3 fun Qf=>Cnd (Qf=0) (K 11) (j0o Qf (Ex.mk e.1 e.2 e.3 e.4 e.5) fun Qg=>Cnd (Qg=true) Qa (K 8))) Qa)
def z4p:H0:=fun l segments e K=> ∀X:H0,(∀l segments e K,w4b U6 We q64 z0m X l segments e K->X l segments e K)->X l segments e K
abbrev q54:=List BA->BA->(List BA->Prop)->Prop
def q8p:q54:=fun l s K=>Lp1 (fun Qa Bj=>Fits l->CAt l Qa (fun y2=>Cnd (Lk.blt y2 s) (InI (Qa+1)/\Bj (Qa+1)) (Fits l->CAt l Qa (fun y5=>Cnd (y5=s) (K l) ((0<=(0:Int)/\0<=Qa/\Qa<=(↑l.length:Int))/\Sml ([]++List.drop (Int.toNat 0) (List.take Qa.toNat l)).length/\(0<=Qa/\Qa<=(↑l.length:Int)/\(↑l.length:Int)<=(↑l.length:Int))/\Sml ([]++List.drop (Int.toNat 0) (List.take Qa.toNat l)++[s]).length/\Sml ([]++List.drop (Int.toNat 0) (List.take Qa.toNat l)++[s]++List.drop Qa.toNat (List.take (↑l.length:Int).toNat l)).length/\K ([]++List.drop (Int.toNat 0) (List.take Qa.toNat l)++[s]++List.drop Qa.toNat (List.take (↑l.length:Int).toNat l)))) ((0<=(0:Int)/\0<=Qa/\Qa<=(↑l.length:Int))/\Sml ([]++List.drop (Int.toNat 0) (List.take Qa.toNat l)).length/\(0<=Qa/\Qa<=(↑l.length:Int)/\(↑l.length:Int)<=(↑l.length:Int))/\Sml ([]++List.drop (Int.toNat 0) (List.take Qa.toNat l)++[s]).length/\Sml ([]++List.drop (Int.toNat 0) (List.take Qa.toNat l)++[s]++List.drop Qa.toNat (List.take (↑l.length:Int).toNat l)).length/\K ([]++List.drop (Int.toNat 0) (List.take Qa.toNat l)++[s]++List.drop Qa.toNat (List.take (↑l.length:Int).toNat l))))) (Fits l->CAt l Qa (fun y3=>Cnd (y3=s) (K l) ((0<=(0:Int)/\0<=Qa/\Qa<=(↑l.length:Int))/\Sml ([]++List.drop (Int.toNat 0) (List.take Qa.toNat l)).length/\(0<=Qa/\Qa<=(↑l.length:Int)/\(↑l.length:Int)<=(↑l.length:Int))/\Sml ([]++List.drop (Int.toNat 0) (List.take Qa.toNat l)++[s]).length/\Sml ([]++List.drop (Int.toNat 0) (List.take Qa.toNat l)++[s]++List.drop Qa.toNat (List.take (↑l.length:Int).toNat l)).length/\K ([]++List.drop (Int.toNat 0) (List.take Qa.toNat l)++[s]++List.drop Qa.toNat (List.take (↑l.length:Int).toNat l)))) ((0<=(0:Int)/\0<=Qa/\Qa<=(↑l.length:Int))/\Sml ([]++List.drop (Int.toNat 0) (List.take Qa.toNat l)).length/\(0<=Qa/\Qa<=(↑l.length:Int)/\(↑l.length:Int)<=(↑l.length:Int))/\Sml ([]++List.drop (Int.toNat 0) (List.take Qa.toNat l)++[s]).length/\Sml ([]++List.drop (Int.toNat 0) (List.take Qa.toNat l)++[s]++List.drop Qa.toNat (List.take (↑l.length:Int).toNat l)).length/\K ([]++List.drop (Int.toNat 0) (List.take Qa.toNat l)++[s]++List.drop Qa.toNat (List.take (↑l.length:Int).toNat l))))) (0:Int)
abbrev Gx:=List BA->Ex->(List BA->Prop)->Prop
def z1z(Vk:q54)(X:Gx):Gx:=fun l e K=>Jn1 (fun Qa=>Lp2 (fun Qc Z9 j0n=>Fits e.5->CAt e.5 Z9 (fun y3=>X Qc (Ex.mk y3.1 y3.2 y3.3 y3.4 y3.5) fun Ql=>InI (Z9+1)/\j0n Ql (Z9+1)) (K Qc)) Qa (0:Int)) fun q0r=>Cnd (e.1=5) (Vk l e.3 fun Qc=>q0r Qc) (q0r l)
def q65:Gx:=fun l e K=> ∀X:Gx,(∀l e K,z1z q8p X l e K->X l e K)->X l e K
abbrev q66:=Ex->(List BA->Prop)->Prop
def z10(z2u:Gx):q66:=fun e K=>z2u [] (Ex.mk e.1 e.2 e.3 e.4 e.5) fun Qa=>K Qa
def q2p:q66:=z10 q65
abbrev q14:=List Seg->(List Edg->Prop)->Prop
def z5z(z2v:q66):q14:=fun l K=>Lp2 (fun Qa Qv q47=>Fits l->CAt l Qv (fun y2=>z2v (Ex.mk y2.5.1 y2.5.2 y2.5.3 y2.5.4 y2.5.5) fun Qe=>Lp2 (fun Ql q8e y3p=>Fits Qe->Cnd (q8e<(↑Qe.length:Int)) (At l Qv fun y7=>At Qe q8e fun y9=>Sml (Ql++[Edg.mk y7.1 y9]).length/\InI (q8e+1)/\y3p (Ql++[Edg.mk y7.1 y9]) (q8e+1)) (InI (Qv+1)/\q47 Ql (Qv+1))) Qa (0:Int)) (K Qa)) [] (0:Int)
def q15:q14:=z5z q2p
abbrev z4q:=List Edg->BA->(List BA->Prop)->Prop
def j8f(Qx:Wv)(Vk:q54):z4q:=fun edges node K=>Lp2 (fun Qa Qv q47=>Fits Qv->Cnd (0<(↑Qv.length:Int)) ((0<=(0:Int)/\0<(↑Qv.length:Int))/\∀y2,Qv[Int.toNat 0]? =some y2->(0<=(1:Int)/\1<=(↑Qv.length:Int)/\(↑Qv.length:Int)<=(↑Qv.length:Int))/\Lp3 (fun Qe J2 j7e u5l=>Fits edges->CAt edges j7e (fun y6=>Cnd (y6.1=y2) (At edges j7e fun y8=>Qx Qe y8.2 fun Zd=>Cnd (Zd=true) (InI (j7e+1)/\u5l Qe J2 (j7e+1)) (At edges j7e fun y11=>Vk Qe y11.2 fun Zb=>At edges j7e fun y14=>(Sml ([]++J2).length/\Sml ([]++J2++[y14.2]).length/\InI (j7e+1)/\u5l Zb ([]++J2++[y14.2]) (j7e+1))/\Sml ([]++J2).length/\Sml ([]++J2++[y14.2]).length/\InI (j7e+1)/\u5l Zb ([]++J2++[y14.2]) (j7e+1))) (InI (j7e+1)/\u5l Qe J2 (j7e+1))) (q47 Qe J2)) Qa (List.drop (Int.toNat 1) (List.take (↑Qv.length:Int).toNat Qv)) (0:Int)) (K Qa)) [] [node]
def j1g:z4q:=j8f U6 q8p
abbrev z0n:=List BA->List Edg->(List BA->Prop)->Prop
def j3p(j17:z4q)(Qx:Wv)(Vk:q54):z0n:=fun nodes edges K=>Lp2 (fun Qa Qv q47=>Fits nodes->CAt nodes Qv (fun y2=>At nodes Qv fun y4=>j17 edges y2 fun Zx=>Qx Zx y4 fun Qn=>Cnd (Qn=true) (At nodes Qv fun y8=>Vk Qa y8 fun Zd=>InI (Qv+1)/\q47 Zd (Qv+1)) (InI (Qv+1)/\q47 Qa (Qv+1))) (K Qa)) [] (0:Int)
def z50:z0n:=j3p j1g U6 q8p
abbrev z0o:=List BA->List Edg->(BA->Bool->Prop)->Prop
def j3q(z7n:z0n):z0o:=fun nodes edges K=>z7n nodes edges fun Qa=>Fits Qa->Cnd ((↑Qa.length:Int)=0) (K (B8 []) false) ((0<=(0:Int)/\0<(↑Qa.length:Int))/\∀y2,Qa[Int.toNat 0]? =some y2->K y2 true)
def z52:z0o:=j3q z50
abbrev Vs:=Envt->BA->(Int->Prop)->Prop
def Vt:Vs:=fun v key K=>Lp1 (fun Qa Bj=>Fits v.4->CAt v.4 Qa (fun y2=>Cnd (y2.1=key) (K Qa) (InI (Qa+1)/\Bj (Qa+1))) (K (-1:Int))) (0:Int)
abbrev z4r:=List Decl->Srv->(Int->Prop)->Prop
def j8g(q09:z4o):z4r:=fun l v K=>Cnd (v.1=0) (q09 l v.2 v.3 fun Qa=>Cnd (Qa=0) (K 11) (Cnd (Qa=5) (K 8) (K 0))) (K 0)
def j1h:z4r:=j8g q64
abbrev R3:=Envt->Flg->(Int->Prop)->Prop
def z0p(Jh:Re)(Zh:Vs)(U0:H0)(z5b:z4r)(Ji:Wf):R3:=fun v f K=>Jh v.3 fun Qa=>Lp2 (fun Qc Z9 j0n=>Fits f.6->CAt f.6 Qc (fun y3=>Zh (Envt.mk (Sett.mk v.1.1 v.1.2 v.1.3) v.2 v.3 v.4 v.5 v.6) y3.1 fun Ql=>Cnd (Ql<0) (K 11) (At f.6 Qc fun y6=>At v.4 Ql fun y8=>Fits y8.3->Cnd ((↑y8.3.length:Int)<y6.2) (K 3) (InI (Qc+1)/\j0n (Qc+1) Z9))) (Lp2 (fun Qg V1 w1u=>Fits f.8->CAt f.8 Qg (fun y5=>U0 v.2 V1 (Ex.mk y5.2.1 y5.2.2 y5.2.3 y5.2.4 y5.2.5) fun Qn=>Cnd (Qn=0) (At f.8 Qg fun y8=>z5b v.2 (Srv.mk y8.3.1 y8.3.2 y8.3.3 y8.3.4 y8.3.5) fun Zd=>Cnd (Zd=0) (InI (Qg+1)/\w1u (Qg+1) V1) (K Zd)) (K Qn)) (z5b v.2 (Srv.mk f.9.1 f.9.2 f.9.3 f.9.4 f.9.5) fun Ql=>Cnd (Ql=0) (Ji f.8 fun Zx _ w89=>Cnd (w89=true) (Fits Zx->Cnd (0<(↑Zx.length:Int)) (K 13) (K 0)) (K 19)) (K Ql))) (0:Int) Z9)) (0:Int) Qa
def q3h:R3:=z0p q9u Vt z4p j1h Gh
abbrev q55:=Envt->(List BA->Prop)->Prop
def z3e:q55:=fun v K=>Lp2 (fun Qa Qv q47=>Fits v.4->CAt v.4 Qv (fun y2=>Sml (Qa++[y2.1]).length/\InI (Qv+1)/\q47 (Qa++[y2.1]) (Qv+1)) (K Qa)) [] (0:Int)
abbrev q3i:=Envt->(List Edg->Prop)->Prop
def q3j:q3i:=fun v K=>Lp2 (fun Qa Qv q47=>Fits v.4->Cnd (Qv<(↑v.4.length:Int)) (Lp2 (fun Qf Zs q8d=>At v.4 Qv fun y3=>Fits y3.6->Cnd (Zs<(↑y3.6.length:Int)) (At v.4 Qv fun y6=>At v.4 Qv fun y8=>At y8.6 Zs fun y10=>Sml (Qf++[Edg.mk y6.1 y10.1]).length/\InI (Zs+1)/\q8d (Qf++[Edg.mk y6.1 y10.1]) (Zs+1)) (InI (Qv+1)/\q47 Qf (Qv+1))) Qa (0:Int)) (K Qa)) [] (0:Int)
abbrev q67:=List Spn->List Spn->(List Spn->Prop)->Prop
def z81(Jm:q0y)(Q7:W5):q67:=fun a b K=>Jm a fun Qa=>Jm b fun Qc=>Lp2 (fun Qf Zs q8d=>Fits Zs->CAt Zs Qf (fun y4=>Cnd (y4=true) (At Qc Qf fun y6=>At Zs Qf fun _=>InI (Qf+1)/\q8d (Qf+1) (Zs.set Qf.toNat y6)) (At Zs Qf fun _=>InI (Qf+1)/\q8d (Qf+1) (Zs.set Qf.toNat false))) (Q7 Zs fun Qe=>K Qe)) (0:Int) Qa
def z11:q67:=z81 z0d Rz
abbrev Wu:=Envt->Int->(Int->Prop)->Prop
def R4(Qt:Jt)(Zh:Vs)(Jh:Re)(U0:H0)(z2w:q67):Wu:=fun v i K=>At v.6 i fun y0=>Qt (Envt.mk (Sett.mk v.1.1 v.1.2 v.1.3) v.2 v.3 v.4 v.5 v.6) y0.2 fun Qf=>Zh (Envt.mk (Sett.mk v.1.1 v.1.2 v.1.3) v.2 v.3 v.4 v.5 v.6) y0.3 fun Qg=>Cnd (Qf<0) (K 11) (Cnd (Qg<0) (K 11) (Lp1 (fun Qe v2c=>Fits y0.7->CAt y0.7 Qe (fun y6=>At v.4 Qg fun y8=>Fits y8.3->Cnd ((↑y8.3.length:Int)<y6.3) (K 3) (InI (Qe+1)/\v2c (Qe+1))) (Jh v.3 fun Zx=>U0 v.2 Zx (Ex.mk y0.8.1 y0.8.2 y0.8.3 y0.8.4 y0.8.5) fun Qn=>Cnd (Qn=0) (Cnd (y0.5=3) (K 0) (At v.5 Qf fun y8=>Lp3 (fun Zd q08 v8v u44=>Cnd (q08<i) (At v.6 q08 fun y11=>Cnd (y11.2=y0.2) (Cnd (y11.5=3) (InI (q08+1)/\u44 Zd (q08+1) v8v) (Sml (Zd++y11.6).length/\InI (q08+1)/\u44 (Zd++y11.6) (q08+1) v8v)) (InI (q08+1)/\u44 Zd (q08+1) v8v)) (z2w y0.6 Zd fun Wp=>Fits Wp->Cnd (0<(↑Wp.length:Int)) (K 14) (Lp4 (fun Zb v19 u45 u46 u47=>Cnd (Zb<i) (Cnd (y0.5=2) (At v.6 Zb fun y14=>Cnd (y14.5=2) (Cnd (y14.3=y0.3) (Cnd (y14.2=y0.2) (InI (Zb+1)/\u47 (Zb+1) v19 u45 u46) (K 14)) (InI (Zb+1)/\u47 (Zb+1) v19 u45 u46)) (InI (Zb+1)/\u47 (Zb+1) v19 u45 u46)) (K 0)) (K 0)) (0:Int) Wp Zd v8v))) [Spn.mk (0:Int) y8.4] (0:Int) Zx)) (K Qn))) (0:Int)))
def Us:Wu:=R4 Vf Vt q9u z4p z11
abbrev Gi:=Envt->(BA->Int->Prop)->Prop
def q5e(q1t:Hz)(Jh:Re)(U0:H0)(Ho:q14)(z1r:z0o)(q4y:R3)(q6o:q55)(q4z:q3i)(U1:Wu):Gi:=fun v K=>q1t (Envt.mk (Sett.mk v.1.1 v.1.2 v.1.3) v.2 v.3 v.4 v.5 v.6) fun Qa=>Cnd (Qa=0) (Jh v.3 fun Qc=>Lp2 (fun Qf Zs q8d=>Fits v.3->CAt v.3 Qf (fun y4=>Cnd (y4.5.1=0) (InI (Qf+1)/\q8d (Qf+1) Zs) (At v.3 Qf fun y6=>U0 v.2 Zs (Ex.mk y6.5.1 y6.5.2 y6.5.3 y6.5.4 y6.5.5) fun Ws=>Cnd (Ws=0) (InI (Qf+1)/\q8d (Qf+1) Zs) (At v.3 Qf fun y9=>(↑((B8 [115,101,103,109,101,110,116,32]).size+y9.1.size):Int)<=(9223372036854775807:Int)/\K (B8 [115,101,103,109,101,110,116,32]++y9.1) Ws))) (Ho v.3 fun Qe=>z1r Zs Qe fun Ql q8e=>Cnd (q8e=true) ((↑((B8 [115,101,103,109,101,110,116,32]).size+Ql.size):Int)<=(9223372036854775807:Int)/\K (B8 [115,101,103,109,101,110,116,32]++Ql) (12:Int)) (Lp3 (fun Zx z34 w89 u93=>Fits v.4->CAt v.4 Zx (fun y8=>q4y (Envt.mk (Sett.mk v.1.1 v.1.2 v.1.3) v.2 v.3 v.4 v.5 v.6) (Flg.mk y8.1 y8.2 y8.3 y8.4 y8.5 y8.6 y8.7 y8.8 (Srv.mk y8.9.1 y8.9.2 y8.9.3 y8.9.4 y8.9.5)) fun Zd=>Cnd (Zd=0) (InI (Zx+1)/\u93 (Zx+1) z34 w89) (At v.4 Zx fun y11=>(↑((B8 [102,108,97,103,32]).size+y11.1.size):Int)<=(9223372036854775807:Int)/\K (B8 [102,108,97,103,32]++y11.1) Zd)) (q6o (Envt.mk (Sett.mk v.1.1 v.1.2 v.1.3) v.2 v.3 v.4 v.5 v.6) fun Ws=>q4z (Envt.mk (Sett.mk v.1.1 v.1.2 v.1.3) v.2 v.3 v.4 v.5 v.6) fun Qp=>z1r Ws Qp fun Zd q08=>Cnd (q08=true) ((↑((B8 [102,108,97,103,32]).size+Zd.size):Int)<=(9223372036854775807:Int)/\K (B8 [102,108,97,103,32]++Zd) (12:Int)) (Lp5 (fun Wp j0m u85 u86 u87 u88=>Fits v.6->Cnd (Wp<(↑v.6.length:Int)) (U1 (Envt.mk (Sett.mk v.1.1 v.1.2 v.1.3) v.2 v.3 v.4 v.5 v.6) Wp fun Zb=>Cnd (Zb=0) (InI (Wp+1)/\u88 (Wp+1) j0m u85 u86 u87) (At v.6 Wp fun y14=>(↑((B8 [101,120,112,101,114,105,109,101,110,116,32]).size+y14.1.size):Int)<=(9223372036854775807:Int)/\K (B8 [101,120,112,101,114,105,109,101,110,116,32]++y14.1) Zb)) (K (B8 []) (0:Int))) (0:Int) Ws Qp w89 z34))) (0:Int) Zs Qe))) (0:Int) Qc) (K (B8 []) Qa)
def Bv:Gi:=q5e q1i q9u z4p q15 z52 q3h z3e q3j Us
abbrev z0q:=Envt->(Bool->Prop)->Prop
def j3r(q0f:Gi):z0q:=fun v K=>q0f (Envt.mk (Sett.mk v.1.1 v.1.2 v.1.3) v.2 v.3 v.4 v.5 v.6) fun _ Qv=>K (decide (Qv=0))
def q16:z0q:=j3r Bv
abbrev R5:=List Int->Int->Int->(Envt->Int->Prop)->Prop
def z0r(Q6:Vp)(z2x:q6z)(Qb:Zn)(q4r:j02)(Jr:q22)(q6j:z5o)(j0p:z8r)(Bl:q23)(q6k:q52)(Ji:Wf)(j7m:z8t)(Wz:q21)(q4s:q98)(j18:z4f)(Vi:q8j)(Hn:q13)(z7o:z0h)(q2l:z0q):R5:=fun list at_ now K=>Q6 fun Qa=>Jn1 (fun (Qc:BA×BA×Int×Int×List Decl×Unit)=>z2x list Qc.2.2.2.1 Qc.1 Qc.2.1 Qc.2.2.1 Qc.2.2.2.2.1 [] [] [] [] fun Qf Zs v2a w6v y8b u94 u95 u96 u97=>Qb list Qf 5 fun Qg V1=>q4r Qg [B8 [102,97],B8 [102,98],B8 [102,99],B8 [102,100]] fun Qe=>LpH (fun (Ql:Int×Int×List Flg×List Seg×List Lay_×List Exper×Unit) w2y=>Fits Qe->CAt Qe Ql.1 (fun y7=>Qb list Ql.2.1 (5:Int) fun Qp j1z=>InI (1+Qp)/\Qb list j1z 6 fun Zd q08=>Qb list q08 4 fun Wp j0m=>InI (1+Wp)/\LpH (fun (Zp:Int×Int×List Val×List Exper×List Lay_×List Flg×List Seg×Unit) (u48:Int×Int×List Val×List Exper×List Lay_×List Flg×List Seg×Unit->Prop)=>Cnd (Zp.1<1+Wp) (Jr list Zp.2.1 (1+Qp) fun Zb v19=>Sml (Zp.2.2.1++[Zb]).length/\InI (Zp.1+1)/\u48 (Zp.1+1,v19,Zp.2.2.1++[Zb],Zp.2.2.2.1,Zp.2.2.2.2.1,Zp.2.2.2.2.2.1,Zp.2.2.2.2.2.2.1,())) (Qb list Zp.2.1 (1+Wp) fun Zb v19=>InI (1+Zb)/\LpH (fun (Zw:Int×List Prq×Int×List Seg×List Flg×List Lay_×List Exper×List Val×Unit) (y74:Int×List Prq×Int×List Seg×List Flg×List Lay_×List Exper×List Val×Unit->Prop)=>Fits Zw.2.2.2.2.1->Cnd (Zw.1<(↑Zw.2.2.2.2.1.length:Int)) (Qb list Zw.2.2.1 (4:Int) fun Jp u7l=>Cnd (Jp=1) (At Zw.2.2.2.2.1 Zw.1 fun y17=>At Zw.2.2.2.2.1 Zw.1 fun y19=>Fits y19.3->Qb list u7l (↑y19.3.length:Int) fun u49 u89=>InI (1+u49)/\Sml (Zw.2.1++[Prq.mk y17.1 (1+u49)]).length/\InI (Zw.1+1)/\y74 (Zw.1+1,Zw.2.1++[Prq.mk y17.1 (1+u49)],u89,Zw.2.2.2.1,Zw.2.2.2.2.1,Zw.2.2.2.2.2.1,Zw.2.2.2.2.2.2.1,Zw.2.2.2.2.2.2.2.1,())) (InI (Zw.1+1)/\y74 (Zw.1+1,Zw.2.1,u7l,Zw.2.2.2.1,Zw.2.2.2.2.1,Zw.2.2.2.2.2.1,Zw.2.2.2.2.2.2.1,Zw.2.2.2.2.2.2.2.1,()))) (LpH (fun (Jp:Int×List Tgt×Int×List Val×List Exper×List Lay_×List Flg×List Seg×List Prq×Unit) (u0y:Int×List Tgt×Int×List Val×List Exper×List Lay_×List Flg×List Seg×List Prq×Unit->Prop)=>Qb list Jp.2.2.1 (3:Int) fun j0q u7m=>Cnd (Jp.1<j0q) (Qb list u7m (1+Wp) fun z5c u9a=>InI (1+z5c)/\q6j list u9a fun Z0 y75=>Jn1 (fun (Hp:BA×Int×List BA×List Prq×List Seg×List Flg×List Lay_×List Exper×List Val×List Tgt×Unit)=>Fits Hp.2.2.1->Cnd (0<(↑Hp.2.2.1.length:Int)) (Sml (Hp.2.2.2.2.2.2.2.2.2.1++[Tgt.mk Hp.1 (1+z5c) Hp.2.2.1]).length/\InI (Jp.1+1)/\u0y (Jp.1+1,Hp.2.2.2.2.2.2.2.2.2.1++[Tgt.mk Hp.1 (1+z5c) Hp.2.2.1],Hp.2.1,Hp.2.2.2.2.2.2.2.2.1,Hp.2.2.2.2.2.2.2.1,Hp.2.2.2.2.2.2.1,Hp.2.2.2.2.2.1,Hp.2.2.2.2.1,Hp.2.2.2.1,())) (InI (Jp.1+1)/\u0y (Jp.1+1,Hp.2.2.2.2.2.2.2.2.2.1,Hp.2.1,Hp.2.2.2.2.2.2.2.2.1,Hp.2.2.2.2.2.2.2.1,Hp.2.2.2.2.2.2.1,Hp.2.2.2.2.2.1,Hp.2.2.2.2.1,Hp.2.2.2.1,()))) fun (u7n:BA×Int×List BA×List Prq×List Seg×List Flg×List Lay_×List Exper×List Val×List Tgt×Unit->Prop)=>Qb list y75 4 fun j4y u0z=>Cnd (j4y=1) (u7n (B8 [100,101,118,105,99,101],u0z,Z0,Jp.2.2.2.2.2.2.2.2.1,Jp.2.2.2.2.2.2.2.1,Jp.2.2.2.2.2.2.1,Jp.2.2.2.2.2.1,Jp.2.2.2.2.1,Jp.2.2.2.1,Jp.2.1,())) (u7n (B8 [117,115,101,114],u0z,Z0,Jp.2.2.2.2.2.2.2.2.1,Jp.2.2.2.2.2.2.2.1,Jp.2.2.2.2.2.2.1,Jp.2.2.2.2.2.1,Jp.2.2.2.2.1,Jp.2.2.2.1,Jp.2.1,()))) (Jn1 (fun (z5c:Int×List Rul×List BA×List Prq×List Seg×List Flg×List Lay_×List Exper×List Val×List Tgt×Unit)=>j0p list z5c.1 (1+Wp) fun Z0 y75=>Sml (z5c.2.2.2.2.2.1++[Flg.mk y7 (1+Qp) z5c.2.2.2.2.2.2.2.2.1 (decide (Zd<5)) (1+Zb) z5c.2.2.2.1 z5c.2.2.2.2.2.2.2.2.2.1 z5c.2.1 Z0]).length/\InI (Ql.1+1)/\w2y (Ql.1+1,y75,z5c.2.2.2.2.2.1++[Flg.mk y7 (1+Qp) z5c.2.2.2.2.2.2.2.2.1 (decide (Zd<5)) (1+Zb) z5c.2.2.2.1 z5c.2.2.2.2.2.2.2.2.2.1 z5c.2.1 Z0],z5c.2.2.2.2.1,z5c.2.2.2.2.2.2.1,z5c.2.2.2.2.2.2.2.1,())) fun (u5a:Int×List Rul×List BA×List Prq×List Seg×List Flg×List Lay_×List Exper×List Val×List Tgt×Unit->Prop)=>LpH (fun (Z0:Int×Int×List Rul×List BA×List Prq×List Seg×List Flg×List Lay_×List Exper×List Val×List Tgt×Unit) (u9b:Int×Int×List Rul×List BA×List Prq×List Seg×List Flg×List Lay_×List Exper×List Val×List Tgt×Unit->Prop)=>Qb list Z0.2.1 (5:Int) fun Hp y3j=>Cnd (Z0.1<Hp) (At Z0.2.2.2.1 Z0.1 fun y21=>Bl (Envt.mk (Sett.mk Zs v2a w6v) y8b Z0.2.2.2.2.2.1 Z0.2.2.2.2.2.2.1 Z0.2.2.2.2.2.2.2.1 Z0.2.2.2.2.2.2.2.2.1) fun u9c=>q6k list y3j u9c (3:Int) fun Zm u9d=>j0p list u9d (1+Wp) fun z7p y76=>Sml (Z0.2.2.1++[Rul.mk y21 (Ex.mk Zm.1 Zm.2 Zm.3 Zm.4 Zm.5) z7p]).length/\Ji (Z0.2.2.1++[Rul.mk y21 (Ex.mk Zm.1 Zm.2 Zm.3 Zm.4 Zm.5) z7p]) fun u7o _ u9e=>Cnd (u9e=true) (Fits u7o->Cnd (0<(↑u7o.length:Int)) ((Z0.2.2.1++[Rul.mk y21 (Ex.mk Zm.1 Zm.2 Zm.3 Zm.4 Zm.5) z7p]).length<=(9223372036854775807:Nat)->InI ((↑(Z0.2.2.1++[Rul.mk y21 (Ex.mk Zm.1 Zm.2 Zm.3 Zm.4 Zm.5) z7p]).length:Int) - 1)/\(0<=(↑(Z0.2.2.1++[Rul.mk y21 (Ex.mk Zm.1 Zm.2 Zm.3 Zm.4 Zm.5) z7p]).length:Int) - 1/\(↑(Z0.2.2.1++[Rul.mk y21 (Ex.mk Zm.1 Zm.2 Zm.3 Zm.4 Zm.5) z7p]).length:Int) - 1<=(↑(Z0.2.2.1++[Rul.mk y21 (Ex.mk Zm.1 Zm.2 Zm.3 Zm.4 Zm.5) z7p]).length:Int))/\u5a (y76,List.take ((↑(Z0.2.2.1++[Rul.mk y21 (Ex.mk Zm.1 Zm.2 Zm.3 Zm.4 Zm.5) z7p]).length:Int) - 1).toNat (Z0.2.2.1++[Rul.mk y21 (Ex.mk Zm.1 Zm.2 Zm.3 Zm.4 Zm.5) z7p]),Z0.2.2.2.1,Z0.2.2.2.2.1,Z0.2.2.2.2.2.1,Z0.2.2.2.2.2.2.1,Z0.2.2.2.2.2.2.2.1,Z0.2.2.2.2.2.2.2.2.1,Z0.2.2.2.2.2.2.2.2.2.1,Z0.2.2.2.2.2.2.2.2.2.2.1,())) (InI (Z0.1+1)/\u9b (Z0.1+1,y76,Z0.2.2.1++[Rul.mk y21 (Ex.mk Zm.1 Zm.2 Zm.3 Zm.4 Zm.5) z7p],Z0.2.2.2.1,Z0.2.2.2.2.1,Z0.2.2.2.2.2.1,Z0.2.2.2.2.2.2.1,Z0.2.2.2.2.2.2.2.1,Z0.2.2.2.2.2.2.2.2.1,Z0.2.2.2.2.2.2.2.2.2.1,Z0.2.2.2.2.2.2.2.2.2.2.1,()))) ((Z0.2.2.1++[Rul.mk y21 (Ex.mk Zm.1 Zm.2 Zm.3 Zm.4 Zm.5) z7p]).length<=(9223372036854775807:Nat)->InI ((↑(Z0.2.2.1++[Rul.mk y21 (Ex.mk Zm.1 Zm.2 Zm.3 Zm.4 Zm.5) z7p]).length:Int) - 1)/\(0<=(↑(Z0.2.2.1++[Rul.mk y21 (Ex.mk Zm.1 Zm.2 Zm.3 Zm.4 Zm.5) z7p]).length:Int) - 1/\(↑(Z0.2.2.1++[Rul.mk y21 (Ex.mk Zm.1 Zm.2 Zm.3 Zm.4 Zm.5) z7p]).length:Int) - 1<=(↑(Z0.2.2.1++[Rul.mk y21 (Ex.mk Zm.1 Zm.2 Zm.3 Zm.4 Zm.5) z7p]).length:Int))/\u5a (y76,List.take ((↑(Z0.2.2.1++[Rul.mk y21 (Ex.mk Zm.1 Zm.2 Zm.3 Zm.4 Zm.5) z7p]).length:Int) - 1).toNat (Z0.2.2.1++[Rul.mk y21 (Ex.mk Zm.1 Zm.2 Zm.3 Zm.4 Zm.5) z7p]),Z0.2.2.2.1,Z0.2.2.2.2.1,Z0.2.2.2.2.2.1,Z0.2.2.2.2.2.2.1,Z0.2.2.2.2.2.2.2.1,Z0.2.2.2.2.2.2.2.2.1,Z0.2.2.2.2.2.2.2.2.2.1,Z0.2.2.2.2.2.2.2.2.2.2.1,()))) (u5a (y3j,Z0.2.2.1,Z0.2.2.2.1,Z0.2.2.2.2.1,Z0.2.2.2.2.2.1,Z0.2.2.2.2.2.2.1,Z0.2.2.2.2.2.2.2.1,Z0.2.2.2.2.2.2.2.2.1,Z0.2.2.2.2.2.2.2.2.2.1,Z0.2.2.2.2.2.2.2.2.2.2.1,()))) ((0:Int),u7m,[],[B8 [102,105,114,115,116],B8 [115,101,99,111,110,100],B8 [116,104,105,114,100],B8 [102,111,117,114,116,104]],Jp.2.2.2.2.2.2.2.2.1,Jp.2.2.2.2.2.2.2.1,Jp.2.2.2.2.2.2.1,Jp.2.2.2.2.2.1,Jp.2.2.2.2.1,Jp.2.2.2.1,Jp.2.1,()))) ((0:Int),[],Zw.2.2.1,Zw.2.2.2.2.2.2.2.1,Zw.2.2.2.2.2.2.1,Zw.2.2.2.2.2.1,Zw.2.2.2.2.1,Zw.2.2.2.1,Zw.2.1,()))) ((0:Int),[],v19,Zp.2.2.2.2.2.2.1,Zp.2.2.2.2.2.1,Zp.2.2.2.2.1,Zp.2.2.2.1,Zp.2.2.1,()))) ((0:Int),j0m,[],Ql.2.2.2.2.2.1,Ql.2.2.2.2.1,Ql.2.2.1,Ql.2.2.2.1,())) (Qb list Ql.2.1 (3:Int) fun Qn z8g=>q4r Qn [B8 [108,97],B8 [108,98]] fun Ws=>LpH (fun (Qp:Int×Int×List Lay_×List Exper×List Seg×List Flg×Unit) (u0x:Int×Int×List Lay_×List Exper×List Seg×List Flg×Unit->Prop)=>Fits Ws->CAt Ws Qp.1 (fun y11=>j7m list Qp.2.1 y11 fun Zb v19=>Sml (Qp.2.2.1++[Zb]).length/\InI (Qp.1+1)/\u0x (Qp.1+1,v19,Qp.2.2.1++[Zb],Qp.2.2.2.1,Qp.2.2.2.2.1,Qp.2.2.2.2.2.1,())) (Qb list Qp.2.1 (4:Int) fun Wp j0m=>q4r Wp [B8 [120,97],B8 [120,98],B8 [120,99]] fun Zp=>LpH (fun (Zb:Int×Int×List Exper×List Flg×List Seg×List Lay_×Unit) (u7p:Int×Int×List Exper×List Flg×List Seg×List Lay_×Unit->Prop)=>Fits Zp->Cnd (Zb.1<(↑Zp.length:Int)) (Fits Zb.2.2.2.1->Cnd (0<(↑Zb.2.2.2.1.length:Int)) (Fits Zb.2.2.2.2.2.1->Cnd (0<(↑Zb.2.2.2.2.2.1.length:Int)) (At Zp Zb.1 fun y17=>Fits Zb.2.2.2.1->Qb list Zb.2.1 (↑Zb.2.2.2.1.length:Int) fun Hp y3j=>At Zb.2.2.2.1 Hp fun y21=>Fits Zb.2.2.2.2.2.1->Fits y21.3->Qb list y3j (↑Zb.2.2.2.2.2.1.length:Int) fun z7p y76=>At Zb.2.2.2.2.2.1 z7p fun y26=>Wz list y76 fun w75 u9f=>Qb list u9f 3 fun u00 u9g=>InI (1+u00)/\q4s list u9g (↑y21.3.length:Int) fun u5b u7q=>Jn1 (fun (q78:Int×Int×List Rng×List Exper×List Lay_×List Flg×List Seg×Unit)=>Jn1 (fun (Zl:Int×BA×BA×List Val×List Ex×Int×List Seg×List Flg×List Lay_×List Exper×List Rng×Unit)=>j18 (Envt.mk (Sett.mk Zs v2a w6v) y8b Zl.2.2.2.2.2.2.1 Zl.2.2.2.2.2.2.2.1 Zl.2.2.2.2.2.2.2.2.1 Zl.2.2.2.2.2.2.2.2.2.1) y26.1 now fun (u5c:List Spn) (u5d:Int)=>Vi list Zl.2.2.2.2.2.1 (8000:Int) fun (u5e u9h:Int)=>Vi list u9h 8000 fun (v8w u5f:Int)=>Hn u5c [Spn.mk u5e v8w] fun (u9i:List Spn)=>Vi list u5f 7000 fun (u9j u7r:Int)=>z7o u9i u9j fun (w76:List Spn)=>Sml (Zl.2.2.2.2.2.2.2.2.2.1++[Exper.mk y17 y26.1 y21.1 w75 q78.1 w76 Zl.2.2.2.2.2.2.2.2.2.2.1 (Ex.mk Zl.1 Zl.2.1 Zl.2.2.1 Zl.2.2.2.1 Zl.2.2.2.2.1)]).length/\q2l (Envt.mk (Sett.mk Zs v2a w6v) y8b Zl.2.2.2.2.2.2.1 Zl.2.2.2.2.2.2.2.1 Zl.2.2.2.2.2.2.2.2.1 (Zl.2.2.2.2.2.2.2.2.2.1++[Exper.mk y17 y26.1 y21.1 w75 q78.1 w76 Zl.2.2.2.2.2.2.2.2.2.2.1 (Ex.mk Zl.1 Zl.2.1 Zl.2.2.1 Zl.2.2.2.1 Zl.2.2.2.2.1)])) fun (u9k:Bool)=>Cnd (u9k=true) (InI (Zb.1+1)/\u7p (Zb.1+1,u7r,Zl.2.2.2.2.2.2.2.2.2.1++[Exper.mk y17 y26.1 y21.1 w75 q78.1 w76 Zl.2.2.2.2.2.2.2.2.2.2.1 (Ex.mk Zl.1 Zl.2.1 Zl.2.2.1 Zl.2.2.2.1 Zl.2.2.2.2.1)],Zl.2.2.2.2.2.2.2.1,Zl.2.2.2.2.2.2.1,Zl.2.2.2.2.2.2.2.2.1,())) ((Zl.2.2.2.2.2.2.2.2.2.1++[Exper.mk y17 y26.1 y21.1 w75 q78.1 w76 Zl.2.2.2.2.2.2.2.2.2.2.1 (Ex.mk Zl.1 Zl.2.1 Zl.2.2.1 Zl.2.2.2.1 Zl.2.2.2.2.1)]).length<=(9223372036854775807:Nat)->InI ((↑(Zl.2.2.2.2.2.2.2.2.2.1++[Exper.mk y17 y26.1 y21.1 w75 q78.1 w76 Zl.2.2.2.2.2.2.2.2.2.2.1 (Ex.mk Zl.1 Zl.2.1 Zl.2.2.1 Zl.2.2.2.1 Zl.2.2.2.2.1)]).length:Int) - 1)/\(0<=(↑(Zl.2.2.2.2.2.2.2.2.2.1++[Exper.mk y17 y26.1 y21.1 w75 q78.1 w76 Zl.2.2.2.2.2.2.2.2.2.2.1 (Ex.mk Zl.1 Zl.2.1 Zl.2.2.1 Zl.2.2.2.1 Zl.2.2.2.2.1)]).length:Int) - 1/\(↑(Zl.2.2.2.2.2.2.2.2.2.1++[Exper.mk y17 y26.1 y21.1 w75 q78.1 w76 Zl.2.2.2.2.2.2.2.2.2.2.1 (Ex.mk Zl.1 Zl.2.1 Zl.2.2.1 Zl.2.2.2.1 Zl.2.2.2.2.1)]).length:Int) - 1<=(↑(Zl.2.2.2.2.2.2.2.2.2.1++[Exper.mk y17 y26.1 y21.1 w75 q78.1 w76 Zl.2.2.2.2.2.2.2.2.2.2.1 (Ex.mk Zl.1 Zl.2.1 Zl.2.2.1 Zl.2.2.2.1 Zl.2.2.2.2.1)]).length:Int))/\InI (Zb.1+1)/\u7p (Zb.1+1,u7r,List.take ((↑(Zl.2.2.2.2.2.2.2.2.2.1++[Exper.mk y17 y26.1 y21.1 w75 q78.1 w76 Zl.2.2.2.2.2.2.2.2.2.2.1 (Ex.mk Zl.1 Zl.2.1 Zl.2.2.1 Zl.2.2.2.1 Zl.2.2.2.2.1)]).length:Int) - 1).toNat (Zl.2.2.2.2.2.2.2.2.2.1++[Exper.mk y17 y26.1 y21.1 w75 q78.1 w76 Zl.2.2.2.2.2.2.2.2.2.2.1 (Ex.mk Zl.1 Zl.2.1 Zl.2.2.1 Zl.2.2.2.1 Zl.2.2.2.2.1)]),Zl.2.2.2.2.2.2.2.1,Zl.2.2.2.2.2.2.1,Zl.2.2.2.2.2.2.2.2.1,()))) fun (u7s:Int×BA×BA×List Val×List Ex×Int×List Seg×List Flg×List Lay_×List Exper×List Rng×Unit->Prop)=>Qb list q78.2.1 (2:Int) fun (u5c u5d:Int)=>Cnd (u5c=1) (Bl (Envt.mk (Sett.mk Zs v2a w6v) y8b q78.2.2.2.2.2.2.1 q78.2.2.2.2.2.1 q78.2.2.2.2.1 q78.2.2.2.1) fun (u5e:List BA)=>q6k list u5d u5e (2:Int) fun (v8w:Ex) (u5f:Int)=>u7s (v8w.1,v8w.2,v8w.3,v8w.4,v8w.5,u5f,q78.2.2.2.2.2.2.1,q78.2.2.2.2.2.1,q78.2.2.2.2.1,q78.2.2.2.1,q78.2.2.1,())) (u7s ((1:Int),B8 [],B8 [],[],[],u5d,q78.2.2.2.2.2.2.1,q78.2.2.2.2.2.1,q78.2.2.2.2.1,q78.2.2.2.1,q78.2.2.1,()))) fun (u5g:Int×Int×List Rng×List Exper×List Lay_×List Flg×List Seg×Unit->Prop)=>Cnd (1+u00=1) (Qb list u7q 2 fun Zl u7t=>Cnd (Zl=0) (u5g ((2:Int),u7t,u5b,Zb.2.2.1,Zb.2.2.2.2.2.1,Zb.2.2.2.1,Zb.2.2.2.2.1,())) (u5g (1+u00,u7t,u5b,Zb.2.2.1,Zb.2.2.2.2.2.1,Zb.2.2.2.1,Zb.2.2.2.2.1,()))) (u5g (1+u00,u7q,u5b,Zb.2.2.1,Zb.2.2.2.2.2.1,Zb.2.2.2.1,Zb.2.2.2.2.1,()))) (q2l (Envt.mk (Sett.mk Zs v2a w6v) y8b Zb.2.2.2.2.1 Zb.2.2.2.1 Zb.2.2.2.2.2.1 Zb.2.2.1) fun j0q=>Cnd (j0q=true) (K (Envt.mk (Sett.mk Zs v2a w6v) y8b Zb.2.2.2.2.1 Zb.2.2.2.1 Zb.2.2.2.2.2.1 Zb.2.2.1) Zb.2.1) (Q6 fun z5c=>K (Envt.mk (Sett.mk (B8 []) (B8 []) (0:Int)) z5c [] [] [] []) Zb.2.1))) (q2l (Envt.mk (Sett.mk Zs v2a w6v) y8b Zb.2.2.2.2.1 Zb.2.2.2.1 Zb.2.2.2.2.2.1 Zb.2.2.1) fun Jp=>Cnd (Jp=true) (K (Envt.mk (Sett.mk Zs v2a w6v) y8b Zb.2.2.2.2.1 Zb.2.2.2.1 Zb.2.2.2.2.2.1 Zb.2.2.1) Zb.2.1) (Q6 fun j0q=>K (Envt.mk (Sett.mk (B8 []) (B8 []) (0:Int)) j0q [] [] [] []) Zb.2.1))) (q2l (Envt.mk (Sett.mk Zs v2a w6v) y8b Zb.2.2.2.2.1 Zb.2.2.2.1 Zb.2.2.2.2.2.1 Zb.2.2.1) fun w74=>Cnd (w74=true) (K (Envt.mk (Sett.mk Zs v2a w6v) y8b Zb.2.2.2.2.1 Zb.2.2.2.1 Zb.2.2.2.2.2.1 Zb.2.2.1) Zb.2.1) (Q6 fun Jp=>K (Envt.mk (Sett.mk (B8 []) (B8 []) (0:Int)) Jp [] [] [] []) Zb.2.1))) ((0:Int),j0m,Qp.2.2.2.1,Qp.2.2.2.2.2.1,Qp.2.2.2.2.1,Qp.2.2.1,()))) ((0:Int),z8g,Ql.2.2.2.2.1,Ql.2.2.2.2.2.1,Ql.2.2.2.1,Ql.2.2.1,()))) ((0:Int),V1,u95,u94,u96,u97,())) fun j92=>Qb list at_ 2 fun Qf Zs=>Cnd (Qf=1) (Wz list Zs fun Qg V1=>Vi list V1 2500 fun Qe J2=>j92 (Qg,B8 [117,115,101,114],Qe,J2,Qa,())) (j92 (B8 [],B8 [],(0:Int),Zs,Qa,()))
def q3k:R5:=z0r Gw z1w Wl w2h q0v j5j j5n q24 j5m Gh j5s z5n z8q j06 j01 z0g z5t q16
abbrev Bw:=Int->(Bool->Prop)->Prop
def G4:Bw:=fun op K=>Cnd (6<=op) (K (decide (op<=15))) (K false)
abbrev Zf:=List BA->List BA->(Bool->Prop)->Prop
def Z1:Zf:=fun s1 s2 K=>Fits s1->Fits s2->Cnd ((↑s1.length:Int)=(↑s2.length:Int)) (Fits s1->Lp1 (fun Qg j4z=>CAt s1 Qg (fun y4=>At s2 Qg fun y6=>Cnd (y4=y6) (InI (Qg+1)/\j4z (Qg+1)) (K false)) (K true)) (0:Int)) (K false)
abbrev q68:=Val->Val->(Bool->Prop)->Prop
def z82(Qr:Zf):q68:=fun a b K=>Cnd (a.1=b.1) (Cnd (a.2=b.2) (Cnd (a.3=b.3) (Qr a.4 b.4 fun Qa=>K Qa) (K false)) (K false)) (K false)
def q2q:q68:=z82 Z1
abbrev R6:=Ex->Ex->(Bool->Prop)->Prop
def j3s(z2y:q68)(X:R6):R6:=fun a b K=>Cnd (a.1=b.1) (Cnd (a.2=b.2) (Cnd (a.3=b.3) (Fits a.4->Fits b.4->Cnd ((↑a.4.length:Int)=(↑b.4.length:Int)) (Fits a.4->Lp1 (fun Qg j4z=>CAt a.4 Qg (fun y4=>At b.4 Qg fun y6=>z2y y4 y6 fun Ws=>Cnd (Ws=true) (InI (Qg+1)/\j4z (Qg+1)) (K false)) (Fits a.5->Fits b.5->Cnd ((↑a.5.length:Int)=(↑b.5.length:Int)) (Fits a.5->Lp1 (fun Qn v18=>CAt a.5 Qn (fun y8=>At b.5 Qn fun y10=>X (Ex.mk y8.1 y8.2 y8.3 y8.4 y8.5) (Ex.mk y10.1 y10.2 y10.3 y10.4 y10.5) fun Zp=>Cnd (Zp=true) (InI (Qn+1)/\v18 (Qn+1)) (K false)) (K true)) (0:Int)) (K false))) (0:Int)) (K false)) (K false)) (K false)) (K false)
def q17:R6:=fun a b K=> ∀X:R6,(∀a b K,j3s q2q X a b K->X a b K)->X a b K
abbrev Vu:=List Ex->Ex->(List Ex->Prop)->Prop
def z3f(Vl:Bw)(z1s:R6)(X:Vu):Vu:=fun l e K=>Jn1 (fun Qa=>Fits e.5->Lp2 (fun Qf Zs q8d=>CAt e.5 Zs (fun y3=>X Qf (Ex.mk y3.1 y3.2 y3.3 y3.4 y3.5) fun Ql=>InI (Zs+1)/\q8d Ql (Zs+1)) (K Qf)) Qa (0:Int)) fun q0r=>Vl e.1 fun Qc=>Cnd (Qc=true) (Fits l->Lp1 (fun Qg j4z=>CAt l Qg (fun y4=>z1s (Ex.mk y4.1 y4.2 y4.3 y4.4 y4.5) (Ex.mk e.1 e.2 e.3 e.4 e.5) fun Zx=>Cnd (Zx=true) (Cnd (0<=Qg) (q0r l) (Sml (l++[Ex.mk e.1 e.2 e.3 e.4 e.5]).length/\q0r (l++[Ex.mk e.1 e.2 e.3 e.4 e.5]))) (InI (Qg+1)/\j4z (Qg+1))) (Cnd (0<=(-1:Int)) (q0r l) (Sml (l++[Ex.mk e.1 e.2 e.3 e.4 e.5]).length/\q0r (l++[Ex.mk e.1 e.2 e.3 e.4 e.5])))) (0:Int)) (Cnd (e.1=5) (Fits l->Lp1 (fun Qg j4z=>CAt l Qg (fun y4=>z1s (Ex.mk y4.1 y4.2 y4.3 y4.4 y4.5) (Ex.mk e.1 e.2 e.3 e.4 e.5) fun Zx=>Cnd (Zx=true) (Cnd (0<=Qg) (q0r l) (Sml (l++[Ex.mk e.1 e.2 e.3 e.4 e.5]).length/\q0r (l++[Ex.mk e.1 e.2 e.3 e.4 e.5]))) (InI (Qg+1)/\j4z (Qg+1))) (Cnd (0<=(-1:Int)) (q0r l) (Sml (l++[Ex.mk e.1 e.2 e.3 e.4 e.5]).length/\q0r (l++[Ex.mk e.1 e.2 e.3 e.4 e.5])))) (0:Int)) (q0r l))
def q56:Vu:=fun l e K=> ∀X:Vu,(∀l e K,z3f G4 q17 X l e K->X l e K)->X l e K
abbrev Wo:=Val->(Val->Prop)->Prop
def J3:Wo:=fun v K=> ∀n0,(n0=true->v.4=[])->Cnd (n0=true) (K (Val.mk v.1 v.2 v.3 [])) (Sml ([]++v.4).length/\K (Val.mk v.1 v.2 v.3 ([]++v.4)))
abbrev Gy:=Ex->(Ex->Prop)->Prop
def z83(Q8:Wo)(X:Gy):Gy:=fun e K=>Fits e.4->(0<=(0:Int)/\0<=(↑e.4.length:Int)/\Sml (↑e.4.length:Int).toNat)/\(Fits e.4->Lp2 (fun Qf Zs q8d=>CAt e.4 Zs (fun y3=>Q8 y3 fun Ql=>Sml (Qf++[Ql]).length/\InI (Zs+1)/\q8d (Qf++[Ql]) (Zs+1)) (Fits e.5->(0<=(0:Int)/\0<=(↑e.5.length:Int)/\Sml (↑e.5.length:Int).toNat)/\(Fits e.5->Lp2 (fun Ql q8e y3p=>CAt e.5 q8e (fun y6=>X (Ex.mk y6.1 y6.2 y6.3 y6.4 y6.5) fun Ws=>Sml (Ql++[Ex.mk Ws.1 Ws.2 Ws.3 Ws.4 Ws.5]).length/\InI (q8e+1)/\y3p (Ql++[Ex.mk Ws.1 Ws.2 Ws.3 Ws.4 Ws.5]) (q8e+1)) (K (Ex.mk e.1 e.2 e.3 Qf Ql))) (List.replicate (Int.toNat 0) (Ex.mk (0:Int) (B8 []) (B8 []) [] [])) (0:Int)))) (List.replicate (Int.toNat 0) (Val.mk (0:Int) (0:Int) (B8 []) [])) (0:Int))
def z13:Gy:=fun e K=> ∀X:Gy,(∀e K,z83 J3 X e K->X e K)->X e K
abbrev q0z:=Ex->(List Ex->Prop)->Prop
def z3g(q6p:Vu)(z2z:Gy):q0z:=fun e K=>q6p [] (Ex.mk e.1 e.2 e.3 e.4 e.5) fun Qa=>Fits Qa->(0<=(0:Int)/\0<=(↑Qa.length:Int)/\Sml (↑Qa.length:Int).toNat)/\(Fits Qa->Lp2 (fun Qg V1 w1u=>CAt Qa V1 (fun y4=>z2z (Ex.mk y4.1 y4.2 y4.3 y4.4 y4.5) fun Zx=>Sml (Qg++[Ex.mk Zx.1 Zx.2 Zx.3 Zx.4 Zx.5]).length/\InI (V1+1)/\w1u (Qg++[Ex.mk Zx.1 Zx.2 Zx.3 Zx.4 Zx.5]) (V1+1)) (K Qg)) (List.replicate (Int.toNat 0) (Ex.mk (0:Int) (B8 []) (B8 []) [] [])) (0:Int))
def z3h:q0z:=z3g q56 z13
abbrev Z5:=List BA->(List BA->Prop)->Prop
def J1(x:List BA)(K:List BA->Prop):Prop:=K (srt x)
abbrev Wg:=List BA->(List BA->Prop)->Prop
def Wh(s:List BA)(K:List BA->Prop):Prop:=K (cpt s)
abbrev H1:=Ex->(List BA->Prop)->Prop
def q7w(q6q:q0z)(Qu:Z5)(Jj:Wg):H1:=fun e K=>q6q (Ex.mk e.1 e.2 e.3 e.4 e.5) fun Qa=>Fits Qa->Lp2 (fun Qf Zs q8d=>CAt Qa Zs (fun y3=>Cnd (y3.1=5) (Sml (Qf++[y3.3]).length/\InI (Zs+1)/\q8d (Qf++[y3.3]) (Zs+1)) (InI (Zs+1)/\q8d Qf (Zs+1))) (Qu Qf fun Qg=>Jj Qg fun Qe=>K Qe)) [] (0:Int)
def q1j:H1:=q7w z3h J1 Wh
abbrev z54:=List BA->List Edg->(List BA->Int->Prop)->Prop
def P_graph_Order(nodes:List BA)(edges:List Edg)(K:List BA->Int->Prop):Prop:=Go.Fl.P_graph_Order nodes (edges.map fun e=>(e.1,e.2)) K
abbrev R7:=List Seg->(List BA->Int->Prop)->Prop
def z0s(q1u:H1)(q9f:z54):R7:=fun l K=>Fits l->Lp3 (fun Qc Z9 z8f y72=>CAt l z8f (fun y2=>Sml (Qc++[y2.1]).length/\q1u (Ex.mk y2.5.1 y2.5.2 y2.5.3 y2.5.4 y2.5.5) fun Qe=>Fits Qe->Lp2 (fun Zx z34 y79=>CAt Qe z34 (fun y7=>Sml (Zx++[Edg.mk y2.1 y7]).length/\InI (z34+1)/\y79 (Zx++[Edg.mk y2.1 y7]) (z34+1)) (InI (z8f+1)/\y72 (Qc++[y2.1]) Zx (z8f+1))) Z9 (0:Int)) (q9f Qc Z9 fun Qf Zs=>K Qf Zs)) [] [] (0:Int)
def q3l:R7:=z0s q1j P_graph_Order
abbrev Gj:=Subj->BA->(Int->Prop)->Prop
def R8:Gj:=fun s kind K=>Fits s.1->Lp1 (fun Qc q0c=>CAt s.1 Qc (fun y2=>Cnd (y2.1=kind) (K Qc) (InI (Qc+1)/\q0c (Qc+1))) (K (-1:Int))) (0:Int)
abbrev Gk:=Attr->(Attr->Prop)->Prop
def q5f(Q8:Wo):Gk:=fun a K=>Q8 (Val.mk a.2.1 a.2.2 a.2.3 a.2.4) fun Qa=>K (Attr.mk a.1 Qa)
def Bx:Gk:=q5f J3
abbrev R9:=Ctxt->(Ctxt->Prop)->Prop
def z0t(q0g:Gk):R9:=fun c K=>Fits c.3->(0<=(0:Int)/\0<=(↑c.3.length:Int)/\Sml (↑c.3.length:Int).toNat)/\(Fits c.3->Lp2 (fun Qf Zs q8d=>CAt c.3 Zs (fun y3=>q0g (Attr.mk y3.1 (Val.mk y3.2.1 y3.2.2 y3.2.3 y3.2.4)) fun Ql=>Sml (Qf++[Attr.mk Ql.1 (Val.mk Ql.2.1 Ql.2.2 Ql.2.3 Ql.2.4)]).length/\InI (Zs+1)/\q8d (Qf++[Attr.mk Ql.1 (Val.mk Ql.2.1 Ql.2.2 Ql.2.3 Ql.2.4)]) (Zs+1)) (K (Ctxt.mk c.1 c.2 Qf))) (List.replicate (Int.toNat 0) (Attr.mk (B8 []) (Val.mk (0:Int) (0:Int) (B8 []) []))) (0:Int))
def q3m:R9:=z0t Bx
abbrev Z3:=Subj->BA->(Ctxt->Bool->Prop)->Prop
def z3i(J8:Gj)(q40:R9):Z3:=fun s kind K=>J8 (Subj.mk s.1) kind fun Qa=>Cnd (Qa<0) (K (Ctxt.mk (B8 []) (B8 []) []) false) (At s.1 Qa fun y1=>q40 y1 fun Qg=>K Qg true)
def Vv:Z3:=z3i R8 q3m
abbrev W7:=Subj->BA->BA->(Val->Bool->Prop)->Prop
def q7x(J8:Gj)(Q8:Wo):W7:=fun s kind name K=>J8 (Subj.mk s.1) kind fun Qa=>Cnd (Qa<0) (K (Val.mk (0:Int) (0:Int) (B8 []) []) false) (At s.1 Qa fun y1=>Cnd (name=B8 [107,101,121]) (K (Val.mk (3:Int) (0:Int) y1.2 []) true) (Fits y1.3->Lp5 (fun Qe J2 j7e y8a (u82:List BA) u7z=>CAt y1.3 Qe (fun y5=>Cnd (y5.1=name) (Q8 (Val.mk y5.2.1 y5.2.2 y5.2.3 y5.2.4) fun Qn=>K Qn true) (InI (Qe+1)/\u7z (Qe+1) J2 j7e y8a u82)) (K (Val.mk (0:Int) (0:Int) (B8 []) []) false)) (0:Int) (0:Int) (0:Int) (B8 []) []))
def H2:W7:=q7x R8 J3
abbrev q3n:=Val->Val->(Bool->Prop)->Prop
def z55(Qr:Zf):q3n:=fun a b K=>Cnd (a.1=b.1) (Cnd (a.2=b.2) (Cnd (a.3=b.3) (Qr a.4 b.4 fun Qa=>K Qa) (K false)) (K false)) (K false)
def q3o:q3n:=z55 Z1
abbrev Jg:=BA->BA->(Bool->Prop)->Prop
def J4:Jg:=fun s prefix_ K=>Cnd ((↑prefix_.size:Int)<=(↑s.size:Int)) ((0<=(0:Int)/\0<=(↑prefix_.size:Int)/\(↑prefix_.size:Int)<=(↑s.size:Int))/\K (decide (s.extract (Int.toNat 0) (↑prefix_.size:Int).toNat=prefix_))) (K false)
abbrev V5:=BA->BA->(Bool->Prop)->Prop
def q18(Q9:Jg):V5:=fun s prefix_ K=>Q9 s prefix_ fun Qa=>K Qa
def G5:V5:=q18 J4
abbrev Vg:=BA->BA->(Bool->Prop)->Prop
def G6:Vg:=fun s suffix K=>Cnd ((↑suffix.size:Int)<=(↑s.size:Int)) (InI ((↑s.size:Int) - (↑suffix.size:Int))/\(0<=(↑s.size:Int) - (↑suffix.size:Int)/\(↑s.size:Int) - (↑suffix.size:Int)<=(↑s.size:Int)/\(↑s.size:Int)<=(↑s.size:Int))/\K (decide (s.extract ((↑s.size:Int) - (↑suffix.size:Int)).toNat (↑s.size:Int).toNat=suffix))) (K false)
abbrev V6:=BA->BA->(Bool->Prop)->Prop
def q19(Vm:Vg):V6:=fun s suffix K=>Vm s suffix fun Qa=>K Qa
def G7:V6:=q19 G6
abbrev q3p:=BA->BA->(Bool->Prop)->Prop
def q3q(s:BA)(substr:BA)(K:Bool->Prop):Prop:=s.size<4294967281/\K (Go.Lib.contains s.data.toList substr.data.toList)
abbrev q8q:=Val->(Bool->Prop)->Prop
def q8r:q8q:=fun v K=>Jn1 (fun Qa=>Cnd (Qa=true) (Cnd (v.3=B8 []) (Fits v.4->K (decide ((↑v.4.length:Int)=0))) (K false)) (Jn1 (fun Qc=>Cnd (Qc=true) (Cnd (v.2=0) (Fits v.4->K (decide ((↑v.4.length:Int)=0))) (K false)) (Cnd (v.2=0) (K (decide (v.3=B8 []))) (K false))) fun j92=>Cnd (v.1=3) (j92 (decide (v.1=3))) (j92 (decide (v.1=4))))) fun q0r=>Cnd (v.1=1) (q0r (decide (v.1=1))) (q0r (decide (v.1=2)))
abbrev q69:=BA->(Bool->Prop)->Prop
def z84(Z6:Up):q69:=fun s K=>Cnd (200<(↑s.size:Int)) (K false) (Z6 s fun Qa=>Cnd (Qa=true) (Lp1 (fun (Qc:BA×Nat) q0c=>Cnd (Qc.2<Qc.1.size) (Cnd ((↑(Go.Utf8.decode Qc.1 Qc.2).1:Int)<(32:Int)) (K false) (Cnd ((↑(Go.Utf8.decode Qc.1 Qc.2).1:Int)=(127:Int)) (K false) (q0c (Qc.1,Qc.2+(Go.Utf8.decode Qc.1 Qc.2).2)))) (K true)) (s,(0:Nat))) (K false))
def z14:q69:=z84 Uq
abbrev z0u:=BA->BA->(List BA->Prop)->Prop
def z0v(s:BA)(sep:BA)(K:List BA->Prop):Prop:=sep.size=1/\s.size<4294967281/\K (q2n s sep)
abbrev J5:=BA->BA->(BA->Bool->Prop)->Prop
def G8(Q9:Jg):J5:=fun s prefix_ K=>Q9 s prefix_ fun Qa=>Cnd (Qa=true) ((0<=(↑prefix_.size:Int)/\(↑prefix_.size:Int)<=(↑s.size:Int)/\(↑s.size:Int)<=(↑s.size:Int))/\K (s.extract (↑prefix_.size:Int).toNat (↑s.size:Int).toNat) true) (K s false)
def G9:J5:=G8 J4
abbrev V7:=BA->BA->(BA->Bool->Prop)->Prop
def q2a(Vn:J5):V7:=fun s prefix_ K=>Vn s prefix_ fun Qa Qv=>K Qa Qv
def Ha:V7:=q2a G9
abbrev z3j:=BA->(Int->Bool->Prop)->Prop
def q57(s:BA)(K:Int->Bool->Prop):Prop:=s.size<=281474976710656/\y9s s K
abbrev Ut:=BA->(Int->Int->Prop)->Prop
def q3r(Hq:V7)(q1a:z3j):Ut:=fun s K=>Hq s (B8 [45]) fun Qa Qv=>Cnd (Qa=B8 []) (K 0 (1:Int)) ((0<=(0:Int)/\0<(↑Qa.size:Int))/\∀b1,Qa[Int.toNat 0]? =some b1->Cnd ((↑b1.toNat:Int)=48) (Cnd (1<(↑Qa.size:Int)) (K 0 (1:Int)) (Cnd (Qv=true) (K 0 (1:Int)) (Lp1 (fun (Qg:BA×Nat) j4z=>Cnd (Qg.2<Qg.1.size) (Cnd ((↑(Go.Utf8.decode Qg.1 Qg.2).1:Int)<(48:Int)) (K 0 (1:Int)) (Cnd (57<(↑(Go.Utf8.decode Qg.1 Qg.2).1:Int)) (K 0 (1:Int)) (j4z (Qg.1,Qg.2+(Go.Utf8.decode Qg.1 Qg.2).2)))) (q1a s fun Qe J2=>Cnd ((match (Qe,J2,()).2.1 with|true=>false|false=>true)=true) (K 0 (3:Int)) (Cnd (Qe<(-1099511627776:Int)) (K 0 (3:Int)) (Cnd (1099511627776<Qe) (K 0 (3:Int)) (K Qe (0:Int)))))) (Qa,(0:Nat))))) (Lp1 (fun (Qg:BA×Nat) j4z=>Cnd (Qg.2<Qg.1.size) (Cnd ((↑(Go.Utf8.decode Qg.1 Qg.2).1:Int)<(48:Int)) (K 0 (1:Int)) (Cnd (57<(↑(Go.Utf8.decode Qg.1 Qg.2).1:Int)) (K 0 (1:Int)) (j4z (Qg.1,Qg.2+(Go.Utf8.decode Qg.1 Qg.2).2)))) (q1a s fun Qe J2=>Cnd ((match (Qe,J2,()).2.1 with|true=>false|false=>true)=true) (K 0 (3:Int)) (Cnd (Qe<(-1099511627776:Int)) (K 0 (3:Int)) (Cnd (1099511627776<Qe) (K 0 (3:Int)) (K Qe (0:Int)))))) (Qa,(0:Nat))))
def Rm:Ut:=q3r Ha q57
abbrev Hb:=BA->(A3->Bool->Prop)->Prop
def z56(q41:z0u)(Rt:Ut):Hb:=fun s K=>q41 s (B8 [46]) fun Qa=>Fits Qa->Cnd ((↑Qa.length:Int)=3) (Fits Qa->LpH (fun (Qg:Int×Int×Int×Int×Int×Int×Int×Unit) j4z=>CAt Qa Qg.1 (fun y4=>Rt y4 fun Zx z34=>Cnd (z34=0) (Cnd (Zx<0) (K ((0:Int),(0:Int),(0:Int)) false) (Cnd (999999<Zx) (K ((0:Int),(0:Int),(0:Int)) false) ((0<=Qg.1/\Qg.1<(↑(3:Nat):Int))/\((True/\(Qg.1=(↑(nat_lit 0):Int)->InI (Qg.1+1)/\j4z (Qg.1+1,Zx,Qg.2.2.1,Qg.2.2.2.1,Qg.2.2.2.2.1,Qg.2.2.2.2.2.1,Qg.2.2.2.2.2.2.1,())))/\(Qg.1=(↑(nat_lit 1):Int)->InI (Qg.1+1)/\j4z (Qg.1+1,Qg.2.1,Zx,Qg.2.2.2.1,Qg.2.2.2.2.1,Qg.2.2.2.2.2.1,Qg.2.2.2.2.2.2.1,())))/\(Qg.1=(↑(nat_lit 2):Int)->InI (Qg.1+1)/\j4z (Qg.1+1,Qg.2.1,Qg.2.2.1,Zx,Qg.2.2.2.2.1,Qg.2.2.2.2.2.1,Qg.2.2.2.2.2.2.1,()))))) (K ((0:Int),(0:Int),(0:Int)) false)) (K (Qg.2.1,Qg.2.2.1,Qg.2.2.2.1) true)) ((0:Int),(0:Int),(0:Int),(0:Int),(0:Int),(0:Int),(0:Int),())) (K ((0:Int),(0:Int),(0:Int)) false)
def q3s:Hb:=z56 z0v Rm
abbrev q3t:=Val->(Int->Prop)->Prop
def z57(q9g:q8q)(q7n:q69)(Wq:Hb):q3t:=fun v K=>Cnd (v.1<1) (K 7) (Cnd (5<v.1) (K 7) (q9g v fun Qa=>Cnd (Qa=true) (Cnd (v.1=1) (Cnd (v.2=0) (K 0) (Cnd (v.2=1) (K 0) (K 3))) (Cnd (v.1=2) (Cnd (v.2<(-1099511627776:Int)) (K 3) (Cnd (1099511627776<v.2) (K 3) (K 0))) (Cnd (v.1=3) (q7n v.3 fun Qc=>Cnd (Qc=true) (K 0) (K 2)) (Cnd (v.1=4) (Wq v.3 fun (Qc:Int×Int×Int) Z9=>Cnd (Z9=true) (K 0) (K 1)) (Cnd (v.1=5) (Fits v.4->Cnd (20<(↑v.4.length:Int)) (K 5) (Fits v.4->Lp1 (fun Qg j4z=>CAt v.4 Qg (fun y4=>q7n y4 fun Zx=>Cnd (Zx=true) (InI (Qg+1)/\j4z (Qg+1)) (K 2)) (Fits v.4->Lp1 (fun Ql w2y=>Cnd (Ql<(↑v.4.length:Int)) (Cnd (0<Ql) (InI (Ql - 1)/\(0<=Ql - 1/\Ql - 1<(↑v.4.length:Int))/\∀y6,v.4[(Ql - 1).toNat]? =some y6->At v.4 Ql fun y8=>Cnd (Lk.blt y6 y8) (InI (Ql+1)/\w2y (Ql+1)) (K 9)) (InI (Ql+1)/\w2y (Ql+1))) (K 0)) (0:Int))) (0:Int))) (K 0)))))) (K 15)))
def q8s:q3t:=z57 q8r z14 q3s
abbrev Ba:=Val->Val->(Int->Int->Prop)->Prop
def z0w(q42:q3t)(Wq:Hb):Ba:=fun a b K=>q42 a fun Qa=>Cnd (Qa=0) (q42 b fun Qc=>Cnd (Qc=0) (Cnd (a.1=b.1) (Cnd (a.1=1) (K 0 (8:Int)) (Cnd (a.1=5) (K 0 (8:Int)) (Cnd (a.1=2) (Cnd (a.2=a.2) (Cnd (b.2=b.2) (Cnd (a.2<b.2) (K (-1:Int) (0:Int)) (Cnd (b.2<a.2) (K 1 (0:Int)) (K 0 (0:Int)))) (K 1 (0:Int))) (Cnd (b.2=b.2) (K (-1:Int) (0:Int)) (K 0 (0:Int)))) (Cnd (a.1=3) (Cnd (a.3=a.3) (Cnd (b.3=b.3) (Cnd (Lk.blt a.3 b.3) (K (-1:Int) (0:Int)) (Cnd (Lk.blt b.3 a.3) (K 1 (0:Int)) (K 0 (0:Int)))) (K 1 (0:Int))) (Cnd (b.3=b.3) (K (-1:Int) (0:Int)) (K 0 (0:Int)))) (Wq a.3 fun (Qf:Int×Int×Int) Zs=>Wq b.3 fun (Qg:Int×Int×Int) V1=>Two (([Qf.1,Qf.2.1,Qf.2.2].length<=(9223372036854775807:Nat)->Lp1 (fun Ql w2y=>Cnd (Ql<(↑[Qf.1,Qf.2.1,Qf.2.2].length:Int)) ((0<=Ql/\Ql<(↑[Qf.1,Qf.2.1,Qf.2.2].length:Int))/\∀y6,[Qf.1,Qf.2.1,Qf.2.2][Ql.toNat]? =some y6->[Qg.1,Qg.2.1,Qg.2.2].length<=(9223372036854775807:Nat)->Cnd ((↑[Qg.1,Qg.2.1,Qg.2.2].length:Int)<=Ql) (K 1 (0:Int)) ((0<=Ql/\Ql<(↑[Qg.1,Qg.2.1,Qg.2.2].length:Int))/\∀y9,[Qg.1,Qg.2.1,Qg.2.2][Ql.toNat]? =some y9->Cnd (y6=y6) (Cnd (y9=y9) (Cnd (y6<y9) (Cnd ((-1:Int)=(0:Int)) (InI (Ql+1)/\w2y (Ql+1)) (K (-1:Int) (0:Int))) (Cnd (y9<y6) (Cnd ((1:Int)=(0:Int)) (InI (Ql+1)/\w2y (Ql+1)) (K 1 (0:Int))) (Cnd ((0:Int)=(0:Int)) (InI (Ql+1)/\w2y (Ql+1)) (K 0 (0:Int))))) (Cnd ((1:Int)=(0:Int)) (InI (Ql+1)/\w2y (Ql+1)) (K 1 (0:Int)))) (Cnd (y9=y9) (Cnd ((-1:Int)=(0:Int)) (InI (Ql+1)/\w2y (Ql+1)) (K (-1:Int) (0:Int))) (Cnd ((0:Int)=(0:Int)) (InI (Ql+1)/\w2y (Ql+1)) (K 0 (0:Int)))))) ([Qf.1,Qf.2.1,Qf.2.2].length<=(9223372036854775807:Nat)->[Qg.1,Qg.2.1,Qg.2.2].length<=(9223372036854775807:Nat)->Cnd ((↑[Qf.1,Qf.2.1,Qf.2.2].length:Int)<(↑[Qg.1,Qg.2.1,Qg.2.2].length:Int)) (K (-1:Int) (0:Int)) (K 0 (0:Int)))) (0:Int)))))))) (K 0 (8:Int))) (K 0 Qc)) (K 0 Qa)
def Bb:Ba:=z0w q8s q3s
abbrev q3u:=Subj->Ex->(Bool->Prop)->Prop
def z58(Jx:W7)(Vl:Bw)(q0h:q3n)(Hr:V5)(Hs:V6)(Ru:q3p)(Bm:Ba):q3u:=fun s e K=>Jx (Subj.mk s.1) e.2 e.3 fun Qa Qv=>Cnd (Qv=true) (Vl e.1 fun Qc=>Cnd (Qc=true) (Cnd (e.1=6) (K true) (Cnd (e.1=8) (Fits e.4->Lp1 (fun Qg j4z=>CAt e.4 Qg (fun y4=>q0h Qa y4 fun Zx=>Cnd (Zx=true) (K (decide (0<=Qg))) (InI (Qg+1)/\j4z (Qg+1))) (K (decide (0<=(-1:Int))))) (0:Int)) (Fits e.4->Cnd ((↑e.4.length:Int)=0) (K false) ((0<=(0:Int)/\0<(↑e.4.length:Int))/\∀y3,e.4[Int.toNat 0]? =some y3->Cnd (Qa.1=3) (Cnd (e.1=7) (q0h Qa y3 fun Ql=>K Ql) (Cnd (e.1=9) (Cnd (y3.1=3) (Hr Qa.3 y3.3 fun Ql=>K Ql) (K false)) (Cnd (e.1=10) (Cnd (y3.1=3) (Hs Qa.3 y3.3 fun Ql=>K Ql) (K false)) (Cnd (e.1=11) (Cnd (y3.1=3) (Ru Qa.3 y3.3 fun Ql=>Cnd (Ql=true) (K true) (Cnd (y3.1=3) (Cnd (Qa.1=5) (Fits Qa.4->Lp1 (fun Qn v18=>CAt Qa.4 Qn (fun y8=>Cnd (y3.3=y8) (K (decide (0<=Qn))) (InI (Qn+1)/\v18 (Qn+1))) (K (decide (0<=(-1:Int))))) (0:Int)) (K false)) (K false))) (Cnd (y3.1=3) (Cnd (Qa.1=5) (Fits Qa.4->Lp1 (fun Zx y3o=>CAt Qa.4 Zx (fun y7=>Cnd (y3.3=y7) (K (decide (0<=Zx))) (InI (Zx+1)/\y3o (Zx+1))) (K (decide (0<=(-1:Int))))) (0:Int)) (K false)) (K false))) (Bm Qa y3 fun Ql q8e=>Cnd (q8e=0) (Cnd (e.1=12) (K (decide (Ql<0))) (Cnd (e.1=13) (K (decide (Ql<=0))) (Cnd (e.1=14) (K (decide (0<Ql))) (K (decide (0<=Ql)))))) (K false)))))) (Cnd (e.1=7) (q0h Qa y3 fun Ql=>K Ql) (Cnd (e.1=9) (K false) (Cnd (e.1=10) (K false) (Cnd (e.1=11) (Cnd (y3.1=3) (Cnd (Qa.1=5) (Fits Qa.4->Lp1 (fun Zx y3o=>CAt Qa.4 Zx (fun y7=>Cnd (y3.3=y7) (K (decide (0<=Zx))) (InI (Zx+1)/\y3o (Zx+1))) (K (decide (0<=(-1:Int))))) (0:Int)) (K false)) (K false)) (Bm Qa y3 fun Ql q8e=>Cnd (q8e=0) (Cnd (e.1=12) (K (decide (Ql<0))) (Cnd (e.1=13) (K (decide (Ql<=0))) (Cnd (e.1=14) (K (decide (0<Ql))) (K (decide (0<=Ql)))))) (K false)))))))))) (K false)) (K false)
def By:q3u:=z58 H2 G4 q3o G5 G7 q3q Bb
abbrev Jv:=Subj->List BA->Ex->(Bool->Prop)->Prop
def z59(q9h:q3u)(X:Jv):Jv:=fun s in_ e K=>Cnd (e.1=1) (K true) (Cnd (e.1=2) (Fits e.5->Lp1 (fun Qc q0c=>CAt e.5 Qc (fun y2=>X (Subj.mk s.1) in_ (Ex.mk y2.1 y2.2 y2.3 y2.4 y2.5) fun Qe=>Cnd (Qe=true) (InI (Qc+1)/\q0c (Qc+1)) (K (match decide (0<=Qc) with|true=>false|false=>true))) (K true)) (0:Int)) (Cnd (e.1=3) (Fits e.5->Lp1 (fun Qc q0c=>CAt e.5 Qc (fun y2=>X (Subj.mk s.1) in_ (Ex.mk y2.1 y2.2 y2.3 y2.4 y2.5) fun Qe=>Cnd (Qe=true) (K (decide (0<=Qc))) (InI (Qc+1)/\q0c (Qc+1))) (K (decide (0<=(-1:Int))))) (0:Int)) (Cnd (e.1=4) (Fits e.5->Cnd (0<(↑e.5.length:Int)) ((0<=(0:Int)/\0<(↑e.5.length:Int))/\∀y1,e.5[Int.toNat 0]? =some y1->X (Subj.mk s.1) in_ (Ex.mk y1.1 y1.2 y1.3 y1.4 y1.5) fun Qg=>K (match decide ((Qg,()).1=true) with|true=>false|false=>true)) (K false)) (Cnd (e.1=5) (Fits in_->Lp1 (fun Qc q0c=>CAt in_ Qc (fun y2=>Cnd (e.3=y2) (K (decide (0<=Qc))) (InI (Qc+1)/\q0c (Qc+1))) (K (decide (0<=(-1:Int))))) (0:Int)) (q9h (Subj.mk s.1) (Ex.mk e.1 e.2 e.3 e.4 e.5) fun Qa=>K Qa)))))
def Uu:Jv:=fun s in_ e K=> ∀X:Jv,(∀s in_ e K,z59 By X s in_ e K->X s in_ e K)->X s in_ e K
abbrev Uv:=Seg->Subj->List BA->(Bool->Prop)->Prop
def q3v(Qo:Z3)(Zi:Jv):Uv:=fun g s in_ K=>Qo (Subj.mk s.1) g.2 fun Qa Qv=>Cnd (Qv=true) (Fits g.4->Lp1 (fun Qf j2o=>CAt g.4 Qf (fun y3=>Cnd (Qa.2=y3) (Cnd (0<=Qf) (K false) (Fits g.3->Lp1 (fun Zx y3o=>CAt g.3 Zx (fun y7=>Cnd (Qa.2=y7) (Cnd (0<=Zx) (K true) (Cnd (g.5.1=0) (K false) (Zi (Subj.mk s.1) in_ (Ex.mk g.5.1 g.5.2 g.5.3 g.5.4 g.5.5) fun Qp=>K Qp))) (InI (Zx+1)/\y3o (Zx+1))) (Cnd (0<=(-1:Int)) (K true) (Cnd (g.5.1=0) (K false) (Zi (Subj.mk s.1) in_ (Ex.mk g.5.1 g.5.2 g.5.3 g.5.4 g.5.5) fun Qn=>K Qn)))) (0:Int))) (InI (Qf+1)/\j2o (Qf+1))) (Cnd (0<=(-1:Int)) (K false) (Fits g.3->Lp1 (fun Qe v2c=>CAt g.3 Qe (fun y5=>Cnd (Qa.2=y5) (Cnd (0<=Qe) (K true) (Cnd (g.5.1=0) (K false) (Zi (Subj.mk s.1) in_ (Ex.mk g.5.1 g.5.2 g.5.3 g.5.4 g.5.5) fun Qn=>K Qn))) (InI (Qe+1)/\v2c (Qe+1))) (Cnd (0<=(-1:Int)) (K true) (Cnd (g.5.1=0) (K false) (Zi (Subj.mk s.1) in_ (Ex.mk g.5.1 g.5.2 g.5.3 g.5.4 g.5.5) fun Ql=>K Ql)))) (0:Int)))) (0:Int)) (K false)
def Rn:Uv:=q3v Vv Uu
abbrev Wi:=List Seg->Subj->(List BA->Prop)->Prop
def q5g(q43:R7)(Rv:Uv)(Qu:Z5):Wi:=fun l s K=>q43 l fun Qa Qv=>Cnd (Qv=0) (Fits l->Lp2 (fun Qf j2o q8d=>CAt l Qf (fun y3=>InI (Qf+1)/\q8d (Qf+1) (put j2o y3.1 (Seg.mk y3.1 y3.2 y3.3 y3.4 (Ex.mk y3.5.1 y3.5.2 y3.5.3 y3.5.4 y3.5.5)))) (Fits Qa->Lp2 (fun Qe J2 v5t=>CAt Qa J2 (fun y5=>Rv (Seg.mk ((j2o y5).getD (Seg.mk (B8 []) (B8 []) [] [] (Ex.mk (0:Int) (B8 []) (B8 []) [] []))).1 ((j2o y5).getD (Seg.mk (B8 []) (B8 []) [] [] (Ex.mk (0:Int) (B8 []) (B8 []) [] []))).2 ((j2o y5).getD (Seg.mk (B8 []) (B8 []) [] [] (Ex.mk (0:Int) (B8 []) (B8 []) [] []))).3 ((j2o y5).getD (Seg.mk (B8 []) (B8 []) [] [] (Ex.mk (0:Int) (B8 []) (B8 []) [] []))).4 (Ex.mk ((j2o y5).getD (Seg.mk (B8 []) (B8 []) [] [] (Ex.mk (0:Int) (B8 []) (B8 []) [] []))).5.1 ((j2o y5).getD (Seg.mk (B8 []) (B8 []) [] [] (Ex.mk (0:Int) (B8 []) (B8 []) [] []))).5.2 ((j2o y5).getD (Seg.mk (B8 []) (B8 []) [] [] (Ex.mk (0:Int) (B8 []) (B8 []) [] []))).5.3 ((j2o y5).getD (Seg.mk (B8 []) (B8 []) [] [] (Ex.mk (0:Int) (B8 []) (B8 []) [] []))).5.4 ((j2o y5).getD (Seg.mk (B8 []) (B8 []) [] [] (Ex.mk (0:Int) (B8 []) (B8 []) [] []))).5.5)) (Subj.mk s.1) Qe fun Qn=>Cnd (Qn=true) (Sml (Qe++[y5]).length/\InI (J2+1)/\v5t (Qe++[y5]) (J2+1)) (InI (J2+1)/\v5t Qe (J2+1))) (Qu Qe fun Ql=>K Ql)) [] (0:Int))) (0:Int) fun _=>none) (K [])
def Vz:Wi:=q5g q3l Rn J1
abbrev W8:=Envt->Subj->List Frc->(BA->BA->Int->List Decl->List Seg->List Flg->List Lay_->List Exper->List Ctxt->List Frc->List BA->(BA->Option (Dcs))->(BA->Option (Bool))->Prop)->Prop
def q7y(Zc:Wi):W8:=fun v s forced K=>(Zc v.3 (Subj.mk s.1) fun Qa=>(K v.1.1 v.1.2 v.1.3 v.2 v.3 v.4 v.5 v.6 s.1 forced Qa (fun _=>none) fun _=>none)/\K v.1.1 v.1.2 v.1.3 v.2 v.3 v.4 v.5 v.6 s.1 forced Qa (fun _=>none) fun _=>none)/\((Zc v.3 (Subj.mk s.1) fun Qa=>K v.1.1 v.1.2 v.1.3 v.2 v.3 v.4 v.5 v.6 s.1 forced Qa (fun _=>none) fun _=>none)/\Zc v.3 (Subj.mk s.1) fun Qa=>K v.1.1 v.1.2 v.1.3 v.2 v.3 v.4 v.5 v.6 s.1 forced Qa (fun _=>none) fun _=>none)/\(Zc v.3 (Subj.mk s.1) fun Qa=>K v.1.1 v.1.2 v.1.3 v.2 v.3 v.4 v.5 v.6 s.1 forced Qa (fun _=>none) fun _=>none)/\Zc v.3 (Subj.mk s.1) fun Qa=>K v.1.1 v.1.2 v.1.3 v.2 v.3 v.4 v.5 v.6 s.1 forced Qa (fun _=>none) fun _=>none
def H3:W8:=q7y Vz
abbrev Ww:=BA->BA->Int->List Decl->List Seg->List Flg->List Lay_->List Exper->List Ctxt->List Frc->List BA->(BA->Option (Dcs))->(BA->Option (Bool))->BA->(Flg->Bool->(BA->Option (Dcs))->(BA->Option (Bool))->Prop)->Prop
def J6:Ww:=fun _ _ _ _ _ flags _ _ _ _ _ done opn key K=>Fits flags->Lp1 (fun Qc q0c=>CAt flags Qc (fun y2=>Cnd (y2.1=key) (Cnd (Qc<0) (K (Flg.mk (B8 []) (0:Int) [] false (0:Int) [] [] [] (Srv.mk (0:Int) (B8 []) (B8 []) (B8 []) [])) false done opn) (At flags Qc fun y4=>K (Flg.mk y4.1 y4.2 y4.3 y4.4 y4.5 y4.6 y4.7 y4.8 (Srv.mk y4.9.1 y4.9.2 y4.9.3 y4.9.4 y4.9.5)) true done opn)) (InI (Qc+1)/\q0c (Qc+1))) (Cnd ((-1:Int)<(0:Int)) (K (Flg.mk (B8 []) (0:Int) [] false (0:Int) [] [] [] (Srv.mk (0:Int) (B8 []) (B8 []) (B8 []) [])) false done opn) (At flags (-1:Int) fun y2=>K (Flg.mk y2.1 y2.2 y2.3 y2.4 y2.5 y2.6 y2.7 y2.8 (Srv.mk y2.9.1 y2.9.2 y2.9.3 y2.9.4 y2.9.5)) true done opn))) (0:Int)
abbrev Gl:=Flg->Subj->(Int->Prop)->Prop
def q5h(Qo:Z3):Gl:=fun f s K=>Fits f.7->Lp1 (fun Qc q0c=>CAt f.7 Qc (fun y2=>Qo (Subj.mk s.1) y2.1 fun Qe J2=>Cnd (J2=true) (Fits y2.3->Lp1 (fun Zx y3o=>CAt y2.3 Zx (fun y7=>Cnd (Qe.2=y7) (Cnd (0<=Zx) (InI (Qc+1)/\K (Qc+1)) (InI (Qc+1)/\q0c (Qc+1))) (InI (Zx+1)/\y3o (Zx+1))) (Cnd (0<=(-1:Int)) (InI (Qc+1)/\K (Qc+1)) (InI (Qc+1)/\q0c (Qc+1)))) (0:Int)) (InI (Qc+1)/\q0c (Qc+1))) (K 0)) (0:Int)
def V0:Gl:=q5h Vv
abbrev q58:=List (List Int)->(List Int->Prop)->Prop
def q59:q58:=fun fields K=>Fits fields->Lp2 (fun Qc Z9 j0n=>CAt fields Z9 (fun y2=>Lp2 (fun Qe J2 v5t=>Cnd (0<=J2) (Fits y2->InI (8*J2)/\0<=8*J2/\Sml (Qe++[IntKind.u8.wrap ((IntKind.u64.wrap (↑y2.length:Int)).fdiv ((2:Int) ^ Min.min (8*J2).toNat (64:Nat)))]).length/\InI (J2 - 1)/\v5t (Qe++[IntKind.u8.wrap ((IntKind.u64.wrap (↑y2.length:Int)).fdiv ((2:Int) ^ Min.min (8*J2).toNat (64:Nat)))]) (J2 - 1)) (Sml (Qe++y2).length/\InI (Z9+1)/\j0n (Qe++y2) (Z9+1))) Qc (7:Int)) (K Qc)) [] (0:Int)
abbrev Hc:=Int->Int->(Int->Prop)->Prop
def Hd:Hc:=fun x k K=>0<=IntKind.u64.wrap (↑(BitVec.ofInt (64:Nat) (IntKind.u64.wrap k) &&& BitVec.ofInt (64:Nat) (63:Int)).toNat:Int)/\0<=IntKind.u64.wrap ((64:Int) - IntKind.u64.wrap (↑(BitVec.ofInt (64:Nat) (IntKind.u64.wrap k) &&& BitVec.ofInt (64:Nat) (63:Int)).toNat:Int))/\K (IntKind.u64.wrap (↑(BitVec.ofInt (64:Nat) (IntKind.u64.wrap (x*2 ^ Min.min (IntKind.u64.wrap (↑(BitVec.ofInt (64:Nat) (IntKind.u64.wrap k) &&& BitVec.ofInt (64:Nat) (63:Int)).toNat:Int)).toNat (64:Nat)))|||BitVec.ofInt (64:Nat) (x.fdiv ((2:Int) ^ Min.min (IntKind.u64.wrap ((64:Int) - IntKind.u64.wrap (↑(BitVec.ofInt (64:Nat) (IntKind.u64.wrap k) &&& BitVec.ofInt (64:Nat) (63:Int)).toNat:Int))).toNat (64:Nat)))).toNat:Int))
abbrev Jn:=Int->Int->Int->Int->Int->(Int->Int->Int->Int->Prop)->Prop
def q0m(Zy:Hc):Jn:=fun v0 v1 v2 v3 n K=>Lp5 (fun Qa Qv z5d q48 w0q u5o=>Cnd (Qa<n) (Zy z5d (13:Int) fun Qc=>Zy (IntKind.u64.wrap (Qv+z5d)) (32:Int) fun Qf=>Zy w0q (16:Int) fun Qg=>Zy (IntKind.u64.wrap (↑(BitVec.ofInt (64:Nat) Qg ^^^ BitVec.ofInt (64:Nat) (IntKind.u64.wrap (q48+w0q))).toNat:Int)) (21:Int) fun Qe=>Zy (IntKind.u64.wrap (↑(BitVec.ofInt (64:Nat) Qc ^^^ BitVec.ofInt (64:Nat) (IntKind.u64.wrap (Qv+z5d))).toNat:Int)) (17:Int) fun Ql=>Zy (IntKind.u64.wrap (IntKind.u64.wrap (q48+w0q)+IntKind.u64.wrap (↑(BitVec.ofInt (64:Nat) Qc ^^^ BitVec.ofInt (64:Nat) (IntKind.u64.wrap (Qv+z5d))).toNat:Int))) (32:Int) fun Zx=>InI (Qa+1)/\u5o (Qa+1) (IntKind.u64.wrap (Qf+IntKind.u64.wrap (↑(BitVec.ofInt (64:Nat) Qg ^^^ BitVec.ofInt (64:Nat) (IntKind.u64.wrap (q48+w0q))).toNat:Int))) (IntKind.u64.wrap (↑(BitVec.ofInt (64:Nat) Ql ^^^ BitVec.ofInt (64:Nat) (IntKind.u64.wrap (IntKind.u64.wrap (q48+w0q)+IntKind.u64.wrap (↑(BitVec.ofInt (64:Nat) Qc ^^^ BitVec.ofInt (64:Nat) (IntKind.u64.wrap (Qv+z5d))).toNat:Int)))).toNat:Int)) Zx (IntKind.u64.wrap (↑(BitVec.ofInt (64:Nat) Qe ^^^ BitVec.ofInt (64:Nat) (IntKind.u64.wrap (Qf+IntKind.u64.wrap (↑(BitVec.ofInt (64:Nat) Qg ^^^ BitVec.ofInt (64:Nat) (IntKind.u64.wrap (q48+w0q))).toNat:Int)))).toNat:Int))) (K Qv z5d q48 w0q)) (0:Int) v0 v1 v2 v3
def Z4:Jn:=q0m Hd
abbrev Uw:=Int->Int->Int->Int->Int->(Int->Int->Int->Int->Prop)->Prop
def q3w(Zq:Jn):Uw:=fun v0 v1 v2 v3 m K=>Zq v0 v1 v2 (IntKind.u64.wrap (↑(BitVec.ofInt (64:Nat) v3 ^^^ BitVec.ofInt (64:Nat) m).toNat:Int)) (2:Int) fun Qa Qv z5d q48=>K (IntKind.u64.wrap (↑(BitVec.ofInt (64:Nat) Qa ^^^ BitVec.ofInt (64:Nat) m).toNat:Int)) Qv z5d q48
def Rp:Uw:=q3w Z4
abbrev q7a:=Int->Int->List Int->(Int->Prop)->Prop
def z86(U2:Uw)(Zq:Jn):q7a:=fun k0 k1 b K=>Fits b->0<=(56:Int)/\Lp5 (fun Qc Z9 z8f j10 u12 u7j=>InI (Qc+8)/\(Fits b->Cnd (Qc+8<=(↑b.length:Int)) (Lp2 (fun Qg V1 w1u=>Cnd (V1<8) (InI (Qc+V1)/\At b (Qc+V1) fun y4=>InI (8*V1)/\0<=8*V1/\InI (V1+1)/\w1u (IntKind.u64.wrap (↑(BitVec.ofInt (64:Nat) Qg|||BitVec.ofInt (64:Nat) (IntKind.u64.wrap (IntKind.u64.wrap y4*2 ^ Min.min (8*V1).toNat (64:Nat)))).toNat:Int)) (V1+1)) (U2 Z9 z8f j10 u12 Qg fun Qe J2 j7e y8a=>InI (Qc+8)/\u7j (Qc+8) Qe J2 j7e y8a)) (0:Int) (0:Int)) (Fits b->(8:Int)≠0/\Lp2 (fun Qe J2 v5t=>Cnd (J2<(↑b.length:Int).tmod 8) (Fits b->Fits b->(8:Int)≠0/\InI ((↑b.length:Int) - (↑b.length:Int).tmod 8)/\InI ((↑b.length:Int) - (↑b.length:Int).tmod 8+J2)/\(0<=(↑b.length:Int) - (↑b.length:Int).tmod 8+J2/\(↑b.length:Int) - (↑b.length:Int).tmod 8+J2<(↑b.length:Int))/\∀y7,b[((↑b.length:Int) - (↑b.length:Int).tmod 8+J2).toNat]? =some y7->InI (8*J2)/\0<=8*J2/\InI (J2+1)/\v5t (IntKind.u64.wrap (↑(BitVec.ofInt (64:Nat) Qe|||BitVec.ofInt (64:Nat) (IntKind.u64.wrap (IntKind.u64.wrap y7*2 ^ Min.min (8*J2).toNat (64:Nat)))).toNat:Int)) (J2+1)) (U2 Z9 z8f j10 u12 Qe fun Ql q8e u83 u98=>Zq Ql q8e (IntKind.u64.wrap (↑(BitVec.ofInt (64:Nat) u83 ^^^ BitVec.ofInt (64:Nat) (255:Int)).toNat:Int)) u98 (4:Int) fun Zx z34 w89 v11=>K (IntKind.u64.wrap (↑(BitVec.ofInt (64:Nat) (IntKind.u64.wrap (↑(BitVec.ofInt (64:Nat) (IntKind.u64.wrap (↑(BitVec.ofInt (64:Nat) Zx ^^^ BitVec.ofInt (64:Nat) z34).toNat:Int)) ^^^ BitVec.ofInt (64:Nat) w89).toNat:Int)) ^^^ BitVec.ofInt (64:Nat) v11).toNat:Int)))) (IntKind.u64.wrap (IntKind.u64.wrap (↑b.length:Int)*2 ^ Min.min (Int.toNat 56) (64:Nat))) (0:Int)))) (0:Int) (IntKind.u64.wrap (↑(BitVec.ofInt (64:Nat) k0 ^^^ BitVec.ofInt (64:Nat) (8317987319222330741:Int)).toNat:Int)) (IntKind.u64.wrap (↑(BitVec.ofInt (64:Nat) k1 ^^^ BitVec.ofInt (64:Nat) (7237128888997146477:Int)).toNat:Int)) (IntKind.u64.wrap (↑(BitVec.ofInt (64:Nat) k0 ^^^ BitVec.ofInt (64:Nat) (7816392313619706465:Int)).toNat:Int)) (IntKind.u64.wrap (↑(BitVec.ofInt (64:Nat) k1 ^^^ BitVec.ofInt (64:Nat) (8387220255154660723:Int)).toNat:Int))
def z15:q7a:=z86 Rp Z4
abbrev q3x:=Int->List (List Int)->(Int->Prop)->Prop
def z6a(q6r:q58)(z22:q7a):q3x:=fun domain fields K=>q6r fields fun Qa=>z22 domain (0:Int) Qa fun Qc=>K Qc
def q8t:q3x:=z6a q59 z15
abbrev V8:=BA->BA->(Int->Prop)->Prop
def j3t(q9i:q3x):V8:=fun salt key K=>Sml salt.size/\Sml key.size/\q9i (1:Int) [List.map (fun b=>(↑b.toNat:Int)) (salt,key,()).1.data.toList,List.map (fun b=>(↑b.toNat:Int)) (salt,key,()).2.1.data.toList] fun Qa=>(10000:Int)≠0/\InI (Qa.tmod 10000)/\K (Qa.tmod 10000)
def He:V8:=j3t q8t
abbrev q3y:=List Frc->BA->(Frc->Bool->Prop)->Prop
def q3z:q3y:=fun l layer K=>Fits l->Lp4 (fun Qc Z9 z8f j10 u9l=>CAt l Qc (fun y2=>Cnd (y2.1=layer) (K y2 true) (InI (Qc+1)/\u9l (Qc+1) Z9 z8f j10)) (K (Frc.mk (B8 []) (B8 []) (0:Int)) false)) (0:Int) (B8 []) (B8 []) (0:Int)
abbrev q8u:=Envt->Frc->(Bool->Prop)->Prop
def q8v:q8u:=fun v f K=>Fits v.6->Lp1 (fun Qc q0c=>CAt v.6 Qc (fun y2=>Cnd (y2.1=f.2) (Cnd (y2.2=f.1) (Cnd (y2.5=2) (Fits y2.7->Lp1 (fun Ql w2y=>CAt y2.7 Ql (fun y6=>Cnd (y6.3=f.3) (Cnd (0<=Ql) (K (decide (0<=Qc))) (InI (Qc+1)/\q0c (Qc+1))) (InI (Ql+1)/\w2y (Ql+1))) (Cnd (0<=(-1:Int)) (K (decide (0<=Qc))) (InI (Qc+1)/\q0c (Qc+1)))) (0:Int)) (InI (Qc+1)/\q0c (Qc+1))) (InI (Qc+1)/\q0c (Qc+1))) (InI (Qc+1)/\q0c (Qc+1))) (K (decide (0<=(-1:Int))))) (0:Int)
abbrev q30:=Envt->Subj->(Bool->Prop)->Prop
def z6b(Qo:Z3)(Zv:V8):q30:=fun v s K=>Cnd (v.1.3<=0) (K false) (Qo (Subj.mk s.1) v.1.2 fun Qa Qv=>Cnd (Qv=true) (Zv v.1.1 Qa.2 fun Qc=>K (decide (Qc<v.1.3))) (K false))
def q8w:q30:=z6b Vv He
abbrev Gm:=Envt->Subj->BA->(Bool->Prop)->Prop
def q5i(Zc:Wi)(Zi:Jv):Gm:=fun v s experiment K=>Fits v.6->Lp1 (fun Qc q0c=>CAt v.6 Qc (fun y2=>Cnd (y2.1=experiment) (Zc v.3 (Subj.mk s.1) fun Qe=>Zi (Subj.mk s.1) Qe (Ex.mk y2.8.1 y2.8.2 y2.8.3 y2.8.4 y2.8.5) fun Ql=>K Ql) (InI (Qc+1)/\q0c (Qc+1))) (K false)) (0:Int)
def Bz:Gm:=q5i Vz Uu
abbrev B0:=List Rng->Int->(Int->Prop)->Prop
def q31:B0:=fun l bucket K=>Fits l->Lp1 (fun Qc q0c=>CAt l Qc (fun y2=>Cnd (y2.1<=bucket) (Cnd (bucket<y2.2) (K y2.3) (InI (Qc+1)/\q0c (Qc+1))) (InI (Qc+1)/\q0c (Qc+1))) (K 0)) (0:Int)
abbrev q00:=Envt->Subj->List Frc->BA->(Asg->Int->Prop)->Prop
def z3k(Qo:Z3)(q44:q3y)(Zv:V8)(Vo:B0)(q0i:Gm)(q9j:q30)(q9k:q8u):q00:=fun v s forced key K=>Jn1 (fun Qa=>Cnd (Qa<0) (K (Asg.mk (B8 []) (B8 []) (0:Int) (0:Int) false) (11:Int)) (At v.5 Qa fun y1=>Qo (Subj.mk s.1) y1.2 fun Qg V1=>Jn1 (fun Qe=>q44 forced key fun Ql q8e=>Jn1 (fun Zx=>Cnd (Zx=true) (Cnd (Ql.2=B8 []) (K (Asg.mk key (B8 []) Qe (0:Int) false) (0:Int)) (K (Asg.mk key Ql.2 Qe Ql.3 false) (0:Int))) (Jn1 (fun Qn=>Cnd (Qn=true) (K (Asg.mk key (B8 []) Qe (0:Int) true) (0:Int)) (Cnd (V1=true) (Fits v.6->Lp3 (fun Qp j1z u40 u81=>CAt v.6 Qp (fun y10=>Jn1 (fun Zp=>Jn1 (fun Zb=>Cnd (Zb=true) (Zv y10.4 Qg.2 fun Zw=>Vo y10.7 Zw fun w74=>K (Asg.mk key y10.1 Qe w74 false) (0:Int)) (InI (Qp+1)/\u81 (Qp+1) j1z u40)) fun u01=>Cnd (y10.2=key) (Cnd (y10.5=2) (Cnd (Zp=true) (q0i (Envt.mk (Sett.mk v.1.1 v.1.2 v.1.3) v.2 v.3 v.4 v.5 v.6) (Subj.mk s.1) y10.1 fun Zw=>u01 Zw) (u01 false)) (u01 false)) (u01 false)) fun y3k=>Fits y10.6->Lp1 (fun Zw y74=>CAt y10.6 Zw (fun y15=>Cnd (y15.1<=Qe) (Cnd (Qe<y15.2) (y3k (decide (0<=Zw))) (InI (Zw+1)/\y74 (Zw+1))) (InI (Zw+1)/\y74 (Zw+1))) (y3k (decide (0<=(-1:Int))))) (0:Int)) (K (Asg.mk key j1z Qe u40 false) (0:Int))) (0:Int) (B8 []) (0:Int)) (K (Asg.mk key (B8 []) Qe (0:Int) false) (0:Int)))) fun y77=>q9j (Envt.mk (Sett.mk v.1.1 v.1.2 v.1.3) v.2 v.3 v.4 v.5 v.6) (Subj.mk s.1) fun Ws=>Cnd (Ws=true) (y77 true) (Cnd (V1=true) (y77 (decide (Qe<y1.4))) (y77 false)))) fun w2x=>Cnd (q8e=true) (Cnd (Ql.2=B8 []) (w2x true) (q9k (Envt.mk (Sett.mk v.1.1 v.1.2 v.1.3) v.2 v.3 v.4 v.5 v.6) Ql fun Qn=>w2x Qn)) (w2x false)) fun v5u=>Cnd (V1=true) (Zv y1.3 Qg.2 fun Ql=>v5u Ql) (v5u (-1:Int)))) fun q0r=>Fits v.5->Lp1 (fun Qf j2o=>CAt v.5 Qf (fun y3=>Cnd (y3.1=key) (q0r Qf) (InI (Qf+1)/\j2o (Qf+1))) (q0r (-1:Int))) (0:Int)
def Rf:q00:=z3k Vv q3z He q31 Bz q8w q8v
abbrev Va:=BA->BA->Int->List Decl->List Seg->List Flg->List Lay_->List Exper->List Ctxt->List Frc->List BA->(BA->Option (Dcs))->(BA->Option (Bool))->Exper->(Int->(BA->Option (Dcs))->(BA->Option (Bool))->Prop)->Prop
def q0n(Qo:Z3)(Zv:V8):Va:=fun _ _ _ _ _ _ layers _ ctxs _ _ done opn x K=>Fits layers->Lp1 (fun Qc q0c=>CAt layers Qc (fun y2=>Cnd (y2.1=x.2) (Qo (Subj.mk ctxs) y2.2 fun Qe J2=>Cnd (J2=true) (Zv x.4 Qe.2 fun Ql=>K Ql done opn) (K (-1:Int) done opn)) (InI (Qc+1)/\q0c (Qc+1))) (K (-1:Int) done opn)) (0:Int)
def Wb:Va:=q0n Vv He
abbrev z3l:=Int->(BA->Prop)->Prop
def z3m(i:Int)(K:BA->Prop):Prop:=InI i/\K ⟨(Go.Lib.itoa i).toArray⟩
abbrev q32:=Int->(BA->Prop)->Prop
def j51(q6s:z3l):q32:=fun n K=>q6s n fun Qa=>K Qa
def q8x:q32:=j51 z3m
abbrev q7b:=Val->(BA->Bool->Prop)->Prop
def z87(q9l:q32):q7b:=fun v K=>Jn1 (fun Qa=>Cnd (Qa=true) (K v.3 true) (Cnd (v.1=2) (q9l v.2 fun Qc=>K Qc true) (Cnd (v.1=1) (Cnd (v.2=1) (K (B8 [116,114,117,101]) true) (K (B8 [102,97,108,115,101]) true)) (K (B8 []) false)))) fun q0r=>Cnd (v.1=3) (q0r (decide (v.1=3))) (q0r (decide (v.1=4)))
def z16:q7b:=z87 q8x
abbrev H4:=Subj->BA->BA->BA->(Int->Bool->Prop)->Prop
def q7z(Jx:W7)(z23:q7b)(Zv:V8):H4:=fun s kind by_ salt K=>Jx (Subj.mk s.1) kind by_ fun Qa Qv=>Cnd (Qv=true) (z23 Qa fun Qc Z9=>Cnd (Z9=true) (Zv salt Qc fun Qf=>K Qf true) (K 0 false)) (K 0 false)
def q1k:H4:=q7z H2 z16 He
abbrev H5:=Subj->Srv->(Int->Int->Bool->Prop)->Prop
def q70(q1v:H4)(Vo:B0):H5:=fun s v K=>Cnd (v.1=0) (q1v (Subj.mk s.1) v.2 v.3 v.4 fun Qa Qv=>Cnd (Qv=true) (Vo v.5 Qa fun Qc=>K Qc Qa true) (K 0 (-1:Int) false)) (K v.1 (-1:Int) true)
def q1l:H5:=q70 q1k q31
abbrev V9:=BA->BA->Int->List Decl->List Seg->List Flg->List Lay_->List Exper->List Ctxt->List Frc->List BA->(BA->Option (Dcs))->(BA->Option (Bool))->Flg->Srv->Rsn->(Int->Rsn->(BA->Option (Dcs))->(BA->Option (Bool))->Prop)->Prop
def q2b(q1w:H5):V9:=fun _ _ _ _ _ _ _ _ ctxs _ _ done opn f v reason K=>q1w (Subj.mk ctxs) v fun Qa Qv z5d=>Cnd (z5d=true) (K Qa (Rsn.mk reason.1 reason.2 reason.3 Qv) done opn) (K f.5 (Rsn.mk (7:Int) reason.2 (B8 []) (-1:Int)) done opn)
def Wj:V9:=q2b q1l
abbrev Ze:=BA->BA->Int->List Decl->List Seg->List Flg->List Lay_->List Exper->List Ctxt->List Frc->List BA->(BA->Option (Dcs))->(BA->Option (Bool))->Flg->(Dcs->(BA->Option (Dcs))->(BA->Option (Bool))->Prop)->Prop
def q0o(Q8:Wo)(Z7:Ww)(q0j:Gl)(q6t:q00)(Gb:Va)(Zi:Jv)(Uc:V9)(X:Ze):Ze:=fun salt hkind hold attrs segs flags layers expers ctxs fs inn done opn f K=>Jn1 (fun (Qa:BA×Int×Int×Int×BA×List BA×Int×Int×BA×Int×Int×(BA->Option Dcs)×(BA->Option Bool)×Unit)=>Q8 (Val.mk Qa.2.2.1 Qa.2.2.2.1 Qa.2.2.2.2.1 Qa.2.2.2.2.2.1) fun Qc=>K (Dcs.mk Qa.1 Qa.2.1 Qc (Rsn.mk Qa.2.2.2.2.2.2.1 Qa.2.2.2.2.2.2.2.1 Qa.2.2.2.2.2.2.2.2.1 Qa.2.2.2.2.2.2.2.2.2.1) Qa.2.2.2.2.2.2.2.2.2.2.1) Qa.2.2.2.2.2.2.2.2.2.2.2.1 Qa.2.2.2.2.2.2.2.2.2.2.2.2.1) fun (q0r:BA×Int×Int×Int×BA×List BA×Int×Int×BA×Int×Int×(BA->Option Dcs)×(BA->Option Bool)×Unit->Prop)=>Cnd ((done f.1).isSome=true) (q0r (((done f.1).getD (Dcs.mk (B8 []) (0:Int) (Val.mk (0:Int) (0:Int) (B8 []) []) (Rsn.mk (0:Int) (0:Int) (B8 []) (0:Int)) (0:Int))).1,((done f.1).getD (Dcs.mk (B8 []) (0:Int) (Val.mk (0:Int) (0:Int) (B8 []) []) (Rsn.mk (0:Int) (0:Int) (B8 []) (0:Int)) (0:Int))).2,((done f.1).getD (Dcs.mk (B8 []) (0:Int) (Val.mk (0:Int) (0:Int) (B8 []) []) (Rsn.mk (0:Int) (0:Int) (B8 []) (0:Int)) (0:Int))).3.1,((done f.1).getD (Dcs.mk (B8 []) (0:Int) (Val.mk (0:Int) (0:Int) (B8 []) []) (Rsn.mk (0:Int) (0:Int) (B8 []) (0:Int)) (0:Int))).3.2,((done f.1).getD (Dcs.mk (B8 []) (0:Int) (Val.mk (0:Int) (0:Int) (B8 []) []) (Rsn.mk (0:Int) (0:Int) (B8 []) (0:Int)) (0:Int))).3.3,((done f.1).getD (Dcs.mk (B8 []) (0:Int) (Val.mk (0:Int) (0:Int) (B8 []) []) (Rsn.mk (0:Int) (0:Int) (B8 []) (0:Int)) (0:Int))).3.4,((done f.1).getD (Dcs.mk (B8 []) (0:Int) (Val.mk (0:Int) (0:Int) (B8 []) []) (Rsn.mk (0:Int) (0:Int) (B8 []) (0:Int)) (0:Int))).4.1,((done f.1).getD (Dcs.mk (B8 []) (0:Int) (Val.mk (0:Int) (0:Int) (B8 []) []) (Rsn.mk (0:Int) (0:Int) (B8 []) (0:Int)) (0:Int))).4.2,((done f.1).getD (Dcs.mk (B8 []) (0:Int) (Val.mk (0:Int) (0:Int) (B8 []) []) (Rsn.mk (0:Int) (0:Int) (B8 []) (0:Int)) (0:Int))).4.3,((done f.1).getD (Dcs.mk (B8 []) (0:Int) (Val.mk (0:Int) (0:Int) (B8 []) []) (Rsn.mk (0:Int) (0:Int) (B8 []) (0:Int)) (0:Int))).4.4,((done f.1).getD (Dcs.mk (B8 []) (0:Int) (Val.mk (0:Int) (0:Int) (B8 []) []) (Rsn.mk (0:Int) (0:Int) (B8 []) (0:Int)) (0:Int))).5,done,opn,())) (Cnd (f.4=true) (Fits f.6->LpH (fun (Qf:Int×Int×Int×BA×Int×(BA->Option Bool)×(BA->Option Dcs)×Unit) (j2o:Int×Int×Int×BA×Int×(BA->Option Bool)×(BA->Option Dcs)×Unit->Prop)=>CAt f.6 Qf.1 (fun y3=>Z7 salt hkind hold attrs segs flags layers expers ctxs fs inn Qf.2.2.2.2.2.2.1 Qf.2.2.2.2.2.1 y3.1 fun Ql q8e y3p u42=>Cnd (q8e=true) (Cnd (Ql.4=true) (Cnd ((u42 Ql.1).getD false=true) (Jn4 (fun Zx z34 w89 v11=>q0r (f.1,f.5,Zx,z34,w89,v11,(2:Int),(0:Int),y3.1,(-1:Int),(0:Int),put y3p f.1 (Dcs.mk f.1 f.5 (Val.mk Zx z34 w89 v11) (Rsn.mk (2:Int) (0:Int) y3.1 (-1:Int)) (0:Int)),dlt u42 f.1,())) fun w2x=>Cnd (1<=f.5) (Fits f.3->Cnd (f.5<=(↑f.3.length:Int)) (InI (f.5 - 1)/\(0<=f.5 - 1/\f.5 - 1<(↑f.3.length:Int))/\∀y8,f.3[(f.5 - 1).toNat]? =some y8->w2x y8.1 y8.2 y8.3 y8.4) (w2x (0:Int) (0:Int) (B8 []) [])) (w2x (0:Int) (0:Int) (B8 []) [])) (X salt hkind hold attrs segs flags layers expers ctxs fs inn y3p u42 (Flg.mk Ql.1 Ql.2 Ql.3 Ql.4 Ql.5 Ql.6 Ql.7 Ql.8 (Srv.mk Ql.9.1 Ql.9.2 Ql.9.3 Ql.9.4 Ql.9.5)) fun Zx y3o y79=>Cnd (Zx.2=y3.2) (InI (Qf.1+1)/\j2o (Qf.1+1,Qf.2.1,Qf.2.2.1,Qf.2.2.2.1,Qf.2.2.2.2.1,y79,y3o,())) (Jn4 (fun Qn z8g v8x v2b=>q0r (f.1,f.5,Qn,z8g,v8x,v2b,(2:Int),(0:Int),y3.1,(-1:Int),(0:Int),put y3o f.1 (Dcs.mk f.1 f.5 (Val.mk Qn z8g v8x v2b) (Rsn.mk (2:Int) (0:Int) y3.1 (-1:Int)) (0:Int)),dlt y79 f.1,())) fun y77=>Cnd (1<=f.5) (Fits f.3->Cnd (f.5<=(↑f.3.length:Int)) (InI (f.5 - 1)/\(0<=f.5 - 1/\f.5 - 1<(↑f.3.length:Int))/\∀y9,f.3[(f.5 - 1).toNat]? =some y9->y77 y9.1 y9.2 y9.3 y9.4) (y77 (0:Int) (0:Int) (B8 []) [])) (y77 (0:Int) (0:Int) (B8 []) [])))) (Jn4 (fun Zx z34 w89 v11=>q0r (f.1,f.5,Zx,z34,w89,v11,(2:Int),(0:Int),y3.1,(-1:Int),(0:Int),put y3p f.1 (Dcs.mk f.1 f.5 (Val.mk Zx z34 w89 v11) (Rsn.mk (2:Int) (0:Int) y3.1 (-1:Int)) (0:Int)),dlt u42 f.1,())) fun w2x=>Cnd (1<=f.5) (Fits f.3->Cnd (f.5<=(↑f.3.length:Int)) (InI (f.5 - 1)/\(0<=f.5 - 1/\f.5 - 1<(↑f.3.length:Int))/\∀y8,f.3[(f.5 - 1).toNat]? =some y8->w2x y8.1 y8.2 y8.3 y8.4) (w2x (0:Int) (0:Int) (B8 []) [])) (w2x (0:Int) (0:Int) (B8 []) []))) (Jn4 (fun Zx z34 w89 v11=>q0r (f.1,f.5,Zx,z34,w89,v11,(2:Int),(0:Int),y3.1,(-1:Int),(0:Int),put y3p f.1 (Dcs.mk f.1 f.5 (Val.mk Zx z34 w89 v11) (Rsn.mk (2:Int) (0:Int) y3.1 (-1:Int)) (0:Int)),dlt u42 f.1,())) fun w2x=>Cnd (1<=f.5) (Fits f.3->Cnd (f.5<=(↑f.3.length:Int)) (InI (f.5 - 1)/\(0<=f.5 - 1/\f.5 - 1<(↑f.3.length:Int))/\∀y8,f.3[(f.5 - 1).toNat]? =some y8->w2x y8.1 y8.2 y8.3 y8.4) (w2x (0:Int) (0:Int) (B8 []) [])) (w2x (0:Int) (0:Int) (B8 []) []))) (q0j (Flg.mk f.1 f.2 f.3 f.4 f.5 f.6 f.7 f.8 (Srv.mk f.9.1 f.9.2 f.9.3 f.9.4 f.9.5)) (Subj.mk ctxs) fun Qg=>Cnd (0<Qg) (InI (Qg - 1)/\(0<=Qg - 1/\Qg - 1<(↑f.7.length:Int))/\∀y4,f.7[(Qg - 1).toNat]? =some y4->Jn4 (fun Zx z34 w89 v11=>q0r (f.1,y4.2,Zx,z34,w89,v11,(3:Int),Qg,B8 [],(-1:Int),(0:Int),put Qf.2.2.2.2.2.2.1 f.1 (Dcs.mk f.1 y4.2 (Val.mk Zx z34 w89 v11) (Rsn.mk (3:Int) Qg (B8 []) (-1:Int)) (0:Int)),dlt Qf.2.2.2.2.2.1 f.1,())) fun w2x=>Cnd (1<=y4.2) (Fits f.3->Cnd (y4.2<=(↑f.3.length:Int)) (InI (y4.2 - 1)/\(0<=y4.2 - 1/\y4.2 - 1<(↑f.3.length:Int))/\∀y8,f.3[(y4.2 - 1).toNat]? =some y8->w2x y8.1 y8.2 y8.3 y8.4) (w2x (0:Int) (0:Int) (B8 []) [])) (w2x (0:Int) (0:Int) (B8 []) [])) (Fits expers->LpH (fun (Ql:Int×Int×Int×BA×Int×(BA->Option Dcs)×(BA->Option Bool)×Unit) (w2y:Int×Int×Int×BA×Int×(BA->Option Dcs)×(BA->Option Bool)×Unit->Prop)=>CAt expers Ql.1 (fun y6=>Cnd (y6.3=f.1) (Cnd (y6.5=2) (q6t (Envt.mk (Sett.mk salt hkind hold) attrs segs flags layers expers) (Subj.mk ctxs) fs y6.2 fun Ws v5s=>Cnd (v5s=0) (Cnd (Ws.2=y6.1) (Gb salt hkind hold attrs segs flags layers expers ctxs fs inn Ql.2.2.2.2.2.1 Ql.2.2.2.2.2.2.1 (Exper.mk y6.1 y6.2 y6.3 y6.4 y6.5 y6.6 y6.7 (Ex.mk y6.8.1 y6.8.2 y6.8.3 y6.8.4 y6.8.5)) fun Qp u0x u43=>Jn4 (fun Zd q08 v8v u7u=>q0r (f.1,Ws.4,Zd,q08,v8v,u7u,(4:Int),(0:Int),y6.1,Qp,(0:Int),put u0x f.1 (Dcs.mk f.1 Ws.4 (Val.mk Zd q08 v8v u7u) (Rsn.mk (4:Int) (0:Int) y6.1 Qp) (0:Int)),dlt u43 f.1,())) fun u5h=>Cnd (1<=Ws.4) (Fits f.3->Cnd (Ws.4<=(↑f.3.length:Int)) (InI (Ws.4 - 1)/\(0<=Ws.4 - 1/\Ws.4 - 1<(↑f.3.length:Int))/\∀y12,f.3[(Ws.4 - 1).toNat]? =some y12->u5h y12.1 y12.2 y12.3 y12.4) (u5h (0:Int) (0:Int) (B8 []) [])) (u5h (0:Int) (0:Int) (B8 []) [])) (InI (Ql.1+1)/\w2y (Ql.1+1,Ql.2.1,Ql.2.2.1,Ql.2.2.2.1,Ql.2.2.2.2.1,Ql.2.2.2.2.2.1,Ql.2.2.2.2.2.2.1,()))) (InI (Ql.1+1)/\w2y (Ql.1+1,Ql.2.1,Ql.2.2.1,Ql.2.2.2.1,Ql.2.2.2.2.1,Ql.2.2.2.2.2.1,Ql.2.2.2.2.2.2.1,()))) (InI (Ql.1+1)/\w2y (Ql.1+1,Ql.2.1,Ql.2.2.1,Ql.2.2.2.1,Ql.2.2.2.2.1,Ql.2.2.2.2.2.1,Ql.2.2.2.2.2.2.1,()))) (InI (Ql.1+1)/\w2y (Ql.1+1,Ql.2.1,Ql.2.2.1,Ql.2.2.2.1,Ql.2.2.2.2.1,Ql.2.2.2.2.2.1,Ql.2.2.2.2.2.2.1,()))) (Fits f.8->LpH (fun (Qn:Int×Int×Int×BA×Int×(BA->Option Bool)×(BA->Option Dcs)×Unit) (v18:Int×Int×Int×BA×Int×(BA->Option Bool)×(BA->Option Dcs)×Unit->Prop)=>CAt f.8 Qn.1 (fun y8=>Zi (Subj.mk ctxs) inn (Ex.mk y8.2.1 y8.2.2 y8.2.3 y8.2.4 y8.2.5) fun Zd=>Cnd (Zd=true) (InI (Qn.1+1)/\Uc salt hkind hold attrs segs flags layers expers ctxs fs inn Qn.2.2.2.2.2.2.1 Qn.2.2.2.2.2.1 (Flg.mk f.1 f.2 f.3 f.4 f.5 f.6 f.7 f.8 (Srv.mk f.9.1 f.9.2 f.9.3 f.9.4 f.9.5)) (Srv.mk y8.3.1 y8.3.2 y8.3.3 y8.3.4 y8.3.5) (Rsn.mk (5:Int) (Qn.1+1) y8.1 (0:Int)) fun Wp j0m u9m u9n=>Jn4 (fun Zp y3l u7v u7w=>q0r (f.1,Wp,Zp,y3l,u7v,u7w,j0m.1,j0m.2,j0m.3,j0m.4,(0:Int),put u9m f.1 (Dcs.mk f.1 Wp (Val.mk Zp y3l u7v u7w) j0m (0:Int)),dlt u9n f.1,())) fun y3k=>Cnd (1<=Wp) (Fits f.3->Cnd (Wp<=(↑f.3.length:Int)) (InI (Wp - 1)/\(0<=Wp - 1/\Wp - 1<(↑f.3.length:Int))/\∀y14,f.3[(Wp - 1).toNat]? =some y14->y3k y14.1 y14.2 y14.3 y14.4) (y3k (0:Int) (0:Int) (B8 []) [])) (y3k (0:Int) (0:Int) (B8 []) [])) (InI (Qn.1+1)/\v18 (Qn.1+1,Qn.2.1,Qn.2.2.1,Qn.2.2.2.1,Qn.2.2.2.2.1,Qn.2.2.2.2.2.1,Qn.2.2.2.2.2.2.1,()))) (Uc salt hkind hold attrs segs flags layers expers ctxs fs inn Qn.2.2.2.2.2.2.1 Qn.2.2.2.2.2.1 (Flg.mk f.1 f.2 f.3 f.4 f.5 f.6 f.7 f.8 (Srv.mk f.9.1 f.9.2 f.9.3 f.9.4 f.9.5)) (Srv.mk f.9.1 f.9.2 f.9.3 f.9.4 f.9.5) (Rsn.mk (6:Int) (0:Int) (B8 []) (0:Int)) fun Ws v5s u70 u84=>Jn4 (fun Qp j1z u40 u14=>q0r (f.1,Ws,Qp,j1z,u40,u14,v5s.1,v5s.2,v5s.3,v5s.4,(0:Int),put u70 f.1 (Dcs.mk f.1 Ws (Val.mk Qp j1z u40 u14) v5s (0:Int)),dlt u84 f.1,())) fun u0w=>Cnd (1<=Ws) (Fits f.3->Cnd (Ws<=(↑f.3.length:Int)) (InI (Ws - 1)/\(0<=Ws - 1/\Ws - 1<(↑f.3.length:Int))/\∀y11,f.3[(Ws - 1).toNat]? =some y11->u0w y11.1 y11.2 y11.3 y11.4) (u0w (0:Int) (0:Int) (B8 []) [])) (u0w (0:Int) (0:Int) (B8 []) []))) ((0:Int),Ql.2.1,Ql.2.2.1,Ql.2.2.2.1,Ql.2.2.2.2.1,Ql.2.2.2.2.2.2.1,Ql.2.2.2.2.2.1,()))) ((0:Int),Qf.2.1,Qf.2.2.1,Qf.2.2.2.1,Qf.2.2.2.2.1,Qf.2.2.2.2.2.2.1,Qf.2.2.2.2.2.1,())))) ((0:Int),(0:Int),(0:Int),B8 [],(0:Int),put opn f.1 true,done,())) (Jn4 (fun Qc Z9 z8f j10=>q0r (f.1,f.5,Qc,Z9,z8f,j10,(1:Int),(0:Int),B8 [],(-1:Int),(0:Int),put done f.1 (Dcs.mk f.1 f.5 (Val.mk Qc Z9 z8f j10) (Rsn.mk (1:Int) (0:Int) (B8 []) (-1:Int)) (0:Int)),dlt (put opn f.1 true) f.1,())) fun j92=>Cnd (1<=f.5) (Fits f.3->Cnd (f.5<=(↑f.3.length:Int)) (InI (f.5 - 1)/\(0<=f.5 - 1/\f.5 - 1<(↑f.3.length:Int))/\∀y3,f.3[(f.5 - 1).toNat]? =some y3->j92 y3.1 y3.2 y3.3 y3.4) (j92 (0:Int) (0:Int) (B8 []) [])) (j92 (0:Int) (0:Int) (B8 []) [])))
def Vb:Ze:=fun salt hkind hold attrs segs flags layers expers ctxs fs inn done opn f K=> ∀X:Ze,(∀salt hkind hold attrs segs flags layers expers ctxs fs inn done opn f K,q0o J3 J6 V0 Rf Wb Uu Wj X salt hkind hold attrs segs flags layers expers ctxs fs inn done opn f K->X salt hkind hold attrs segs flags layers expers ctxs fs inn done opn f K)->X salt hkind hold attrs segs flags layers expers ctxs fs inn done opn f K
abbrev Ua:=Envt->Subj->List Frc->BA->(Dcs->Int->Prop)->Prop
def z0x(Jy:W8)(Z7:Ww)(Zr:Ze):Ua:=fun v s forced key K=>Jy (Envt.mk (Sett.mk v.1.1 v.1.2 v.1.3) v.2 v.3 v.4 v.5 v.6) (Subj.mk s.1) forced fun Qa Qv z5d q48 w0q u5p u5q u5r u5s u5t y3m u5i u5j=>Z7 Qa Qv z5d q48 w0q u5p u5q u5r u5s u5t y3m u5i u5j key fun Qc Z9 j0n y72=>Cnd (Z9=true) (Zr Qa Qv z5d q48 w0q u5p u5q u5r u5s u5t y3m j0n y72 (Flg.mk Qc.1 Qc.2 Qc.3 Qc.4 Qc.5 Qc.6 Qc.7 Qc.8 (Srv.mk Qc.9.1 Qc.9.2 Qc.9.3 Qc.9.4 Qc.9.5)) fun Qf _ _=>K (Dcs.mk Qf.1 Qf.2 (Val.mk Qf.3.1 Qf.3.2 Qf.3.3 Qf.3.4) (Rsn.mk Qf.4.1 Qf.4.2 Qf.4.3 Qf.4.4) Qf.5) (0:Int)) (K (Dcs.mk (B8 []) (0:Int) (Val.mk (0:Int) (0:Int) (B8 []) []) (Rsn.mk (0:Int) (0:Int) (B8 []) (0:Int)) (0:Int)) (11:Int))
def Bc:Ua:=z0x H3 J6 Vb
abbrev q33:=(Bool->Prop)->Prop
def z6c(J9:Ua):q33:=fun K=>J9 (Envt.mk (Sett.mk (B8 []) (B8 []) (0:Int)) [] [] [Flg.mk (B8 [102]) (1:Int) [Val.mk (1:Int) (0:Int) (B8 []) [],Val.mk (1:Int) (1:Int) (B8 []) []] true (1:Int) [] [] [] (Srv.mk (2:Int) (B8 []) (B8 []) (B8 []) [])] [] []) (Subj.mk []) [] (B8 [102]) fun Qa Qv=>Cnd (Qv=0) (Cnd (Qa.1=B8 [102]) (Cnd (Qa.2=2) (Cnd (Qa.3.2=1) (K (decide (Qa.4.1=6/\Qa.4.2=0/\Qa.4.3=B8 []/\Qa.4.4=(-1:Int)))) (K false)) (K false)) (K false)) (K false)
def q8y:q33:=z6c Bc
abbrev w9z:=List Int->Int->(List Int->Int->Prop)->Prop
def w90:w9z:=fun list_ most K=>Jn1 (fun Qa=>K Qa (0:Int)) fun q0r=>Fits list_->Cnd (most<(↑list_.length:Int)) ((0<=(0:Int)/\0<=most/\most<=(↑list_.length:Int))/\q0r (List.drop (Int.toNat 0) (List.take most.toNat list_))) (q0r list_)
abbrev z0y:=List Int->Int->BA->(Ctxt->Int->Prop)->Prop
def j3u(z7j:j3g)(Q6:Vp)(Qb:Zn)(Jr:q22):z0y:=fun list at_ kind K=>z7j list at_ fun Qa Qv=>Q6 fun Qc=>Lp3 (fun Qf Zs v2a u41=>Fits Qc->CAt Qc Qf (fun y4=>Cnd (y4.1=kind) (Qb list v2a 4 fun Zx z34=>Cnd (0<Zx) (At Qc Qf fun y7=>At Qc Qf fun y9=>Jr list z34 y9.3 fun Wp j0m=>Sml (Zs++[Attr.mk y7.2 Wp]).length/\InI (Qf+1)/\u41 (Qf+1) (Zs++[Attr.mk y7.2 Wp]) j0m) (InI (Qf+1)/\u41 (Qf+1) Zs z34)) (InI (Qf+1)/\u41 (Qf+1) Zs v2a)) (K (Ctxt.mk kind Qa Zs) v2a)) (0:Int) [] Qv
def z0z:z0y:=j3u w33 Gw Wl q0v
abbrev z00:=List Int->Int->(Subj->Int->Prop)->Prop
def j3v(Qb:Zn)(q2m:z0y):z00:=fun list at_ K=>Qb list at_ 6 fun Qa Qv=>Jn2 (fun Qc Z9=>Cnd (Qa=1) (K (Subj.mk Z9) Qc) (Cnd (Qa=5) (K (Subj.mk Z9) Qc) (q2m list Qc (B8 [117,115,101,114]) fun Qf Zs=>Sml (Z9++[Qf]).length/\K (Subj.mk (Z9++[Qf])) Zs))) fun j92=>Cnd (Qa=1) (q2m list Qv (B8 [100,101,118,105,99,101]) fun Qf Zs=>Sml ([]++[Qf]).length/\j92 Zs ([]++[Qf])) (Cnd (Qa=2) (q2m list Qv (B8 [100,101,118,105,99,101]) fun Qf Zs=>Sml ([]++[Qf]).length/\j92 Zs ([]++[Qf])) (Cnd (Qa=4) (q2m list Qv (B8 [100,101,118,105,99,101]) fun Qf Zs=>Sml ([]++[Qf]).length/\j92 Zs ([]++[Qf])) (j92 Qv [])))
def z6d:z00:=j3v Wl z0z
abbrev Ux:=Subj->BA->(Ctxt->Bool->Prop)->Prop
def q34:Ux:=fun s kind K=>Lp4 (fun Qa Qv z5d (q48:List Attr) u9o=>Fits s.1->CAt s.1 Qa (fun y2=>Cnd (y2.1=kind) (At s.1 Qa fun y4=>K y4 true) (InI (Qa+1)/\u9o (Qa+1) Qv z5d q48)) (K (Ctxt.mk (B8 []) (B8 []) []) false)) (0:Int) (B8 []) (B8 []) []
abbrev q2c:=Subj->BA->BA->(Val->Bool->Prop)->Prop
def j3w(Zj:Ux):q2c:=fun s kind name K=>Zj (Subj.mk s.1) kind fun Qa Qv=>Cnd (Qv=true) (Cnd (name=B8 [107,101,121]) (K (Val.mk (3:Int) (0:Int) Qa.2 []) true) (Lp5 (fun Qc Z9 z8f j10 (u12:List BA) u7j=>Fits Qa.3->CAt Qa.3 Qc (fun y3=>Cnd (y3.1=name) (At Qa.3 Qc fun y5=>K (Val.mk y5.2.1 y5.2.2 y5.2.3 y5.2.4) true) (InI (Qc+1)/\u7j (Qc+1) Z9 z8f j10 u12)) (K (Val.mk (0:Int) (0:Int) (B8 []) []) false)) (0:Int) (0:Int) (0:Int) (B8 []) [])) (K (Val.mk (0:Int) (0:Int) (B8 []) []) false)
def z01:q2c:=j3w q34
abbrev z6e:=Int->(BA->Prop)->Prop
def z6f:z6e:=fun n K=>Cnd (n=0) (K (B8 [48])) (Lp2 (fun Qa Qv q47=>Cnd (Qa=0) (Cnd (n<0) ((↑((B8 [45]).size+Qv.size):Int)<=(9223372036854775807:Int)/\K (B8 [45]++Qv)) (K Qv)) ((10:Int)≠0/\Jn1 (fun Qc=>InI (48+Qc)/\(↑((Go.Utf8.encode (IntKind.i32.wrap (48+Qc))).size+Qv.size):Int)<=(9223372036854775807:Int)/\(10:Int)≠0/\InI (Qa.tdiv (10:Int))/\q47 (Qa.tdiv (10:Int)) (Go.Utf8.encode (IntKind.i32.wrap (48+Qc))++Qv)) fun j92=>Cnd (Qa.tmod 10<(0:Int)) (InI ((0:Int) - Qa.tmod 10)/\j92 ((0:Int) - Qa.tmod 10)) (j92 (Qa.tmod 10)))) n (B8 []))
abbrev z88:=Val->(BA->Bool->Prop)->Prop
def w4c(z7q:z6e):z88:=fun v K=>Cnd (v.1=1) (Cnd (v.2=1) (K (B8 [116,114,117,101]) true) (K (B8 [102,97,108,115,101]) true)) (Cnd (v.1=2) (z7q v.2 fun Qa=>K Qa true) (Jn1 (fun Qa=>Cnd (Qa=true) (K v.3 true) (K (B8 []) false)) fun q0r=>Cnd (v.1=3) (q0r (decide (v.1=3))) (q0r (decide (v.1=4)))))
def j52:z88:=w4c z6f
abbrev j1i:=List (List Int)->(List Int->Prop)->Prop
def j1j:j1i:=fun fields K=>Lp2 (fun Qa Qv q47=>Fits fields->CAt fields Qv (fun y2=>Fits y2->Lp2 (fun Ql q8e y3p=>Cnd (0<=q8e) (0<=IntKind.u64.wrap q8e/\Sml (Ql++[IntKind.u8.wrap ((IntKind.u64.wrap (↑y2.length:Int)).fdiv ((2:Int) ^ Min.min (IntKind.u64.wrap q8e).toNat (64:Nat)))]).length/\InI (q8e - 8)/\y3p (Ql++[IntKind.u8.wrap ((IntKind.u64.wrap (↑y2.length:Int)).fdiv ((2:Int) ^ Min.min (IntKind.u64.wrap q8e).toNat (64:Nat)))]) (q8e - 8)) (At fields Qv fun y6=>Sml (Ql++y6).length/\InI (Qv+1)/\q47 (Ql++y6) (Qv+1))) Qa (56:Int)) (K Qa)) [] (0:Int)
abbrev z6g:=Int->Int->(Int->Prop)->Prop
def z6h:z6g:=fun x n K=>0<=n/\0<=IntKind.u64.wrap ((64:Int) - n)/\K (IntKind.u64.wrap (↑(BitVec.ofInt (64:Nat) (IntKind.u64.wrap (x*2 ^ Min.min n.toNat (64:Nat)))|||BitVec.ofInt (64:Nat) (x.fdiv ((2:Int) ^ Min.min (IntKind.u64.wrap ((64:Int) - n)).toNat (64:Nat)))).toNat:Int))
abbrev H6:=Sip->Int->(Sip->Prop)->Prop
def q71(Ht:z6g):H6:=fun v n K=>Lp5 (fun Qa Qv z5d q48 w0q u5o=>Cnd (Qa<n) (Ht z5d (13:Int) fun Qc=>Ht (IntKind.u64.wrap (Qv+z5d)) (32:Int) fun Qf=>Ht w0q (16:Int) fun Qg=>Ht (IntKind.u64.wrap (↑(BitVec.ofInt (64:Nat) Qg ^^^ BitVec.ofInt (64:Nat) (IntKind.u64.wrap (q48+w0q))).toNat:Int)) (21:Int) fun Qe=>Ht (IntKind.u64.wrap (↑(BitVec.ofInt (64:Nat) Qc ^^^ BitVec.ofInt (64:Nat) (IntKind.u64.wrap (Qv+z5d))).toNat:Int)) (17:Int) fun Ql=>Ht (IntKind.u64.wrap (IntKind.u64.wrap (q48+w0q)+IntKind.u64.wrap (↑(BitVec.ofInt (64:Nat) Qc ^^^ BitVec.ofInt (64:Nat) (IntKind.u64.wrap (Qv+z5d))).toNat:Int))) (32:Int) fun Zx=>InI (Qa+1)/\u5o (Qa+1) (IntKind.u64.wrap (Qf+IntKind.u64.wrap (↑(BitVec.ofInt (64:Nat) Qg ^^^ BitVec.ofInt (64:Nat) (IntKind.u64.wrap (q48+w0q))).toNat:Int))) (IntKind.u64.wrap (↑(BitVec.ofInt (64:Nat) Ql ^^^ BitVec.ofInt (64:Nat) (IntKind.u64.wrap (IntKind.u64.wrap (q48+w0q)+IntKind.u64.wrap (↑(BitVec.ofInt (64:Nat) Qc ^^^ BitVec.ofInt (64:Nat) (IntKind.u64.wrap (Qv+z5d))).toNat:Int)))).toNat:Int)) Zx (IntKind.u64.wrap (↑(BitVec.ofInt (64:Nat) Qe ^^^ BitVec.ofInt (64:Nat) (IntKind.u64.wrap (Qf+IntKind.u64.wrap (↑(BitVec.ofInt (64:Nat) Qg ^^^ BitVec.ofInt (64:Nat) (IntKind.u64.wrap (q48+w0q))).toNat:Int)))).toNat:Int))) (K (Sip.mk Qv z5d q48 w0q))) (0:Int) v.1 v.2 v.3 v.4
def Jw:H6:=q71 z6h
abbrev j53:=Int->Int->List Int->(Int->Prop)->Prop
def w91(Ul:H6):j53:=fun k0 k1 b K=>Lp5 (fun Qa Qv z5d q48 w0q u5o=>Fits b->(8:Int)≠0/\InI ((↑b.length:Int).tdiv (8:Int))/\Cnd (Qa<=(↑b.length:Int).tdiv (8:Int)) (Lp2 (fun Qf Zs q8d=>Cnd (Zs<8) (InI (8*Qa)/\InI (8*Qa+Zs)/\(Fits b->Cnd (8*Qa+Zs<(↑b.length:Int)) (InI (8*Qa)/\InI (8*Qa+Zs)/\(0<=8*Qa+Zs/\8*Qa+Zs<(↑b.length:Int))/\∀y4,b[(8*Qa+Zs).toNat]? =some y4->InI (8*Zs)/\0<=IntKind.u64.wrap (8*Zs)/\InI (Zs+1)/\q8d (IntKind.u64.wrap (↑(BitVec.ofInt (64:Nat) Qf|||BitVec.ofInt (64:Nat) (IntKind.u64.wrap (IntKind.u64.wrap y4*2 ^ Min.min (IntKind.u64.wrap (8*Zs)).toNat (64:Nat)))).toNat:Int)) (Zs+1)) (Jn1 (fun Qe=>Ul (Sip.mk Qv z5d q48 (IntKind.u64.wrap (↑(BitVec.ofInt (64:Nat) w0q ^^^ BitVec.ofInt (64:Nat) Qe).toNat:Int))) (2:Int) fun Ql=>InI (Qa+1)/\u5o (Qa+1) (IntKind.u64.wrap (↑(BitVec.ofInt (64:Nat) Ql.1 ^^^ BitVec.ofInt (64:Nat) Qe).toNat:Int)) Ql.2 Ql.3 Ql.4) fun v5u=>Fits b->(8:Int)≠0/\InI ((↑b.length:Int).tdiv (8:Int))/\Cnd (Qa=(↑b.length:Int).tdiv (8:Int)) (Fits b->(256:Int)≠0/\0<=(56:Int)/\v5u (IntKind.u64.wrap (↑(BitVec.ofInt (64:Nat) Qf|||BitVec.ofInt (64:Nat) (IntKind.u64.wrap (IntKind.u64.wrap ((↑b.length:Int).tmod 256)*(2:Int) ^ Min.min (Int.toNat 56) (64:Nat)))).toNat:Int))) (v5u Qf)))) (Jn1 (fun Qg=>Ul (Sip.mk Qv z5d q48 (IntKind.u64.wrap (↑(BitVec.ofInt (64:Nat) w0q ^^^ BitVec.ofInt (64:Nat) Qg).toNat:Int))) (2:Int) fun Qe=>InI (Qa+1)/\u5o (Qa+1) (IntKind.u64.wrap (↑(BitVec.ofInt (64:Nat) Qe.1 ^^^ BitVec.ofInt (64:Nat) Qg).toNat:Int)) Qe.2 Qe.3 Qe.4) fun y73=>Fits b->(8:Int)≠0/\InI ((↑b.length:Int).tdiv (8:Int))/\Cnd (Qa=(↑b.length:Int).tdiv (8:Int)) (Fits b->(256:Int)≠0/\0<=(56:Int)/\y73 (IntKind.u64.wrap (↑(BitVec.ofInt (64:Nat) Qf|||BitVec.ofInt (64:Nat) (IntKind.u64.wrap (IntKind.u64.wrap ((↑b.length:Int).tmod 256)*(2:Int) ^ Min.min (Int.toNat 56) (64:Nat)))).toNat:Int))) (y73 Qf))) (0:Int) (0:Int)) (Ul (Sip.mk Qv z5d (IntKind.u64.wrap (↑(BitVec.ofInt (64:Nat) q48 ^^^ BitVec.ofInt (64:Nat) (255:Int)).toNat:Int)) w0q) (4:Int) fun Qf=>K (IntKind.u64.wrap (↑(BitVec.ofInt (64:Nat) (IntKind.u64.wrap (↑(BitVec.ofInt (64:Nat) (IntKind.u64.wrap (↑(BitVec.ofInt (64:Nat) Qf.1 ^^^ BitVec.ofInt (64:Nat) Qf.2).toNat:Int)) ^^^ BitVec.ofInt (64:Nat) Qf.3).toNat:Int)) ^^^ BitVec.ofInt (64:Nat) Qf.4).toNat:Int)))) (0:Int) (IntKind.u64.wrap (↑(BitVec.ofInt (64:Nat) k0 ^^^ BitVec.ofInt (64:Nat) (8317987319222330741:Int)).toNat:Int)) (IntKind.u64.wrap (↑(BitVec.ofInt (64:Nat) k1 ^^^ BitVec.ofInt (64:Nat) (7237128888997146477:Int)).toNat:Int)) (IntKind.u64.wrap (↑(BitVec.ofInt (64:Nat) k0 ^^^ BitVec.ofInt (64:Nat) (7816392313619706465:Int)).toNat:Int)) (IntKind.u64.wrap (↑(BitVec.ofInt (64:Nat) k1 ^^^ BitVec.ofInt (64:Nat) (8387220255154660723:Int)).toNat:Int))
def w2j:j53:=w91 Jw
abbrev z89:=Int->List (List Int)->(Int->Prop)->Prop
def w4d(j19:j1i)(w2z:j53):z89:=fun domain fields K=>j19 fields fun Qa=>w2z domain (0:Int) Qa fun Qc=>K Qc
def j54:z89:=w4d j1j w2j
abbrev q35:=BA->BA->(Int->Prop)->Prop
def w92(j7n:z89):q35:=fun salt key K=>Sml salt.size/\Sml key.size/\j7n (1:Int) [List.map (fun b=>(↑b.toNat:Int)) (salt,key,()).1.data.toList,List.map (fun b=>(↑b.toNat:Int)) (salt,key,()).2.1.data.toList] fun Qa=>(10000:Int)≠0/\InI (Qa.tmod 10000)/\K (Qa.tmod 10000)
def q8z:q35:=w92 j54
abbrev q36:=Subj->BA->BA->BA->(Int->Bool->Prop)->Prop
def z6i(Hu:q2c)(j7o:z88)(Wr:q35):q36:=fun s kind by_ salt K=>Hu (Subj.mk s.1) kind by_ fun Qa Qv=>Cnd (Qv=true) (j7o Qa fun Qc Z9=>Cnd (Z9=true) (Wr salt Qc fun Qf=>K Qf true) (K 0 false)) (K 0 false)
def q80:q36:=z6i z01 j52 q8z
abbrev q9v:=List Rng->Int->(Int->Prop)->Prop
def z4s:q9v:=fun l bucket K=>Lp1 (fun Qa Bj=>Fits l->CAt l Qa (fun y2=>Cnd (y2.1<=bucket) (At l Qa fun y4=>Cnd (bucket<y4.2) (At l Qa fun y6=>K y6.3) (InI (Qa+1)/\Bj (Qa+1))) (InI (Qa+1)/\Bj (Qa+1))) (K 0)) (0:Int)
abbrev z02:=Subj->Srv->(Int->Int->Bool->Prop)->Prop
def j3x(q9m:q36)(Rh:q9v):z02:=fun s v K=>Cnd (v.1=0) (q9m (Subj.mk s.1) v.2 v.3 v.4 fun Qa Qv=>Cnd (Qv=true) (Rh v.5 Qa fun Qc=>K Qc Qa true) (K 0 (-1:Int) false)) (K v.1 (-1:Int) true)
def z6j:z02:=j3x q80 z4s
abbrev q7c:=Flg->Subj->(Int->Prop)->Prop
def z9a(Zj:Ux)(Qx:Wv):q7c:=fun f s K=>Lp1 (fun Qa Bj=>Fits f.7->CAt f.7 Qa (fun y2=>Zj (Subj.mk s.1) y2.1 fun Qe J2=>Cnd (J2=true) (At f.7 Qa fun y5=>Qx y5.3 Qe.2 fun Qn=>Cnd (Qn=true) (InI (Qa+1)/\K (Qa+1)) (InI (Qa+1)/\Bj (Qa+1))) (InI (Qa+1)/\Bj (Qa+1))) (K 0)) (0:Int)
def q2r:q7c:=z9a q34 U6
abbrev z4t:=List Int->Int->Envt->(List Frc->Int->Prop)->Prop
def j8h(Qb:Zn):z4t:=fun list at_ v K=>Lp3 (fun Qa Qv z5d u99=>Qb list z5d 3 fun Qc Z9=>Cnd (Qv<Qc) (Qb list Z9 4 fun Qf Zs=>InI (1+Qf)/\Jn2 (fun Qg V1=>Jn4 (fun Qe J2 j7e y8a=>Sml (Qa++[Frc.mk Qe J2 j7e]).length/\InI (Qv+1)/\u99 (Qa++[Frc.mk Qe J2 j7e]) (Qv+1) y8a) fun v5u=>Qb list V1 4 fun Ql q8e=>Fits v.6->CAt v.6 Ql (fun y7=>Jn2 (fun Qp j1z=>At v.6 Ql fun y10=>Qb list j1z 4 fun Zp y3l=>Cnd (0<Zp) (Fits y10.7->Cnd (0<(↑y10.7.length:Int)) (Fits y10.7->Qb list y3l (↑y10.7.length:Int) fun w74 u9p=>At y10.7 w74 fun y16=>v5u Qp y7.1 y16.3 u9p) (v5u Qp y7.1 (1+Qf) y3l)) (v5u Qp y7.1 (1+Qf) y3l)) fun u0w=>Qb list q8e 4 fun Zd q08=>Cnd (0<Zd) (At v.6 Ql fun y11=>u0w y11.2 q08) (u0w Qg q08)) (v5u Qg (B8 []) (1+Qf) q8e)) fun y73=>Qb list Zs 3 fun Qe J2=>Cnd (Qe=1) (y73 (B8 [108,98]) J2) (y73 (B8 [108,97]) J2)) (K Qa Z9)) [] (0:Int) at_
def j1k:z4t:=j8h Wl
abbrev q37:=List Int->List Int->(Envt->Subj->List Frc->Prop)->Prop
def z6k(w6u:w9z)(q45:R5)(z7r:z00)(j2a:z4t):q37:=fun codes who K=>w6u codes (400:Int) fun Qa Qv=>q45 Qa Qv (10:Int) fun Qc _=>w6u who (80:Int) fun Qf Zs=>z7r Qf Zs fun Qg V1=>j2a Qf V1 (Envt.mk (Sett.mk Qc.1.1 Qc.1.2 Qc.1.3) Qc.2 Qc.3 Qc.4 Qc.5 Qc.6) fun Qe _=>K (Envt.mk (Sett.mk Qc.1.1 Qc.1.2 Qc.1.3) Qc.2 Qc.3 Qc.4 Qc.5 Qc.6) (Subj.mk Qg.1) Qe
def q38:q37:=z6k w90 q3k z6d j1k
abbrev q01:=Envt->Subj->List Frc->(List Dcs->Prop)->Prop
def z3n(Jy:W8)(Zr:Ze):q01:=fun v s forced K=>Jy (Envt.mk (Sett.mk v.1.1 v.1.2 v.1.3) v.2 v.3 v.4 v.5 v.6) (Subj.mk s.1) forced fun Qa Qv z5d q48 w0q u5p u5q u5r u5s u5t y3m u5i u5j=>Fits v.4->Lp4 (fun Qf Zs q8d u41 Y2_4=>CAt v.4 Zs (fun y3=>Zr Qa Qv z5d q48 w0q u5p u5q u5r u5s u5t y3m q8d u41 (Flg.mk y3.1 y3.2 y3.3 y3.4 y3.5 y3.6 y3.7 y3.8 (Srv.mk y3.9.1 y3.9.2 y3.9.3 y3.9.4 y3.9.5)) fun Ql w2y y3p=>Sml (Qf++[Dcs.mk Ql.1 Ql.2 (Val.mk Ql.3.1 Ql.3.2 Ql.3.3 Ql.3.4) (Rsn.mk Ql.4.1 Ql.4.2 Ql.4.3 Ql.4.4) Ql.5]).length/\InI (Zs+1)/\Y2_4 (Qf++[Dcs.mk Ql.1 Ql.2 (Val.mk Ql.3.1 Ql.3.2 Ql.3.3 Ql.3.4) (Rsn.mk Ql.4.1 Ql.4.2 Ql.4.3 Ql.4.4) Ql.5]) (Zs+1) w2y y3p) (K Qf)) [] (0:Int) u5i u5j
def q6a:q01:=z3n H3 Vb
abbrev z4u:=List BA->List Edg->BA->(Bool->Prop)->Prop
def j8i(Qx:Wv):z4u:=fun order edges node K=>Lp1 (fun Qa Bj=>Fits edges->CAt edges Qa (fun y2=>Cnd (y2.1=node) (At edges Qa fun y4=>Qx order y4.2 fun Zx=>Cnd (Zx=true) (InI (Qa+1)/\Bj (Qa+1)) (K false)) (InI (Qa+1)/\Bj (Qa+1))) (Qx order node fun Qf=>K (match decide ((Qf,()).1=true) with|true=>false|false=>true))) (0:Int)
def j1l:z4u:=j8i U6
abbrev z4v:=List BA->List Edg->(List BA->Int->Prop)->Prop
def j8j(Qx:Wv)(j2b:z4u):z4v:=fun nodes edges K=>Lp1 (fun Qa Bj=>Fits nodes->Cnd (Qa<(↑nodes.length:Int)) ((0<=(0:Int)/\0<=Qa/\Qa<=(↑nodes.length:Int))/\At nodes Qa fun y2=>Qx (List.drop (Int.toNat 0) (List.take Qa.toNat nodes)) y2 fun Qe=>Cnd (Qe=true) (K [] (10:Int)) (InI (Qa+1)/\Bj (Qa+1))) (Lp1 (fun Qf j2o=>Fits edges->CAt edges Qf (fun y4=>Qx nodes y4.1 fun Zx=>Cnd (Zx=true) (At edges Qf fun y7=>Qx nodes y7.2 fun Qp=>Cnd (Qp=true) (InI (Qf+1)/\j2o (Qf+1)) (K [] (11:Int))) (K [] (11:Int))) (Lp1 (fun Qe v2c=>Fits Qe->Fits nodes->Cnd ((↑Qe.length:Int)<(↑nodes.length:Int)) (Lp4 (fun Qn z8g v8x v2b u5n=>Fits nodes->CAt nodes v8x (fun y9=>j2b v2b edges y9 fun Wp=>Cnd (Wp=true) (Cnd (z8g=true) (At nodes v8x fun y12=>Cnd (Lk.blt y12 Qn) (At nodes v8x fun y14=>InI (v8x+1)/\u5n y14 true (v8x+1) v2b) (InI (v8x+1)/\u5n Qn z8g (v8x+1) v2b)) (At nodes v8x fun y12=>InI (v8x+1)/\u5n y12 true (v8x+1) v2b)) (InI (v8x+1)/\u5n Qn z8g (v8x+1) v2b)) (Cnd (z8g=true) (Sml ([]++v2b).length/\Sml ([]++v2b++[Qn]).length/\v2c ([]++v2b++[Qn])) (K [] (12:Int)))) (B8 []) false (0:Int) Qe) (K Qe (0:Int))) [])) (0:Int))) (0:Int)
def j1m:z4v:=j8j U6 j1l
abbrev z03:=List Seg->(List BA->Int->Prop)->Prop
def j3y(Jh:Re)(Ho:q14)(j2c:z4v):z03:=fun l K=>Jh l fun Qa=>Ho l fun Qc=>j2c Qa Qc fun Qf Zs=>K Qf Zs
def z6l:z03:=j3y q9u q15 j1m
abbrev q2s:=BA->BA->Int->(Bool->Prop)->Prop
def q7d:q2s:=fun s t i K=>Cnd (0<=i) (InI (i+(↑t.size:Int))/\Cnd (i+(↑t.size:Int)<=(↑s.size:Int)) (InI (i+(↑t.size:Int))/\(0<=i/\i<=i+(↑t.size:Int)/\i+(↑t.size:Int)<=(↑s.size:Int))/\K (decide (s.extract i.toNat (i+(↑t.size:Int)).toNat=t))) (K false)) (K false)
abbrev q02:=Val->Val->(Bool->Prop)->Prop
def z3o(Qx:Wv)(Vx:q2s):q02:=fun v w K=>Cnd (w.1=3) (Cnd (v.1=5) (Qx v.4 w.3 fun Qa=>K Qa) (Lp1 (fun Qa Bj=>Cnd (v.1=3) (InI (Qa+(↑w.3.size:Int))/\Cnd (Qa+(↑w.3.size:Int)<=(↑v.3.size:Int)) (Vx v.3 w.3 Qa fun Qc=>Cnd (Qc=true) (K true) (InI (Qa+1)/\Bj (Qa+1))) (K false)) (K false)) (0:Int))) (K false)
def q6b:q02:=z3o U6 q7d
abbrev j55:=Bool->Bool->(Int->Prop)->Prop
def z4w:j55:=fun less greater K=>Cnd (less=true) (K (-1:Int)) (Cnd (greater=true) (K 1) (K 0))
abbrev q7e:=Val->Val->(Int->Int->Prop)->Prop
def z9b(Jb:Bu)(Qd:j55)(Rg:q5b):q7e:=fun a b K=>Jb a fun Qa=>Cnd (Qa=0) (Jb b fun Qc=>Cnd (Qc=0) (Cnd (a.1=b.1) (Cnd (a.1=1) (K 0 (8:Int)) (Cnd (a.1=5) (K 0 (8:Int)) (Cnd (a.1=2) (Qd (decide (a.2<b.2)) (decide (b.2<a.2)) fun Qf=>K Qf (0:Int)) (Cnd (a.1=3) (Qd (decide (Lk.blt a.3 b.3)) (decide (Lk.blt b.3 a.3)) fun Qf=>K Qf (0:Int)) (Rg a.3 fun (Qf:Int×Int×Int) Zs=>Rg b.3 fun (Qg:Int×Int×Int) V1=>Lp1 (fun Qe v2c=>Cnd (Qe<3) ((0<=Qe/\Qe<(↑(3:Nat):Int))/\((True/\(Qe=(↑(nat_lit 0):Int)->(0<=Qe/\Qe<(↑(3:Nat):Int))/\((True/\(Qe=(↑(nat_lit 0):Int)->Cnd (Qf.1=Qg.1) (InI (Qe+1)/\v2c (Qe+1)) ((0<=Qe/\Qe<(↑(3:Nat):Int))/\((True/\(Qe=(↑(nat_lit 0):Int)->(0<=Qe/\Qe<(↑(3:Nat):Int))/\((True/\(Qe=(↑(nat_lit 0):Int)->Qd (decide (Qf.1<Qg.1)) true fun Qp=>K Qp (0:Int)))/\(Qe=(↑(nat_lit 1):Int)->Qd (decide (Qf.1<Qg.2.1)) true fun Qp=>K Qp (0:Int)))/\(Qe=(↑(nat_lit 2):Int)->Qd (decide (Qf.1<Qg.2.2)) true fun Qp=>K Qp (0:Int))))/\(Qe=(↑(nat_lit 1):Int)->(0<=Qe/\Qe<(↑(3:Nat):Int))/\((True/\(Qe=(↑(nat_lit 0):Int)->Qd (decide (Qf.2.1<Qg.1)) true fun Qp=>K Qp (0:Int)))/\(Qe=(↑(nat_lit 1):Int)->Qd (decide (Qf.2.1<Qg.2.1)) true fun Qp=>K Qp (0:Int)))/\(Qe=(↑(nat_lit 2):Int)->Qd (decide (Qf.2.1<Qg.2.2)) true fun Qp=>K Qp (0:Int))))/\(Qe=(↑(nat_lit 2):Int)->(0<=Qe/\Qe<(↑(3:Nat):Int))/\((True/\(Qe=(↑(nat_lit 0):Int)->Qd (decide (Qf.2.2<Qg.1)) true fun Qp=>K Qp (0:Int)))/\(Qe=(↑(nat_lit 1):Int)->Qd (decide (Qf.2.2<Qg.2.1)) true fun Qp=>K Qp (0:Int)))/\(Qe=(↑(nat_lit 2):Int)->Qd (decide (Qf.2.2<Qg.2.2)) true fun Qp=>K Qp (0:Int))))))/\(Qe=(↑(nat_lit 1):Int)->Cnd (Qf.1=Qg.2.1) (InI (Qe+1)/\v2c (Qe+1)) ((0<=Qe/\Qe<(↑(3:Nat):Int))/\((True/\(Qe=(↑(nat_lit 0):Int)->(0<=Qe/\Qe<(↑(3:Nat):Int))/\((True/\(Qe=(↑(nat_lit 0):Int)->Qd (decide (Qf.1<Qg.1)) true fun Qp=>K Qp (0:Int)))/\(Qe=(↑(nat_lit 1):Int)->Qd (decide (Qf.1<Qg.2.1)) true fun Qp=>K Qp (0:Int)))/\(Qe=(↑(nat_lit 2):Int)->Qd (decide (Qf.1<Qg.2.2)) true fun Qp=>K Qp (0:Int))))/\(Qe=(↑(nat_lit 1):Int)->(0<=Qe/\Qe<(↑(3:Nat):Int))/\((True/\(Qe=(↑(nat_lit 0):Int)->Qd (decide (Qf.2.1<Qg.1)) true fun Qp=>K Qp (0:Int)))/\(Qe=(↑(nat_lit 1):Int)->Qd (decide (Qf.2.1<Qg.2.1)) true fun Qp=>K Qp (0:Int)))/\(Qe=(↑(nat_lit 2):Int)->Qd (decide (Qf.2.1<Qg.2.2)) true fun Qp=>K Qp (0:Int))))/\(Qe=(↑(nat_lit 2):Int)->(0<=Qe/\Qe<(↑(3:Nat):Int))/\((True/\(Qe=(↑(nat_lit 0):Int)->Qd (decide (Qf.2.2<Qg.1)) true fun Qp=>K Qp (0:Int)))/\(Qe=(↑(nat_lit 1):Int)->Qd (decide (Qf.2.2<Qg.2.1)) true fun Qp=>K Qp (0:Int)))/\(Qe=(↑(nat_lit 2):Int)->Qd (decide (Qf.2.2<Qg.2.2)) true fun Qp=>K Qp (0:Int))))))/\(Qe=(↑(nat_lit 2):Int)->Cnd (Qf.1=Qg.2.2) (InI (Qe+1)/\v2c (Qe+1)) ((0<=Qe/\Qe<(↑(3:Nat):Int))/\((True/\(Qe=(↑(nat_lit 0):Int)->(0<=Qe/\Qe<(↑(3:Nat):Int))/\((True/\(Qe=(↑(nat_lit 0):Int)->Qd (decide (Qf.1<Qg.1)) true fun Qp=>K Qp (0:Int)))/\(Qe=(↑(nat_lit 1):Int)->Qd (decide (Qf.1<Qg.2.1)) true fun Qp=>K Qp (0:Int)))/\(Qe=(↑(nat_lit 2):Int)->Qd (decide (Qf.1<Qg.2.2)) true fun Qp=>K Qp (0:Int))))/\(Qe=(↑(nat_lit 1):Int)->(0<=Qe/\Qe<(↑(3:Nat):Int))/\((True/\(Qe=(↑(nat_lit 0):Int)->Qd (decide (Qf.2.1<Qg.1)) true fun Qp=>K Qp (0:Int)))/\(Qe=(↑(nat_lit 1):Int)->Qd (decide (Qf.2.1<Qg.2.1)) true fun Qp=>K Qp (0:Int)))/\(Qe=(↑(nat_lit 2):Int)->Qd (decide (Qf.2.1<Qg.2.2)) true fun Qp=>K Qp (0:Int))))/\(Qe=(↑(nat_lit 2):Int)->(0<=Qe/\Qe<(↑(3:Nat):Int))/\((True/\(Qe=(↑(nat_lit 0):Int)->Qd (decide (Qf.2.2<Qg.1)) true fun Qp=>K Qp (0:Int)))/\(Qe=(↑(nat_lit 1):Int)->Qd (decide (Qf.2.2<Qg.2.1)) true fun Qp=>K Qp (0:Int)))/\(Qe=(↑(nat_lit 2):Int)->Qd (decide (Qf.2.2<Qg.2.2)) true fun Qp=>K Qp (0:Int)))))))/\(Qe=(↑(nat_lit 1):Int)->(0<=Qe/\Qe<(↑(3:Nat):Int))/\((True/\(Qe=(↑(nat_lit 0):Int)->Cnd (Qf.2.1=Qg.1) (InI (Qe+1)/\v2c (Qe+1)) ((0<=Qe/\Qe<(↑(3:Nat):Int))/\((True/\(Qe=(↑(nat_lit 0):Int)->(0<=Qe/\Qe<(↑(3:Nat):Int))/\((True/\(Qe=(↑(nat_lit 0):Int)->Qd (decide (Qf.1<Qg.1)) true fun Qp=>K Qp (0:Int)))/\(Qe=(↑(nat_lit 1):Int)->Qd (decide (Qf.1<Qg.2.1)) true fun Qp=>K Qp (0:Int)))/\(Qe=(↑(nat_lit 2):Int)->Qd (decide (Qf.1<Qg.2.2)) true fun Qp=>K Qp (0:Int))))/\(Qe=(↑(nat_lit 1):Int)->(0<=Qe/\Qe<(↑(3:Nat):Int))/\((True/\(Qe=(↑(nat_lit 0):Int)->Qd (decide (Qf.2.1<Qg.1)) true fun Qp=>K Qp (0:Int)))/\(Qe=(↑(nat_lit 1):Int)->Qd (decide (Qf.2.1<Qg.2.1)) true fun Qp=>K Qp (0:Int)))/\(Qe=(↑(nat_lit 2):Int)->Qd (decide (Qf.2.1<Qg.2.2)) true fun Qp=>K Qp (0:Int))))/\(Qe=(↑(nat_lit 2):Int)->(0<=Qe/\Qe<(↑(3:Nat):Int))/\((True/\(Qe=(↑(nat_lit 0):Int)->Qd (decide (Qf.2.2<Qg.1)) true fun Qp=>K Qp (0:Int)))/\(Qe=(↑(nat_lit 1):Int)->Qd (decide (Qf.2.2<Qg.2.1)) true fun Qp=>K Qp (0:Int)))/\(Qe=(↑(nat_lit 2):Int)->Qd (decide (Qf.2.2<Qg.2.2)) true fun Qp=>K Qp (0:Int))))))/\(Qe=(↑(nat_lit 1):Int)->Cnd (Qf.2.1=Qg.2.1) (InI (Qe+1)/\v2c (Qe+1)) ((0<=Qe/\Qe<(↑(3:Nat):Int))/\((True/\(Qe=(↑(nat_lit 0):Int)->(0<=Qe/\Qe<(↑(3:Nat):Int))/\((True/\(Qe=(↑(nat_lit 0):Int)->Qd (decide (Qf.1<Qg.1)) true fun Qp=>K Qp (0:Int)))/\(Qe=(↑(nat_lit 1):Int)->Qd (decide (Qf.1<Qg.2.1)) true fun Qp=>K Qp (0:Int)))/\(Qe=(↑(nat_lit 2):Int)->Qd (decide (Qf.1<Qg.2.2)) true fun Qp=>K Qp (0:Int))))/\(Qe=(↑(nat_lit 1):Int)->(0<=Qe/\Qe<(↑(3:Nat):Int))/\((True/\(Qe=(↑(nat_lit 0):Int)->Qd (decide (Qf.2.1<Qg.1)) true fun Qp=>K Qp (0:Int)))/\(Qe=(↑(nat_lit 1):Int)->Qd (decide (Qf.2.1<Qg.2.1)) true fun Qp=>K Qp (0:Int)))/\(Qe=(↑(nat_lit 2):Int)->Qd (decide (Qf.2.1<Qg.2.2)) true fun Qp=>K Qp (0:Int))))/\(Qe=(↑(nat_lit 2):Int)->(0<=Qe/\Qe<(↑(3:Nat):Int))/\((True/\(Qe=(↑(nat_lit 0):Int)->Qd (decide (Qf.2.2<Qg.1)) true fun Qp=>K Qp (0:Int)))/\(Qe=(↑(nat_lit 1):Int)->Qd (decide (Qf.2.2<Qg.2.1)) true fun Qp=>K Qp (0:Int)))/\(Qe=(↑(nat_lit 2):Int)->Qd (decide (Qf.2.2<Qg.2.2)) true fun Qp=>K Qp (0:Int))))))/\(Qe=(↑(nat_lit 2):Int)->Cnd (Qf.2.1=Qg.2.2) (InI (Qe+1)/\v2c (Qe+1)) ((0<=Qe/\Qe<(↑(3:Nat):Int))/\((True/\(Qe=(↑(nat_lit 0):Int)->(0<=Qe/\Qe<(↑(3:Nat):Int))/\((True/\(Qe=(↑(nat_lit 0):Int)->Qd (decide (Qf.1<Qg.1)) true fun Qp=>K Qp (0:Int)))/\(Qe=(↑(nat_lit 1):Int)->Qd (decide (Qf.1<Qg.2.1)) true fun Qp=>K Qp (0:Int)))/\(Qe=(↑(nat_lit 2):Int)->Qd (decide (Qf.1<Qg.2.2)) true fun Qp=>K Qp (0:Int))))/\(Qe=(↑(nat_lit 1):Int)->(0<=Qe/\Qe<(↑(3:Nat):Int))/\((True/\(Qe=(↑(nat_lit 0):Int)->Qd (decide (Qf.2.1<Qg.1)) true fun Qp=>K Qp (0:Int)))/\(Qe=(↑(nat_lit 1):Int)->Qd (decide (Qf.2.1<Qg.2.1)) true fun Qp=>K Qp (0:Int)))/\(Qe=(↑(nat_lit 2):Int)->Qd (decide (Qf.2.1<Qg.2.2)) true fun Qp=>K Qp (0:Int))))/\(Qe=(↑(nat_lit 2):Int)->(0<=Qe/\Qe<(↑(3:Nat):Int))/\((True/\(Qe=(↑(nat_lit 0):Int)->Qd (decide (Qf.2.2<Qg.1)) true fun Qp=>K Qp (0:Int)))/\(Qe=(↑(nat_lit 1):Int)->Qd (decide (Qf.2.2<Qg.2.1)) true fun Qp=>K Qp (0:Int)))/\(Qe=(↑(nat_lit 2):Int)->Qd (decide (Qf.2.2<Qg.2.2)) true fun Qp=>K Qp (0:Int)))))))/\(Qe=(↑(nat_lit 2):Int)->(0<=Qe/\Qe<(↑(3:Nat):Int))/\((True/\(Qe=(↑(nat_lit 0):Int)->Cnd (Qf.2.2=Qg.1) (InI (Qe+1)/\v2c (Qe+1)) ((0<=Qe/\Qe<(↑(3:Nat):Int))/\((True/\(Qe=(↑(nat_lit 0):Int)->(0<=Qe/\Qe<(↑(3:Nat):Int))/\((True/\(Qe=(↑(nat_lit 0):Int)->Qd (decide (Qf.1<Qg.1)) true fun Qp=>K Qp (0:Int)))/\(Qe=(↑(nat_lit 1):Int)->Qd (decide (Qf.1<Qg.2.1)) true fun Qp=>K Qp (0:Int)))/\(Qe=(↑(nat_lit 2):Int)->Qd (decide (Qf.1<Qg.2.2)) true fun Qp=>K Qp (0:Int))))/\(Qe=(↑(nat_lit 1):Int)->(0<=Qe/\Qe<(↑(3:Nat):Int))/\((True/\(Qe=(↑(nat_lit 0):Int)->Qd (decide (Qf.2.1<Qg.1)) true fun Qp=>K Qp (0:Int)))/\(Qe=(↑(nat_lit 1):Int)->Qd (decide (Qf.2.1<Qg.2.1)) true fun Qp=>K Qp (0:Int)))/\(Qe=(↑(nat_lit 2):Int)->Qd (decide (Qf.2.1<Qg.2.2)) true fun Qp=>K Qp (0:Int))))/\(Qe=(↑(nat_lit 2):Int)->(0<=Qe/\Qe<(↑(3:Nat):Int))/\((True/\(Qe=(↑(nat_lit 0):Int)->Qd (decide (Qf.2.2<Qg.1)) true fun Qp=>K Qp (0:Int)))/\(Qe=(↑(nat_lit 1):Int)->Qd (decide (Qf.2.2<Qg.2.1)) true fun Qp=>K Qp (0:Int)))/\(Qe=(↑(nat_lit 2):Int)->Qd (decide (Qf.2.2<Qg.2.2)) true fun Qp=>K Qp (0:Int))))))/\(Qe=(↑(nat_lit 1):Int)->Cnd (Qf.2.2=Qg.2.1) (InI (Qe+1)/\v2c (Qe+1)) ((0<=Qe/\Qe<(↑(3:Nat):Int))/\((True/\(Qe=(↑(nat_lit 0):Int)->(0<=Qe/\Qe<(↑(3:Nat):Int))/\((True/\(Qe=(↑(nat_lit 0):Int)->Qd (decide (Qf.1<Qg.1)) true fun Qp=>K Qp (0:Int)))/\(Qe=(↑(nat_lit 1):Int)->Qd (decide (Qf.1<Qg.2.1)) true fun Qp=>K Qp (0:Int)))/\(Qe=(↑(nat_lit 2):Int)->Qd (decide (Qf.1<Qg.2.2)) true fun Qp=>K Qp (0:Int))))/\(Qe=(↑(nat_lit 1):Int)->(0<=Qe/\Qe<(↑(3:Nat):Int))/\((True/\(Qe=(↑(nat_lit 0):Int)->Qd (decide (Qf.2.1<Qg.1)) true fun Qp=>K Qp (0:Int)))/\(Qe=(↑(nat_lit 1):Int)->Qd (decide (Qf.2.1<Qg.2.1)) true fun Qp=>K Qp (0:Int)))/\(Qe=(↑(nat_lit 2):Int)->Qd (decide (Qf.2.1<Qg.2.2)) true fun Qp=>K Qp (0:Int))))/\(Qe=(↑(nat_lit 2):Int)->(0<=Qe/\Qe<(↑(3:Nat):Int))/\((True/\(Qe=(↑(nat_lit 0):Int)->Qd (decide (Qf.2.2<Qg.1)) true fun Qp=>K Qp (0:Int)))/\(Qe=(↑(nat_lit 1):Int)->Qd (decide (Qf.2.2<Qg.2.1)) true fun Qp=>K Qp (0:Int)))/\(Qe=(↑(nat_lit 2):Int)->Qd (decide (Qf.2.2<Qg.2.2)) true fun Qp=>K Qp (0:Int))))))/\(Qe=(↑(nat_lit 2):Int)->Cnd (Qf.2.2=Qg.2.2) (InI (Qe+1)/\v2c (Qe+1)) ((0<=Qe/\Qe<(↑(3:Nat):Int))/\((True/\(Qe=(↑(nat_lit 0):Int)->(0<=Qe/\Qe<(↑(3:Nat):Int))/\((True/\(Qe=(↑(nat_lit 0):Int)->Qd (decide (Qf.1<Qg.1)) true fun Qp=>K Qp (0:Int)))/\(Qe=(↑(nat_lit 1):Int)->Qd (decide (Qf.1<Qg.2.1)) true fun Qp=>K Qp (0:Int)))/\(Qe=(↑(nat_lit 2):Int)->Qd (decide (Qf.1<Qg.2.2)) true fun Qp=>K Qp (0:Int))))/\(Qe=(↑(nat_lit 1):Int)->(0<=Qe/\Qe<(↑(3:Nat):Int))/\((True/\(Qe=(↑(nat_lit 0):Int)->Qd (decide (Qf.2.1<Qg.1)) true fun Qp=>K Qp (0:Int)))/\(Qe=(↑(nat_lit 1):Int)->Qd (decide (Qf.2.1<Qg.2.1)) true fun Qp=>K Qp (0:Int)))/\(Qe=(↑(nat_lit 2):Int)->Qd (decide (Qf.2.1<Qg.2.2)) true fun Qp=>K Qp (0:Int))))/\(Qe=(↑(nat_lit 2):Int)->(0<=Qe/\Qe<(↑(3:Nat):Int))/\((True/\(Qe=(↑(nat_lit 0):Int)->Qd (decide (Qf.2.2<Qg.1)) true fun Qp=>K Qp (0:Int)))/\(Qe=(↑(nat_lit 1):Int)->Qd (decide (Qf.2.2<Qg.2.1)) true fun Qp=>K Qp (0:Int)))/\(Qe=(↑(nat_lit 2):Int)->Qd (decide (Qf.2.2<Qg.2.2)) true fun Qp=>K Qp (0:Int))))))) (K 0 (0:Int))) (0:Int)))))) (K 0 (8:Int))) (K 0 Qc)) (K 0 Qa)
def q7f:q7e:=z9b q2o z4w q5c
abbrev z4x:=Subj->Ex->(Bool->Prop)->Prop
def j8k(Hu:q2c)(Q0:W2)(Wc:Bq)(Vx:q2s)(q1b:q02)(q7o:q7e):z4x:=fun s e K=>Hu (Subj.mk s.1) e.2 e.3 fun Qa Qv=>Cnd (Qv=true) (Q0 e.1 fun Qc=>Cnd (Qc=true) (Cnd (e.1=6) (K true) (Cnd (e.1=8) (Lp1 (fun Qf j2o=>Fits e.4->CAt e.4 Qf (fun y4=>Wc Qa y4 fun Zx=>Cnd (Zx=true) (K true) (InI (Qf+1)/\j2o (Qf+1))) (K false)) (0:Int)) (Fits e.4->Cnd ((↑e.4.length:Int)=0) (K false) ((0<=(0:Int)/\0<(↑e.4.length:Int))/\∀y3,e.4[Int.toNat 0]? =some y3->Cnd (Qa.1=3) (Cnd (e.1=7) (Wc Qa y3 fun Ql=>K Ql) (Cnd (e.1=9) (Cnd (y3.1=3) (Vx Qa.3 y3.3 (0:Int) fun Ql=>K Ql) (K false)) (Cnd (e.1=10) (Cnd (y3.1=3) (InI ((↑Qa.3.size:Int) - (↑y3.3.size:Int))/\Vx Qa.3 y3.3 ((↑Qa.3.size:Int) - (↑y3.3.size:Int)) fun Ql=>K Ql) (K false)) (Cnd (e.1=11) (q1b Qa y3 fun Ql=>K Ql) (q7o Qa y3 fun Ql q8e=>Cnd (q8e=0) (Cnd (e.1=12) (K (decide (Ql<0))) (Cnd (e.1=13) (K (decide (Ql<=0))) (Cnd (e.1=14) (K (decide (0<Ql))) (K (decide (0<=Ql)))))) (K false)))))) (Cnd (e.1=7) (Wc Qa y3 fun Ql=>K Ql) (Cnd (e.1=9) (K false) (Cnd (e.1=10) (K false) (Cnd (e.1=11) (q1b Qa y3 fun Ql=>K Ql) (q7o Qa y3 fun Ql q8e=>Cnd (q8e=0) (Cnd (e.1=12) (K (decide (Ql<0))) (Cnd (e.1=13) (K (decide (Ql<=0))) (Cnd (e.1=14) (K (decide (0<Ql))) (K (decide (0<=Ql)))))) (K false)))))))))) (K false)) (K false)
def q9w:z4x:=j8k z01 We q49 q7d q6b q7f
abbrev Uj:=Subj->List BA->Ex->(Bool->Prop)->Prop
def j8l(Qx:Wv)(j2d:z4x)(X:Uj):Uj:=fun s in_ e K=>Cnd (e.1=1) (K true) (Cnd (e.1=2) (Lp1 (fun Qa Bj=>Fits e.5->CAt e.5 Qa (fun y2=>X (Subj.mk s.1) in_ (Ex.mk y2.1 y2.2 y2.3 y2.4 y2.5) fun Qe=>Cnd (Qe=true) (InI (Qa+1)/\Bj (Qa+1)) (K false)) (K true)) (0:Int)) (Cnd (e.1=3) (Lp1 (fun Qa Bj=>Fits e.5->CAt e.5 Qa (fun y2=>X (Subj.mk s.1) in_ (Ex.mk y2.1 y2.2 y2.3 y2.4 y2.5) fun Qe=>Cnd (Qe=true) (K true) (InI (Qa+1)/\Bj (Qa+1))) (K false)) (0:Int)) (Cnd (e.1=4) (Fits e.5->Cnd (0<(↑e.5.length:Int)) ((0<=(0:Int)/\0<(↑e.5.length:Int))/\∀y1,e.5[Int.toNat 0]? =some y1->X (Subj.mk s.1) in_ (Ex.mk y1.1 y1.2 y1.3 y1.4 y1.5) fun Qg=>K (match decide ((Qg,()).1=true) with|true=>false|false=>true)) (K false)) (Cnd (e.1=5) (Qx in_ e.3 fun Qa=>K Qa) (j2d (Subj.mk s.1) (Ex.mk e.1 e.2 e.3 e.4 e.5) fun Qa=>K Qa)))))
def q2t:Uj:=fun s in_ e K=> ∀X:Uj,(∀s in_ e K,j8l U6 q9w X s in_ e K->X s in_ e K)->X s in_ e K
abbrev q7g:=Seg->Subj->List BA->(Bool->Prop)->Prop
def z9c(Zj:Ux)(Qx:Wv)(W0:Uj):q7g:=fun g s in_ K=>Zj (Subj.mk s.1) g.2 fun Qa Qv=>Cnd (Qv=true) (Qx g.4 Qa.2 fun Qc=>Cnd (Qc=true) (K false) (Qx g.3 Qa.2 fun Qf=>Cnd (Qf=true) (K true) (Cnd (g.5.1=0) (K false) (W0 (Subj.mk s.1) in_ (Ex.mk g.5.1 g.5.2 g.5.3 g.5.4 g.5.5) fun Qg=>K Qg)))) (K false)
def z17:q7g:=z9c q34 U6 q2t
abbrev Hf:=List Seg->Subj->(List BA->Prop)->Prop
def z6m(z7s:z03)(z25:q7g)(Vk:q54):Hf:=fun l s K=>z7s l fun Qa _=>Lp2 (fun Qc Z9 j0n=>Fits Qa->Cnd (Z9<(↑Qa.length:Int)) (Lp2 (fun Qg V1 w1u=>Fits l->CAt l V1 (fun y5=>At Qa Z9 fun y7=>Cnd (y5.1=y7) (At l V1 fun y9=>z25 (Seg.mk y9.1 y9.2 y9.3 y9.4 (Ex.mk y9.5.1 y9.5.2 y9.5.3 y9.5.4 y9.5.5)) (Subj.mk s.1) Qg fun Wp=>Cnd (Wp=true) (At Qa Z9 fun y12=>Vk Qg y12 fun Zw=>InI (V1+1)/\w1u Zw (V1+1)) (InI (V1+1)/\w1u Qg (V1+1))) (InI (V1+1)/\w1u Qg (V1+1))) (InI (Z9+1)/\j0n Qg (Z9+1))) Qc (0:Int)) (K Qc)) [] (0:Int)
def B1:Hf:=z6m z6l z17 q8p
abbrev q2d:=Envt->Subj->List Frc->(BA->BA->Int->List Decl->List Seg->List Flg->List Lay_->List Exper->List Ctxt->List Frc->List BA->List Bool->List Dcs->Prop)->Prop
def j3z(Jk:Hf):q2d:=fun v s forced K=>Fits v.4->Fits v.4->(Jk v.3 (Subj.mk s.1) fun Qf=>((0<=(↑v.4.length:Int)/\(↑v.4.length:Int)<=(↑v.4.length:Int)/\Sml (↑v.4.length:Int).toNat)/\(0<=(↑v.4.length:Int)/\(↑v.4.length:Int)<=(↑v.4.length:Int)/\Sml (↑v.4.length:Int).toNat)/\K v.1.1 v.1.2 v.1.3 v.2 v.3 v.4 v.5 v.6 s.1 forced Qf (List.replicate (↑v.4.length:Int).toNat false) (List.replicate (↑v.4.length:Int).toNat (Dcs.mk (B8 []) (0:Int) (Val.mk (0:Int) (0:Int) (B8 []) []) (Rsn.mk (0:Int) (0:Int) (B8 []) (0:Int)) (0:Int))))/\(0<=(↑v.4.length:Int)/\(↑v.4.length:Int)<=(↑v.4.length:Int)/\Sml (↑v.4.length:Int).toNat)/\(0<=(↑v.4.length:Int)/\(↑v.4.length:Int)<=(↑v.4.length:Int)/\Sml (↑v.4.length:Int).toNat)/\K v.1.1 v.1.2 v.1.3 v.2 v.3 v.4 v.5 v.6 s.1 forced Qf (List.replicate (↑v.4.length:Int).toNat false) (List.replicate (↑v.4.length:Int).toNat (Dcs.mk (B8 []) (0:Int) (Val.mk (0:Int) (0:Int) (B8 []) []) (Rsn.mk (0:Int) (0:Int) (B8 []) (0:Int)) (0:Int))))/\((0<=(↑v.4.length:Int)/\(↑v.4.length:Int)<=(↑v.4.length:Int)/\Sml (↑v.4.length:Int).toNat)/\(Jk v.3 (Subj.mk s.1) fun Qf=>(0<=(↑v.4.length:Int)/\(↑v.4.length:Int)<=(↑v.4.length:Int)/\Sml (↑v.4.length:Int).toNat)/\K v.1.1 v.1.2 v.1.3 v.2 v.3 v.4 v.5 v.6 s.1 forced Qf (List.replicate (↑v.4.length:Int).toNat false) (List.replicate (↑v.4.length:Int).toNat (Dcs.mk (B8 []) (0:Int) (Val.mk (0:Int) (0:Int) (B8 []) []) (Rsn.mk (0:Int) (0:Int) (B8 []) (0:Int)) (0:Int))))/\(0<=(↑v.4.length:Int)/\(↑v.4.length:Int)<=(↑v.4.length:Int)/\Sml (↑v.4.length:Int).toNat)/\Jk v.3 (Subj.mk s.1) fun Qf=>K v.1.1 v.1.2 v.1.3 v.2 v.3 v.4 v.5 v.6 s.1 forced Qf (List.replicate (↑v.4.length:Int).toNat false) (List.replicate (↑v.4.length:Int).toNat (Dcs.mk (B8 []) (0:Int) (Val.mk (0:Int) (0:Int) (B8 []) []) (Rsn.mk (0:Int) (0:Int) (B8 []) (0:Int)) (0:Int))))/\(0<=(↑v.4.length:Int)/\(↑v.4.length:Int)<=(↑v.4.length:Int)/\Sml (↑v.4.length:Int).toNat)/\(Jk v.3 (Subj.mk s.1) fun Qf=>(0<=(↑v.4.length:Int)/\(↑v.4.length:Int)<=(↑v.4.length:Int)/\Sml (↑v.4.length:Int).toNat)/\K v.1.1 v.1.2 v.1.3 v.2 v.3 v.4 v.5 v.6 s.1 forced Qf (List.replicate (↑v.4.length:Int).toNat false) (List.replicate (↑v.4.length:Int).toNat (Dcs.mk (B8 []) (0:Int) (Val.mk (0:Int) (0:Int) (B8 []) []) (Rsn.mk (0:Int) (0:Int) (B8 []) (0:Int)) (0:Int))))/\(0<=(↑v.4.length:Int)/\(↑v.4.length:Int)<=(↑v.4.length:Int)/\Sml (↑v.4.length:Int).toNat)/\Jk v.3 (Subj.mk s.1) fun Qf=>K v.1.1 v.1.2 v.1.3 v.2 v.3 v.4 v.5 v.6 s.1 forced Qf (List.replicate (↑v.4.length:Int).toNat false) (List.replicate (↑v.4.length:Int).toNat (Dcs.mk (B8 []) (0:Int) (Val.mk (0:Int) (0:Int) (B8 []) []) (Rsn.mk (0:Int) (0:Int) (B8 []) (0:Int)) (0:Int)))
def z04:q2d:=j3z B1
abbrev q9x:=Flg->Int->Rsn->(Dcs->Prop)->Prop
def q2u:q9x:=fun f variation r K=>Cnd (1<=variation) (Fits f.3->Cnd (variation<=(↑f.3.length:Int)) (InI (variation - 1)/\(0<=variation - 1/\variation - 1<(↑f.3.length:Int))/\∀y1,f.3[(variation - 1).toNat]? =some y1->K (Dcs.mk f.1 variation y1 r (0:Int))) (K (Dcs.mk f.1 variation (Val.mk (0:Int) (0:Int) (B8 []) []) r (0:Int)))) (K (Dcs.mk f.1 variation (Val.mk (0:Int) (0:Int) (B8 []) []) r (0:Int)))
abbrev z18:=List Frc->BA->(Frc->Bool->Prop)->Prop
def z19:z18:=fun l layer K=>Lp4 (fun Qa Qv z5d q48 u9o=>Fits l->CAt l Qa (fun y2=>Cnd (y2.1=layer) (At l Qa fun y4=>K y4 true) (InI (Qa+1)/\u9o (Qa+1) Qv z5d q48)) (K (Frc.mk (B8 []) (B8 []) (0:Int)) false)) (0:Int) (B8 []) (B8 []) (0:Int)
abbrev Wx:=Envt->BA->(Int->Prop)->Prop
def Wy:Wx:=fun v key K=>Lp1 (fun Qa Bj=>Fits v.6->CAt v.6 Qa (fun y2=>Cnd (y2.1=key) (K Qa) (InI (Qa+1)/\Bj (Qa+1))) (K (-1:Int))) (0:Int)
abbrev z2a:=List Rng->Int->(Bool->Prop)->Prop
def z2b:z2a:=fun l arm K=>Lp1 (fun Qa Bj=>Fits l->CAt l Qa (fun y2=>Cnd (y2.3=arm) (K true) (InI (Qa+1)/\Bj (Qa+1))) (K false)) (0:Int)
abbrev z05:=Envt->List Frc->Asg->(Asg->Bool->Prop)->Prop
def j30(z27:z18)(Z8:Wx)(z29:z2a):z05:=fun v forced a K=>z27 forced a.1 fun Qa Qv=>Cnd (Qv=true) (Cnd (Qa.2=B8 []) (K a Qv) (Z8 (Envt.mk (Sett.mk v.1.1 v.1.2 v.1.3) v.2 v.3 v.4 v.5 v.6) Qa.2 fun Qc=>Cnd (Qc<0) (K a false) (At v.6 Qc fun y2=>Cnd (y2.5=2) (At v.6 Qc fun y4=>Cnd (y4.2=a.1) (At v.6 Qc fun y6=>z29 y6.7 Qa.3 fun Ws=>Cnd (Ws=true) (K (Asg.mk a.1 Qa.2 a.3 Qa.3 a.5) true) (K a false)) (K a false)) (K a false)))) (K a Qv)
def z6n:z05:=j30 z19 Wy z2b
abbrev z4y:=Envt->Subj->(Bool->Prop)->Prop
def j8m(Zj:Ux)(Wr:q35):z4y:=fun v s K=>Zj (Subj.mk s.1) v.1.2 fun Qa Qv=>Cnd (Qv=true) (Cnd (0<v.1.3) (Wr v.1.1 Qa.2 fun Qc=>K (decide (Qc<v.1.3))) (K false)) (K false)
def j1n:z4y:=j8m q34 q8z
abbrev z2c:=List Spn->Int->(Bool->Prop)->Prop
def z2d:z2c:=fun l bucket K=>Lp1 (fun Qa Bj=>Fits l->CAt l Qa (fun y2=>Cnd (y2.1<=bucket) (At l Qa fun y4=>Cnd (bucket<y4.2) (K true) (InI (Qa+1)/\Bj (Qa+1))) (InI (Qa+1)/\Bj (Qa+1))) (K false)) (0:Int)
abbrev q03:=Envt->Subj->BA->(Bool->Prop)->Prop
def z3p(Z8:Wx)(Jk:Hf)(W0:Uj):q03:=fun v s experiment K=>Z8 (Envt.mk (Sett.mk v.1.1 v.1.2 v.1.3) v.2 v.3 v.4 v.5 v.6) experiment fun Qa=>Cnd (0<=Qa) (At v.6 Qa fun y1=>Jk v.3 (Subj.mk s.1) fun Qg=>W0 (Subj.mk s.1) Qg (Ex.mk y1.8.1 y1.8.2 y1.8.3 y1.8.4 y1.8.5) fun Qe=>K Qe) (K false)
def q6c:q03:=z3p Wy B1 q2t
abbrev z06:=Envt->Subj->List Frc->BA->(Asg->Int->Prop)->Prop
def j31(Qt:Jt)(Zj:Ux)(z7t:z05)(j2e:z4y)(q7p:z2c)(q1c:q03)(Wr:q35)(Rh:q9v):z06:=fun v s forced key K=>Qt (Envt.mk (Sett.mk v.1.1 v.1.2 v.1.3) v.2 v.3 v.4 v.5 v.6) key fun Qa=>Cnd (Qa<0) (K (Asg.mk (B8 []) (B8 []) (0:Int) (0:Int) false) (11:Int)) (At v.5 Qa fun y1=>Zj (Subj.mk s.1) y1.2 fun Qg V1=>Jn1 (fun Qe=>z7t (Envt.mk (Sett.mk v.1.1 v.1.2 v.1.3) v.2 v.3 v.4 v.5 v.6) forced (Asg.mk key (B8 []) Qe (0:Int) false) fun Ql q8e=>Cnd (q8e=true) (K Ql (0:Int)) (j2e (Envt.mk (Sett.mk v.1.1 v.1.2 v.1.3) v.2 v.3 v.4 v.5 v.6) (Subj.mk s.1) fun Zx=>Cnd (Zx=true) (K (Asg.mk key (B8 []) Qe (0:Int) true) (0:Int)) (Cnd (V1=true) (Cnd (Qe<y1.4) (K (Asg.mk key (B8 []) Qe (0:Int) true) (0:Int)) (LpH (fun (Qn:Int×BA×BA×Int×Int×Bool×BA×BA×Int×Int×Bool×Unit) (v18:Int×BA×BA×Int×Int×Bool×BA×BA×Int×Int×Bool×Unit->Prop)=>Fits v.6->Cnd (Qn.1<(↑v.6.length:Int)) (Cnd (V1=true) (At v.6 Qn.1 fun y9=>Cnd (y9.2=key) (Cnd (y9.5=2) (q7p y9.6 Qn.2.2.2.1 fun Wp=>Cnd (Wp=true) (q1c (Envt.mk (Sett.mk v.1.1 v.1.2 v.1.3) v.2 v.3 v.4 v.5 v.6) (Subj.mk s.1) y9.1 fun Zp=>Cnd (Zp=true) (Wr y9.4 Qg.2 fun Zb=>Rh y9.7 Zb fun Zw=>K (Asg.mk Qn.2.1 y9.1 Qn.2.2.2.1 Zw Qn.2.2.2.2.2.1) (0:Int)) (InI (Qn.1+1)/\v18 (Qn.1+1,Qn.2.1,Qn.2.2.1,Qn.2.2.2.1,Qn.2.2.2.2.1,Qn.2.2.2.2.2.1,Qn.2.2.2.2.2.2.1,Qn.2.2.2.2.2.2.2.1,Qn.2.2.2.2.2.2.2.2.1,Qn.2.2.2.2.2.2.2.2.2.1,Qn.2.2.2.2.2.2.2.2.2.2.1,()))) (InI (Qn.1+1)/\v18 (Qn.1+1,Qn.2.1,Qn.2.2.1,Qn.2.2.2.1,Qn.2.2.2.2.1,Qn.2.2.2.2.2.1,Qn.2.2.2.2.2.2.1,Qn.2.2.2.2.2.2.2.1,Qn.2.2.2.2.2.2.2.2.1,Qn.2.2.2.2.2.2.2.2.2.1,Qn.2.2.2.2.2.2.2.2.2.2.1,()))) (InI (Qn.1+1)/\v18 (Qn.1+1,Qn.2.1,Qn.2.2.1,Qn.2.2.2.1,Qn.2.2.2.2.1,Qn.2.2.2.2.2.1,Qn.2.2.2.2.2.2.1,Qn.2.2.2.2.2.2.2.1,Qn.2.2.2.2.2.2.2.2.1,Qn.2.2.2.2.2.2.2.2.2.1,Qn.2.2.2.2.2.2.2.2.2.2.1,()))) (InI (Qn.1+1)/\v18 (Qn.1+1,Qn.2.1,Qn.2.2.1,Qn.2.2.2.1,Qn.2.2.2.2.1,Qn.2.2.2.2.2.1,Qn.2.2.2.2.2.2.1,Qn.2.2.2.2.2.2.2.1,Qn.2.2.2.2.2.2.2.2.1,Qn.2.2.2.2.2.2.2.2.2.1,Qn.2.2.2.2.2.2.2.2.2.2.1,()))) (K (Asg.mk Qn.2.1 Qn.2.2.1 Qn.2.2.2.1 Qn.2.2.2.2.1 Qn.2.2.2.2.2.1) (0:Int))) (K (Asg.mk Qn.2.1 Qn.2.2.1 Qn.2.2.2.1 Qn.2.2.2.2.1 Qn.2.2.2.2.2.1) (0:Int))) ((0:Int),key,B8 [],Qe,(0:Int),false,B8 [],B8 [],(0:Int),(0:Int),false,()))) (LpH (fun (Qn:Int×BA×BA×Int×Int×Bool×BA×BA×Int×Int×Bool×Unit) (v18:Int×BA×BA×Int×Int×Bool×BA×BA×Int×Int×Bool×Unit->Prop)=>Fits v.6->Cnd (Qn.1<(↑v.6.length:Int)) (Cnd (V1=true) (At v.6 Qn.1 fun y9=>Cnd (y9.2=key) (Cnd (y9.5=2) (q7p y9.6 Qn.2.2.2.1 fun Wp=>Cnd (Wp=true) (q1c (Envt.mk (Sett.mk v.1.1 v.1.2 v.1.3) v.2 v.3 v.4 v.5 v.6) (Subj.mk s.1) y9.1 fun Zp=>Cnd (Zp=true) (Wr y9.4 Qg.2 fun Zb=>Rh y9.7 Zb fun Zw=>K (Asg.mk Qn.2.1 y9.1 Qn.2.2.2.1 Zw Qn.2.2.2.2.2.1) (0:Int)) (InI (Qn.1+1)/\v18 (Qn.1+1,Qn.2.1,Qn.2.2.1,Qn.2.2.2.1,Qn.2.2.2.2.1,Qn.2.2.2.2.2.1,Qn.2.2.2.2.2.2.1,Qn.2.2.2.2.2.2.2.1,Qn.2.2.2.2.2.2.2.2.1,Qn.2.2.2.2.2.2.2.2.2.1,Qn.2.2.2.2.2.2.2.2.2.2.1,()))) (InI (Qn.1+1)/\v18 (Qn.1+1,Qn.2.1,Qn.2.2.1,Qn.2.2.2.1,Qn.2.2.2.2.1,Qn.2.2.2.2.2.1,Qn.2.2.2.2.2.2.1,Qn.2.2.2.2.2.2.2.1,Qn.2.2.2.2.2.2.2.2.1,Qn.2.2.2.2.2.2.2.2.2.1,Qn.2.2.2.2.2.2.2.2.2.2.1,()))) (InI (Qn.1+1)/\v18 (Qn.1+1,Qn.2.1,Qn.2.2.1,Qn.2.2.2.1,Qn.2.2.2.2.1,Qn.2.2.2.2.2.1,Qn.2.2.2.2.2.2.1,Qn.2.2.2.2.2.2.2.1,Qn.2.2.2.2.2.2.2.2.1,Qn.2.2.2.2.2.2.2.2.2.1,Qn.2.2.2.2.2.2.2.2.2.2.1,()))) (InI (Qn.1+1)/\v18 (Qn.1+1,Qn.2.1,Qn.2.2.1,Qn.2.2.2.1,Qn.2.2.2.2.1,Qn.2.2.2.2.2.1,Qn.2.2.2.2.2.2.1,Qn.2.2.2.2.2.2.2.1,Qn.2.2.2.2.2.2.2.2.1,Qn.2.2.2.2.2.2.2.2.2.1,Qn.2.2.2.2.2.2.2.2.2.2.1,()))) (K (Asg.mk Qn.2.1 Qn.2.2.1 Qn.2.2.2.1 Qn.2.2.2.2.1 Qn.2.2.2.2.2.1) (0:Int))) (K (Asg.mk Qn.2.1 Qn.2.2.1 Qn.2.2.2.1 Qn.2.2.2.2.1 Qn.2.2.2.2.2.1) (0:Int))) ((0:Int),key,B8 [],Qe,(0:Int),false,B8 [],B8 [],(0:Int),(0:Int),false,()))))) fun v5u=>Cnd (V1=true) (Wr y1.3 Qg.2 fun Ql=>v5u Ql) (v5u (-1:Int)))
def q5j:z06:=j31 Vf q34 z6n j1n z2d q6c q8z z4s
abbrev Bd:=Envt->Subj->Exper->(Int->Prop)->Prop
def z07(Qt:Jt)(Zj:Ux)(Wr:q35):Bd:=fun v s y K=>Qt (Envt.mk (Sett.mk v.1.1 v.1.2 v.1.3) v.2 v.3 v.4 v.5 v.6) y.2 fun Qa=>Cnd (Qa<0) (K (-1:Int)) (At v.5 Qa fun y1=>Zj (Subj.mk s.1) y1.2 fun Qg V1=>Cnd (V1=true) (Wr y.4 Qg.2 fun Qe=>K Qe) (K (-1:Int)))
def Gn:Bd:=z07 Vf q34 q8z
abbrev Vc:=BA->BA->Int->List Decl->List Seg->List Flg->List Lay_->List Exper->List Ctxt->List Frc->List BA->List Bool->List Dcs->Flg->Srv->Rsn->(Dcs->List Bool->List Dcs->Prop)->Prop
def q0p(z7u:z02)(Wk:q9x):Vc:=fun _ _ _ _ _ _ _ _ ctxs _ _ done opn f v r K=>z7u (Subj.mk ctxs) v fun Qa Qv z5d=>Cnd (z5d=true) (Wk (Flg.mk f.1 f.2 f.3 f.4 f.5 f.6 f.7 f.8 (Srv.mk f.9.1 f.9.2 f.9.3 f.9.4 f.9.5)) Qa (Rsn.mk r.1 r.2 r.3 Qv) fun Qc=>K (Dcs.mk Qc.1 Qc.2 (Val.mk Qc.3.1 Qc.3.2 Qc.3.3 Qc.3.4) (Rsn.mk Qc.4.1 Qc.4.2 Qc.4.3 Qc.4.4) Qc.5) done opn) (Wk (Flg.mk f.1 f.2 f.3 f.4 f.5 f.6 f.7 f.8 (Srv.mk f.9.1 f.9.2 f.9.3 f.9.4 f.9.5)) f.5 (Rsn.mk (7:Int) r.2 (B8 []) (-1:Int)) fun Qc=>K (Dcs.mk Qc.1 Qc.2 (Val.mk Qc.3.1 Qc.3.2 Qc.3.3 Qc.3.4) (Rsn.mk Qc.4.1 Qc.4.2 Qc.4.3 Qc.4.4) Qc.5) done opn)
def Jo:Vc:=q0p z6j q2u
abbrev Zk:=BA->BA->Int->List Decl->List Seg->List Flg->List Lay_->List Exper->List Ctxt->List Frc->List BA->List Bool->List Dcs->Int->(Dcs->List Bool->List Dcs->Prop)->Prop
def q2e(Zh:Vs)(Wk:q9x)(z3a:q7c)(z7v:z06)(q46:Bd)(W0:Uj)(Ve:Vc)(X:Zk):Zk:=fun salt hkind hold attrs segs flags layers expers ctxs fs inn done opn i K=>Jn2 (fun Qa Qv=>At Qv i fun y1=>K (Dcs.mk y1.1 y1.2 (Val.mk y1.3.1 y1.3.2 y1.3.3 y1.3.4) (Rsn.mk y1.4.1 y1.4.2 y1.4.3 y1.4.4) y1.5) Qa Qv) fun q0r=>At done i fun y1=>Cnd (y1=true) (q0r done opn) (At done i fun _=>At flags i fun y5=>Two (Cnd (y5.4=true) (LpH (fun (Qn:Int×BA×Int×Int×Int×BA×List BA×Int×Int×BA×Int×Int×List Dcs×List Bool×Unit) (v18:Int×BA×Int×Int×Int×BA×List BA×Int×Int×BA×Int×Int×List Dcs×List Bool×Unit->Prop)=>Fits y5.6->CAt y5.6 Qn.1 (fun y9=>Zh (Envt.mk (Sett.mk salt hkind hold) attrs segs flags layers expers) y9.1 fun Wp=>Cnd (0<=Wp) (At flags Wp fun y12=>Cnd (y12.4=true) (X salt hkind hold attrs segs flags layers expers ctxs fs inn Qn.2.2.2.2.2.2.2.2.2.2.2.2.2.1 Qn.2.2.2.2.2.2.2.2.2.2.2.2.1 Wp fun Zw u02 y3n=>Cnd (Zw.2=y9.2) (InI (Qn.1+1)/\v18 (Qn.1+1,Qn.2.1,Qn.2.2.1,Qn.2.2.2.1,Qn.2.2.2.2.1,Qn.2.2.2.2.2.1,Qn.2.2.2.2.2.2.1,Qn.2.2.2.2.2.2.2.1,Qn.2.2.2.2.2.2.2.2.1,Qn.2.2.2.2.2.2.2.2.2.1,Qn.2.2.2.2.2.2.2.2.2.2.1,Qn.2.2.2.2.2.2.2.2.2.2.2.1,y3n,u02,())) (At y5.6 Qn.1 fun y15=>Wk (Flg.mk y5.1 y5.2 y5.3 y5.4 y5.5 y5.6 y5.7 y5.8 (Srv.mk y5.9.1 y5.9.2 y5.9.3 y5.9.4 y5.9.5)) y5.5 (Rsn.mk (2:Int) (0:Int) y15.1 (-1:Int)) fun j0q=>At y3n i fun _=>q0r u02 (y3n.set i.toNat (Dcs.mk j0q.1 j0q.2 (Val.mk j0q.3.1 j0q.3.2 j0q.3.3 j0q.3.4) (Rsn.mk j0q.4.1 j0q.4.2 j0q.4.3 j0q.4.4) j0q.5)))) (At y5.6 Qn.1 fun y14=>Wk (Flg.mk y5.1 y5.2 y5.3 y5.4 y5.5 y5.6 y5.7 y5.8 (Srv.mk y5.9.1 y5.9.2 y5.9.3 y5.9.4 y5.9.5)) y5.5 (Rsn.mk (2:Int) (0:Int) y14.1 (-1:Int)) fun Jp=>At Qn.2.2.2.2.2.2.2.2.2.2.2.2.1 i fun _=>q0r Qn.2.2.2.2.2.2.2.2.2.2.2.2.2.1 (Qn.2.2.2.2.2.2.2.2.2.2.2.2.1.set i.toNat (Dcs.mk Jp.1 Jp.2 (Val.mk Jp.3.1 Jp.3.2 Jp.3.3 Jp.3.4) (Rsn.mk Jp.4.1 Jp.4.2 Jp.4.3 Jp.4.4) Jp.5)))) (At y5.6 Qn.1 fun y12=>Wk (Flg.mk y5.1 y5.2 y5.3 y5.4 y5.5 y5.6 y5.7 y5.8 (Srv.mk y5.9.1 y5.9.2 y5.9.3 y5.9.4 y5.9.5)) y5.5 (Rsn.mk (2:Int) (0:Int) y12.1 (-1:Int)) fun Zw=>At Qn.2.2.2.2.2.2.2.2.2.2.2.2.1 i fun _=>q0r Qn.2.2.2.2.2.2.2.2.2.2.2.2.2.1 (Qn.2.2.2.2.2.2.2.2.2.2.2.2.1.set i.toNat (Dcs.mk Zw.1 Zw.2 (Val.mk Zw.3.1 Zw.3.2 Zw.3.3 Zw.3.4) (Rsn.mk Zw.4.1 Zw.4.2 Zw.4.3 Zw.4.4) Zw.5)))) (z3a (Flg.mk y5.1 y5.2 y5.3 y5.4 y5.5 y5.6 y5.7 y5.8 (Srv.mk y5.9.1 y5.9.2 y5.9.3 y5.9.4 y5.9.5)) (Subj.mk ctxs) fun Qp=>Cnd (0<Qp) (InI (Qp - 1)/\(0<=Qp - 1/\Qp - 1<(↑y5.7.length:Int))/\∀y10,y5.7[(Qp - 1).toNat]? =some y10->Wk (Flg.mk y5.1 y5.2 y5.3 y5.4 y5.5 y5.6 y5.7 y5.8 (Srv.mk y5.9.1 y5.9.2 y5.9.3 y5.9.4 y5.9.5)) y10.2 (Rsn.mk (3:Int) Qp (B8 []) (-1:Int)) fun Zp=>At Qn.2.2.2.2.2.2.2.2.2.2.2.2.1 i fun _=>q0r Qn.2.2.2.2.2.2.2.2.2.2.2.2.2.1 (Qn.2.2.2.2.2.2.2.2.2.2.2.2.1.set i.toNat (Dcs.mk Zp.1 Zp.2 (Val.mk Zp.3.1 Zp.3.2 Zp.3.3 Zp.3.4) (Rsn.mk Zp.4.1 Zp.4.2 Zp.4.3 Zp.4.4) Zp.5))) (LpH (fun (Zd:Int×BA×Int×Int×Int×BA×List BA×Int×Int×BA×Int×Int×Unit) (u5k:Int×BA×Int×Int×Int×BA×List BA×Int×Int×BA×Int×Int×Unit->Prop)=>Fits expers->CAt expers Zd.1 (fun y12=>Cnd (y12.3=y5.1) (Cnd (y12.5=2) (z7v (Envt.mk (Sett.mk salt hkind hold) attrs segs flags layers expers) (Subj.mk ctxs) fs y12.2 fun Zw _=>Cnd (Zw.2=y12.1) (q46 (Envt.mk (Sett.mk salt hkind hold) attrs segs flags layers expers) (Subj.mk ctxs) (Exper.mk y12.1 y12.2 y12.3 y12.4 y12.5 y12.6 y12.7 (Ex.mk y12.8.1 y12.8.2 y12.8.3 y12.8.4 y12.8.5)) fun w74=>Wk (Flg.mk y5.1 y5.2 y5.3 y5.4 y5.5 y5.6 y5.7 y5.8 (Srv.mk y5.9.1 y5.9.2 y5.9.3 y5.9.4 y5.9.5)) Zw.4 (Rsn.mk (4:Int) (0:Int) y12.1 w74) fun Jp=>At Qn.2.2.2.2.2.2.2.2.2.2.2.2.1 i fun _=>q0r Qn.2.2.2.2.2.2.2.2.2.2.2.2.2.1 (Qn.2.2.2.2.2.2.2.2.2.2.2.2.1.set i.toNat (Dcs.mk Jp.1 Jp.2 (Val.mk Jp.3.1 Jp.3.2 Jp.3.3 Jp.3.4) (Rsn.mk Jp.4.1 Jp.4.2 Jp.4.3 Jp.4.4) Jp.5))) (InI (Zd.1+1)/\u5k (Zd.1+1,Zd.2.1,Zd.2.2.1,Zd.2.2.2.1,Zd.2.2.2.2.1,Zd.2.2.2.2.2.1,Zd.2.2.2.2.2.2.1,Zd.2.2.2.2.2.2.2.1,Zd.2.2.2.2.2.2.2.2.1,Zd.2.2.2.2.2.2.2.2.2.1,Zd.2.2.2.2.2.2.2.2.2.2.1,Zd.2.2.2.2.2.2.2.2.2.2.2.1,()))) (InI (Zd.1+1)/\u5k (Zd.1+1,Zd.2.1,Zd.2.2.1,Zd.2.2.2.1,Zd.2.2.2.2.1,Zd.2.2.2.2.2.1,Zd.2.2.2.2.2.2.1,Zd.2.2.2.2.2.2.2.1,Zd.2.2.2.2.2.2.2.2.1,Zd.2.2.2.2.2.2.2.2.2.1,Zd.2.2.2.2.2.2.2.2.2.2.1,Zd.2.2.2.2.2.2.2.2.2.2.2.1,()))) (InI (Zd.1+1)/\u5k (Zd.1+1,Zd.2.1,Zd.2.2.1,Zd.2.2.2.1,Zd.2.2.2.2.1,Zd.2.2.2.2.2.1,Zd.2.2.2.2.2.2.1,Zd.2.2.2.2.2.2.2.1,Zd.2.2.2.2.2.2.2.2.1,Zd.2.2.2.2.2.2.2.2.2.1,Zd.2.2.2.2.2.2.2.2.2.2.1,Zd.2.2.2.2.2.2.2.2.2.2.2.1,()))) (LpH (fun (Zp:Int×BA×Int×Int×Int×BA×List BA×Int×Int×BA×Int×Int×List Bool×List Dcs×Unit) (u48:Int×BA×Int×Int×Int×BA×List BA×Int×Int×BA×Int×Int×List Bool×List Dcs×Unit->Prop)=>Fits y5.8->CAt y5.8 Zp.1 (fun y14=>W0 (Subj.mk ctxs) inn (Ex.mk y14.2.1 y14.2.2 y14.2.3 y14.2.4 y14.2.5) fun Jp=>Cnd (Jp=true) (At y5.8 Zp.1 fun y17=>InI (Zp.1+1)/\At y5.8 Zp.1 fun y19=>Ve salt hkind hold attrs segs flags layers expers ctxs fs inn Zp.2.2.2.2.2.2.2.2.2.2.2.2.1 Zp.2.2.2.2.2.2.2.2.2.2.2.2.2.1 (Flg.mk y5.1 y5.2 y5.3 y5.4 y5.5 y5.6 y5.7 y5.8 (Srv.mk y5.9.1 y5.9.2 y5.9.3 y5.9.4 y5.9.5)) (Srv.mk y17.3.1 y17.3.2 y17.3.3 y17.3.4 y17.3.5) (Rsn.mk (5:Int) (Zp.1+1) y19.1 (0:Int)) fun j4y u0z u7x=>At u7x i fun _=>q0r u0z (u7x.set i.toNat (Dcs.mk j4y.1 j4y.2 (Val.mk j4y.3.1 j4y.3.2 j4y.3.3 j4y.3.4) (Rsn.mk j4y.4.1 j4y.4.2 j4y.4.3 j4y.4.4) j4y.5))) (InI (Zp.1+1)/\u48 (Zp.1+1,Zp.2.1,Zp.2.2.1,Zp.2.2.2.1,Zp.2.2.2.2.1,Zp.2.2.2.2.2.1,Zp.2.2.2.2.2.2.1,Zp.2.2.2.2.2.2.2.1,Zp.2.2.2.2.2.2.2.2.1,Zp.2.2.2.2.2.2.2.2.2.1,Zp.2.2.2.2.2.2.2.2.2.2.1,Zp.2.2.2.2.2.2.2.2.2.2.2.1,Zp.2.2.2.2.2.2.2.2.2.2.2.2.1,Zp.2.2.2.2.2.2.2.2.2.2.2.2.2.1,()))) (Ve salt hkind hold attrs segs flags layers expers ctxs fs inn Zp.2.2.2.2.2.2.2.2.2.2.2.2.1 Zp.2.2.2.2.2.2.2.2.2.2.2.2.2.1 (Flg.mk y5.1 y5.2 y5.3 y5.4 y5.5 y5.6 y5.7 y5.8 (Srv.mk y5.9.1 y5.9.2 y5.9.3 y5.9.4 y5.9.5)) (Srv.mk y5.9.1 y5.9.2 y5.9.3 y5.9.4 y5.9.5) (Rsn.mk (6:Int) (0:Int) (B8 []) (0:Int)) fun Zw u02 y3n=>At y3n i fun _=>q0r u02 (y3n.set i.toNat (Dcs.mk Zw.1 Zw.2 (Val.mk Zw.3.1 Zw.3.2 Zw.3.3 Zw.3.4) (Rsn.mk Zw.4.1 Zw.4.2 Zw.4.3 Zw.4.4) Zw.5)))) ((0:Int),Zd.2.1,Zd.2.2.1,Zd.2.2.2.1,Zd.2.2.2.2.1,Zd.2.2.2.2.2.1,Zd.2.2.2.2.2.2.1,Zd.2.2.2.2.2.2.2.1,Zd.2.2.2.2.2.2.2.2.1,Zd.2.2.2.2.2.2.2.2.2.1,Zd.2.2.2.2.2.2.2.2.2.2.1,Zd.2.2.2.2.2.2.2.2.2.2.2.1,Qn.2.2.2.2.2.2.2.2.2.2.2.2.2.1,Qn.2.2.2.2.2.2.2.2.2.2.2.2.1,()))) ((0:Int),Qn.2.1,Qn.2.2.1,Qn.2.2.2.1,Qn.2.2.2.2.1,Qn.2.2.2.2.2.1,Qn.2.2.2.2.2.2.1,Qn.2.2.2.2.2.2.2.1,Qn.2.2.2.2.2.2.2.2.1,Qn.2.2.2.2.2.2.2.2.2.1,Qn.2.2.2.2.2.2.2.2.2.2.1,Qn.2.2.2.2.2.2.2.2.2.2.2.1,())))) ((0:Int),B8 [],(0:Int),(0:Int),(0:Int),B8 [],[],(0:Int),(0:Int),B8 [],(0:Int),(0:Int),opn,done.set i.toNat true,())) (Wk (Flg.mk y5.1 y5.2 y5.3 y5.4 y5.5 y5.6 y5.7 y5.8 (Srv.mk y5.9.1 y5.9.2 y5.9.3 y5.9.4 y5.9.5)) y5.5 (Rsn.mk (1:Int) (0:Int) (B8 []) (-1:Int)) fun Qn=>At opn i fun _=>q0r (done.set i.toNat true) (opn.set i.toNat (Dcs.mk Qn.1 Qn.2 (Val.mk Qn.3.1 Qn.3.2 Qn.3.3 Qn.3.4) (Rsn.mk Qn.4.1 Qn.4.2 Qn.4.3 Qn.4.4) Qn.5)))))
def Ub:Zk:=fun salt hkind hold attrs segs flags layers expers ctxs fs inn done opn i K=> ∀X:Zk,(∀salt hkind hold attrs segs flags layers expers ctxs fs inn done opn i K,q2e Vt q2u q2r q5j Gn q2t Jo X salt hkind hold attrs segs flags layers expers ctxs fs inn done opn i K->X salt hkind hold attrs segs flags layers expers ctxs fs inn done opn i K)->X salt hkind hold attrs segs flags layers expers ctxs fs inn done opn i K
abbrev q04:=Envt->Subj->List Frc->(List Dcs->Prop)->Prop
def z3q(Hw:q2d)(Zz:Zk):q04:=fun v s forced K=>Hw (Envt.mk (Sett.mk v.1.1 v.1.2 v.1.3) v.2 v.3 v.4 v.5 v.6) (Subj.mk s.1) forced fun Qa Qv z5d q48 w0q u5p u5q u5r u5s u5t y3m u9q u9r=>Lp4 (fun Qc Z9 z8f j10 u9l=>Fits v.4->Cnd (Z9<(↑v.4.length:Int)) (Zz Qa Qv z5d q48 w0q u5p u5q u5r u5s u5t y3m z8f j10 Z9 fun Qg V1 u13=>Sml (Qc++[Dcs.mk Qg.1 Qg.2 (Val.mk Qg.3.1 Qg.3.2 Qg.3.3 Qg.3.4) (Rsn.mk Qg.4.1 Qg.4.2 Qg.4.3 Qg.4.4) Qg.5]).length/\InI (Z9+1)/\u9l (Qc++[Dcs.mk Qg.1 Qg.2 (Val.mk Qg.3.1 Qg.3.2 Qg.3.3 Qg.3.4) (Rsn.mk Qg.4.1 Qg.4.2 Qg.4.3 Qg.4.4) Qg.5]) (Z9+1) V1 u13) (K Qc)) [] (0:Int) u9q u9r
def q6d:q04:=z3q z04 Ub
abbrev q5k:=Dcs->Dcs->(Bool->Prop)->Prop
def j8n(Wc:Bq):q5k:=fun a b K=>Cnd (a.1=b.1) (Cnd (a.2=b.2) (Wc (Val.mk a.3.1 a.3.2 a.3.3 a.3.4) (Val.mk b.3.1 b.3.2 b.3.3 b.3.4) fun Qa=>Cnd (Qa=true) (Cnd (a.4.1=b.4.1/\a.4.2=b.4.2/\a.4.3=b.4.3/\a.4.4=b.4.4) (K (decide (a.5=b.5))) (K false)) (K false)) (K false)) (K false)
def z4z:q5k:=j8n q49
abbrev q39:=List Dcs->List Dcs->(Bool->Prop)->Prop
def z6o(q0k:q5k):q39:=fun a b K=>Fits a->Fits b->Cnd ((↑a.length:Int)=(↑b.length:Int)) (Lp1 (fun Qf j2o=>Fits a->CAt a Qf (fun y4=>At b Qf fun y6=>q0k (Dcs.mk y4.1 y4.2 (Val.mk y4.3.1 y4.3.2 y4.3.3 y4.3.4) (Rsn.mk y4.4.1 y4.4.2 y4.4.3 y4.4.4) y4.5) (Dcs.mk y6.1 y6.2 (Val.mk y6.3.1 y6.3.2 y6.3.3 y6.3.4) (Rsn.mk y6.4.1 y6.4.2 y6.4.3 y6.4.4) y6.5) fun Ws=>Cnd (Ws=true) (InI (Qf+1)/\j2o (Qf+1)) (K false)) (K true)) (0:Int)) (K false)
def q81:q39:=z6o z4z
abbrev z40:=Envt->Subj->List Frc->BA->(Dcs->Int->Prop)->Prop
def j8o(Zh:Vs)(Hw:q2d)(Zz:Zk):z40:=fun v s forced key K=>Zh (Envt.mk (Sett.mk v.1.1 v.1.2 v.1.3) v.2 v.3 v.4 v.5 v.6) key fun Qa=>Cnd (Qa<0) (K (Dcs.mk (B8 []) (0:Int) (Val.mk (0:Int) (0:Int) (B8 []) []) (Rsn.mk (0:Int) (0:Int) (B8 []) (0:Int)) (0:Int)) (11:Int)) (Hw (Envt.mk (Sett.mk v.1.1 v.1.2 v.1.3) v.2 v.3 v.4 v.5 v.6) (Subj.mk s.1) forced fun Qc Z9 z8f j10 u12 x1_5 x1_6 x1_7 x1_8 x1_9 u9s u9t u9u=>Zz Qc Z9 z8f j10 u12 x1_5 x1_6 x1_7 x1_8 x1_9 u9s u9t u9u Qa fun Qf _ _=>K (Dcs.mk Qf.1 Qf.2 (Val.mk Qf.3.1 Qf.3.2 Qf.3.3 Qf.3.4) (Rsn.mk Qf.4.1 Qf.4.2 Qf.4.3 Qf.4.4) Qf.5) (0:Int))
def j1o:z40:=j8o Vt z04 Ub
abbrev Be:=List Int->List Int->Subj->List Frc->BA->(Bool->Prop)->Prop
def Bf(q9n:q33)(q9o:q37)(q6u:q01)(q6v:q04)(q9p:q39)(J9:Ua)(j2f:z40)(q0k:q5k):Be:=fun codes who s forced key K=>q9n fun Qa=>Cnd (Qa=true) (Fits s.1->Cnd (8<(↑s.1.length:Int)) (K true) (Fits forced->Cnd (8<(↑forced.length:Int)) (K true) (q9o codes who fun Qg V1 u13=>[Subj.mk V1.1,Subj.mk s.1].length<=(9223372036854775807:Nat)->Lp1 (fun Ql w2y=>Cnd (Ql<(↑[Subj.mk V1.1,Subj.mk s.1].length:Int)) ((0<=Ql/\Ql<(↑[Subj.mk V1.1,Subj.mk s.1].length:Int))/\∀y6,[Subj.mk V1.1,Subj.mk s.1][Ql.toNat]? =some y6->[[],u13,forced].length<=(9223372036854775807:Nat)->Lp1 (fun Qp u0x=>Cnd (Qp<(↑[[],u13,forced].length:Int)) ((0<=Qp/\Qp<(↑[[],u13,forced].length:Int))/\∀y10,[[],u13,forced][Qp.toNat]? =some y10->q6u (Envt.mk (Sett.mk Qg.1.1 Qg.1.2 Qg.1.3) Qg.2 Qg.3 Qg.4 Qg.5 Qg.6) (Subj.mk y6.1) y10 fun Zp=>q6v (Envt.mk (Sett.mk Qg.1.1 Qg.1.2 Qg.1.3) Qg.2 Qg.3 Qg.4 Qg.5 Qg.6) (Subj.mk y6.1) y10 fun Zb=>q9p Zp Zb fun Zw=>Cnd (Zw=true) ([B8 [102,97],B8 [102,98],B8 [102,99],B8 [102,100],key].length<=(9223372036854775807:Nat)->Lp1 (fun Jp u0y=>Cnd (Jp<(↑[B8 [102,97],B8 [102,98],B8 [102,99],B8 [102,100],key].length:Int)) ((0<=Jp/\Jp<(↑[B8 [102,97],B8 [102,98],B8 [102,99],B8 [102,100],key].length:Int))/\∀y17,[B8 [102,97],B8 [102,98],B8 [102,99],B8 [102,100],key][Jp.toNat]? =some y17->J9 (Envt.mk (Sett.mk Qg.1.1 Qg.1.2 Qg.1.3) Qg.2 Qg.3 Qg.4 Qg.5 Qg.6) (Subj.mk y6.1) y10 y17 fun Z0 y75=>j2f (Envt.mk (Sett.mk Qg.1.1 Qg.1.2 Qg.1.3) Qg.2 Qg.3 Qg.4 Qg.5 Qg.6) (Subj.mk y6.1) y10 y17 fun Hp y3j=>Cnd (y75=y3j) (q0k (Dcs.mk Z0.1 Z0.2 (Val.mk Z0.3.1 Z0.3.2 Z0.3.3 Z0.3.4) (Rsn.mk Z0.4.1 Z0.4.2 Z0.4.3 Z0.4.4) Z0.5) (Dcs.mk Hp.1 Hp.2 (Val.mk Hp.3.1 Hp.3.2 Hp.3.3 Hp.3.4) (Rsn.mk Hp.4.1 Hp.4.2 Hp.4.3 Hp.4.4) Hp.5) fun j4y=>Cnd (j4y=true) (InI (Jp+1)/\u0y (Jp+1)) (K false)) (K false)) (InI (Qp+1)/\u0x (Qp+1))) (0:Int)) (K false)) (InI (Ql+1)/\w2y (Ql+1))) (0:Int)) (K true)) (0:Int)))) (K false)
def Je:Be:=Bf q8y q38 q6a q6d q81 Bc j1o z4z
end Go.En
end
noncomputable section
namespace Go.Proofs
open Go.Shelf
def Tryz.laysM171_ren:Go.Shelf.Ren:=⟨fun|171=>164|243=>202|246=>260|283=>288|284=>289|285=>290|286=>291|129=>238|317=>304|318=>305|319=>306|320=>307|337=>319|338=>320|n=>n,fun|3=>3|9=>9|2=>2|4=>4|171=>365|0=>0|53=>221|37=>22|5=>5|173=>367|212=>375|51=>326|20=>20|213=>376|46=>273|232=>390|233=>391|n=>n,fun|17=>5|18=>7|19=>8|n=>n⟩
theorem Tryz.laysM171:Go.Proofs.LaysM.n171 Tryz.prog Tryz.laysM171_ren:={
 mixed:=by kernel_rfl
 f129:=Tryz.func238.trans (congrArg some (by kernel_rfl))
 f171:=Tryz.func164.trans (congrArg some (by kernel_rfl))
 f243:=Tryz.func202.trans (congrArg some (by kernel_rfl))
 f246:=Tryz.func260.trans (congrArg some (by kernel_rfl))
 f283:=Tryz.func288.trans (congrArg some (by kernel_rfl))
 f284:=Tryz.func289.trans (congrArg some (by kernel_rfl))
 f285:=Tryz.func290.trans (congrArg some (by kernel_rfl))
 f286:=Tryz.func291.trans (congrArg some (by kernel_rfl))
 f317:=Tryz.func304.trans (congrArg some (by kernel_rfl))
 f318:=Tryz.func305.trans (congrArg some (by kernel_rfl))
 f319:=Tryz.func306.trans (congrArg some (by kernel_rfl))
 f320:=Tryz.func307.trans (congrArg some (by kernel_rfl))
 f337:=Tryz.func319.trans (congrArg some (by kernel_rfl))
 f338:=Tryz.func320.trans (congrArg some (by kernel_rfl))
 t0:=Tryz.underlying0
 a0:=Tryz.isAgg0
 z0:=Tryz.sizeOf0
 v0:=Tryz.zeroValue0
 t2:=Tryz.underlying2
 a2:=Tryz.isAgg2
 z2:=Tryz.sizeOf2
 v2:=Tryz.zeroValue2
 t3:=Tryz.underlying3
 a3:=Tryz.isAgg3
 z3:=Tryz.sizeOf3
 v3:=Tryz.zeroValue3
 t4:=Tryz.underlying4
 a4:=Tryz.isAgg4
 z4:=Tryz.sizeOf4
 v4:=Tryz.zeroValue4
 t5:=Tryz.underlying5
 a5:=Tryz.isAgg5
 z5:=Tryz.sizeOf5
 v5:=Tryz.zeroValue5
 t9:=Tryz.underlying9
 a9:=Tryz.isAgg9
 z9:=Tryz.sizeOf9
 v9:=Tryz.zeroValue9
 t20:=Tryz.underlying20
 a20:=Tryz.isAgg20
 z20:=Tryz.sizeOf20
 v20:=Tryz.zeroValue20
 t37:=Tryz.underlying22
 a37:=Tryz.isAgg22
 z37:=Tryz.sizeOf22
 v37:=Tryz.zeroValue22
 t46:=Tryz.underlying273
 a46:=Tryz.isAgg273
 z46:=Tryz.sizeOf273
 v46:=Tryz.zeroValue273
 t51:=Tryz.underlying326
 a51:=Tryz.isAgg326
 z51:=Tryz.sizeOf326
 v51:=Tryz.zeroValue326
 t53:=Tryz.underlying221
 a53:=Tryz.isAgg221
 z53:=Tryz.sizeOf221
 v53:=Tryz.zeroValue221
 t171:=Tryz.underlying365
 a171:=Tryz.isAgg365
 z171:=Tryz.sizeOf365
 v171:=Tryz.zeroValue365
 t173:=Tryz.underlying367
 a173:=Tryz.isAgg367
 z173:=Tryz.sizeOf367
 v173:=Tryz.zeroValue367
 t212:=Tryz.underlying375
 a212:=Tryz.isAgg375
 z212:=Tryz.sizeOf375
 v212:=Tryz.zeroValue375
 t213:=Tryz.underlying376
 a213:=Tryz.isAgg376
 z213:=Tryz.sizeOf376
 t232:=Tryz.underlying390
 a232:=Tryz.isAgg390
 z232:=Tryz.sizeOf390
 v232:=Tryz.zeroValue390
 t233:=Tryz.underlying391
 a233:=Tryz.isAgg391
 z233:=Tryz.sizeOf391
 v233:=Tryz.zeroValue391
 g17:=by kernel_rfl
 g18:=by kernel_rfl
 g19:=by kernel_rfl
 i0:=by kernel_rfl
 i2:=by kernel_rfl
 i3:=by kernel_rfl
 i4:=by kernel_rfl
 i5:=by kernel_rfl
 i9:=by kernel_rfl
 i20:=by kernel_rfl
 i37:=by kernel_rfl
 i46:=by kernel_rfl
 i51:=by kernel_rfl
 i53:=by kernel_rfl
 i171:=by kernel_rfl
 i173:=by kernel_rfl
 i212:=by kernel_rfl
 i232:=by kernel_rfl
 i233:=by kernel_rfl
 m17:=by kernel_rfl
 m18:=by kernel_rfl
 m19:=by kernel_rfl}
open Go.RowKit Go.Sort Go.Lib in
theorem Tryz.strconv_Itoa (n:Int) (h0: -9223372036854775808<=n) (h1:n<=9223372036854775807) (w:World) (htab:Lib.TabIs Tryz.prog w "internal/strconv.uint64pow10" .u64 Lib.pow10Tab):
  Calls Tryz.prog 164 #[.int .i64 n] w fun e w'=>e= .returned (.string ⟨(Lib.itoa n).toArray⟩)/\∃k os,w'=grow (w.drewN k) os:=Any.strconv_Itoa Tryz.laysM171 n h0 h1 w htab
def Tryz.laysC172_ren:Go.Shelf.Ren:=⟨fun|172=>318|244=>326|245=>327|247=>331|279=>332|280=>333|281=>334|282=>335|287=>337|316=>338|171=>164|205=>339|321=>340|322=>341|243=>202|246=>260|283=>288|284=>289|285=>290|286=>291|129=>238|317=>304|318=>305|319=>306|320=>307|337=>319|338=>320|n=>n,fun|9=>9|3=>3|75=>383|76=>384|4=>4|5=>5|167=>395|37=>22|0=>0|85=>396|2=>2|168=>398|53=>221|175=>401|46=>273|210=>405|127=>408|145=>411|143=>409|21=>21|171=>365|173=>367|212=>375|51=>326|20=>20|213=>376|232=>390|233=>391|80=>95|n=>n,fun|15=>9|16=>10|17=>5|18=>7|19=>8|n=>n⟩
theorem Tryz.laysC172:Go.Proofs.LaysC.n172 Tryz.prog Tryz.laysC172_ren:={
 mixed:=by kernel_rfl
 f129:=Tryz.func238.trans (congrArg some (by kernel_rfl))
 f171:=Tryz.func164.trans (congrArg some (by kernel_rfl))
 f172:=Tryz.func318.trans (congrArg some (by kernel_rfl))
 f205:=Tryz.func339.trans (congrArg some (by kernel_rfl))
 f243:=Tryz.func202.trans (congrArg some (by kernel_rfl))
 f244:=Tryz.func326.trans (congrArg some (by kernel_rfl))
 f245:=Tryz.func327.trans (congrArg some (by kernel_rfl))
 f246:=Tryz.func260.trans (congrArg some (by kernel_rfl))
 f247:=Tryz.func331.trans (congrArg some (by kernel_rfl))
 f279:=Tryz.func332.trans (congrArg some (by kernel_rfl))
 f280:=Tryz.func333.trans (congrArg some (by kernel_rfl))
 f281:=Tryz.func334.trans (congrArg some (by kernel_rfl))
 f282:=Tryz.func335.trans (congrArg some (by kernel_rfl))
 f283:=Tryz.func288.trans (congrArg some (by kernel_rfl))
 f284:=Tryz.func289.trans (congrArg some (by kernel_rfl))
 f285:=Tryz.func290.trans (congrArg some (by kernel_rfl))
 f286:=Tryz.func291.trans (congrArg some (by kernel_rfl))
 f287:=Tryz.func337.trans (congrArg some (by kernel_rfl))
 f316:=Tryz.func338.trans (congrArg some (by kernel_rfl))
 f317:=Tryz.func304.trans (congrArg some (by kernel_rfl))
 f318:=Tryz.func305.trans (congrArg some (by kernel_rfl))
 f319:=Tryz.func306.trans (congrArg some (by kernel_rfl))
 f320:=Tryz.func307.trans (congrArg some (by kernel_rfl))
 f321:=Tryz.func340.trans (congrArg some (by kernel_rfl))
 f322:=Tryz.func341.trans (congrArg some (by kernel_rfl))
 f337:=Tryz.func319.trans (congrArg some (by kernel_rfl))
 f338:=Tryz.func320.trans (congrArg some (by kernel_rfl))
 t0:=Tryz.underlying0
 a0:=Tryz.isAgg0
 z0:=Tryz.sizeOf0
 v0:=Tryz.zeroValue0
 t2:=Tryz.underlying2
 a2:=Tryz.isAgg2
 z2:=Tryz.sizeOf2
 v2:=Tryz.zeroValue2
 t3:=Tryz.underlying3
 a3:=Tryz.isAgg3
 z3:=Tryz.sizeOf3
 v3:=Tryz.zeroValue3
 t4:=Tryz.underlying4
 a4:=Tryz.isAgg4
 z4:=Tryz.sizeOf4
 v4:=Tryz.zeroValue4
 t5:=Tryz.underlying5
 a5:=Tryz.isAgg5
 z5:=Tryz.sizeOf5
 v5:=Tryz.zeroValue5
 t9:=Tryz.underlying9
 a9:=Tryz.isAgg9
 z9:=Tryz.sizeOf9
 v9:=Tryz.zeroValue9
 t20:=Tryz.underlying20
 a20:=Tryz.isAgg20
 z20:=Tryz.sizeOf20
 v20:=Tryz.zeroValue20
 t21:=Tryz.underlying21
 a21:=Tryz.isAgg21
 z21:=Tryz.sizeOf21
 v21:=Tryz.zeroValue21
 t37:=Tryz.underlying22
 a37:=Tryz.isAgg22
 z37:=Tryz.sizeOf22
 v37:=Tryz.zeroValue22
 t46:=Tryz.underlying273
 a46:=Tryz.isAgg273
 z46:=Tryz.sizeOf273
 v46:=Tryz.zeroValue273
 t51:=Tryz.underlying326
 a51:=Tryz.isAgg326
 z51:=Tryz.sizeOf326
 v51:=Tryz.zeroValue326
 t53:=Tryz.underlying221
 a53:=Tryz.isAgg221
 z53:=Tryz.sizeOf221
 v53:=Tryz.zeroValue221
 t75:=Tryz.underlying383
 a75:=Tryz.isAgg383
 z75:=Tryz.sizeOf383
 v75:=Tryz.zeroValue383
 t76:=Tryz.underlying384
 a76:=Tryz.isAgg384
 z76:=Tryz.sizeOf384
 v76:=Tryz.zeroValue384
 t85:=Tryz.underlying396
 a85:=Tryz.isAgg396
 z85:=Tryz.sizeOf396
 v85:=Tryz.zeroValue396
 t127:=Tryz.underlying408
 a127:=Tryz.isAgg408
 z127:=Tryz.sizeOf408
 v127:=Tryz.zeroValue408
 t143:=Tryz.underlying409
 a143:=Tryz.isAgg409
 z143:=Tryz.sizeOf409
 v143:=Tryz.zeroValue409
 t145:=Tryz.underlying411
 a145:=Tryz.isAgg411
 z145:=Tryz.sizeOf411
 v145:=Tryz.zeroValue411
 t167:=Tryz.underlying395
 a167:=Tryz.isAgg395
 z167:=Tryz.sizeOf395
 v167:=Tryz.zeroValue395
 t168:=Tryz.underlying398
 a168:=Tryz.isAgg398
 z168:=Tryz.sizeOf398
 v168:=Tryz.zeroValue398
 t171:=Tryz.underlying365
 a171:=Tryz.isAgg365
 z171:=Tryz.sizeOf365
 v171:=Tryz.zeroValue365
 t173:=Tryz.underlying367
 a173:=Tryz.isAgg367
 z173:=Tryz.sizeOf367
 v173:=Tryz.zeroValue367
 t175:=Tryz.underlying401
 a175:=Tryz.isAgg401
 z175:=Tryz.sizeOf401
 v175:=Tryz.zeroValue401
 t210:=Tryz.underlying405
 a210:=Tryz.isAgg405
 z210:=Tryz.sizeOf405
 v210:=Tryz.zeroValue405
 t212:=Tryz.underlying375
 a212:=Tryz.isAgg375
 z212:=Tryz.sizeOf375
 v212:=Tryz.zeroValue375
 t213:=Tryz.underlying376
 a213:=Tryz.isAgg376
 z213:=Tryz.sizeOf376
 t232:=Tryz.underlying390
 a232:=Tryz.isAgg390
 z232:=Tryz.sizeOf390
 v232:=Tryz.zeroValue390
 t233:=Tryz.underlying391
 a233:=Tryz.isAgg391
 z233:=Tryz.sizeOf391
 v233:=Tryz.zeroValue391
 g15:=by kernel_rfl
 g16:=by kernel_rfl
 g17:=by kernel_rfl
 g18:=by kernel_rfl
 g19:=by kernel_rfl
 t80:=Tryz.underlying95
 a80:=Tryz.isAgg95
 z80:=Tryz.sizeOf95
 v80:=Tryz.zeroValue95
 i0:=by kernel_rfl
 i2:=by kernel_rfl
 i3:=by kernel_rfl
 i4:=by kernel_rfl
 i5:=by kernel_rfl
 i9:=by kernel_rfl
 i20:=by kernel_rfl
 i21:=by kernel_rfl
 i37:=by kernel_rfl
 i46:=by kernel_rfl
 i51:=by kernel_rfl
 i53:=by kernel_rfl
 i75:=by kernel_rfl
 i76:=by kernel_rfl
 i80:=by kernel_rfl
 i85:=by kernel_rfl
 i127:=by kernel_rfl
 i143:=by kernel_rfl
 i145:=by kernel_rfl
 i167:=by kernel_rfl
 i168:=by kernel_rfl
 i171:=by kernel_rfl
 i173:=by kernel_rfl
 i175:=by kernel_rfl
 i210:=by kernel_rfl
 i212:=by kernel_rfl
 i232:=by kernel_rfl
 i233:=by kernel_rfl
 m15:=by kernel_rfl
 m16:=by kernel_rfl
 m17:=by kernel_rfl
 m18:=by kernel_rfl
 m19:=by kernel_rfl
 c0:=by kernel_rfl
 c2:=by kernel_rfl
 c3:=by kernel_rfl
 c4:=by kernel_rfl
 c5:=by kernel_rfl
 c9:=by kernel_rfl
 c20:=by kernel_rfl
 c21:=by kernel_rfl
 c37:=by kernel_rfl
 c46:=by kernel_rfl
 c51:=by kernel_rfl
 c53:=by kernel_rfl
 c75:=by kernel_rfl
 c76:=by kernel_rfl
 c80:=by kernel_rfl
 c85:=by kernel_rfl
 c127:=by kernel_rfl
 c143:=by kernel_rfl
 c145:=by kernel_rfl
 c167:=by kernel_rfl
 c168:=by kernel_rfl
 c171:=by kernel_rfl
 c173:=by kernel_rfl
 c175:=by kernel_rfl
 c210:=by kernel_rfl
 c212:=by kernel_rfl
 c213:=by kernel_rfl
 c232:=by kernel_rfl
 c233:=by kernel_rfl}
open Go.RowKit in
theorem Tryz.strconv_Atoi_ok(s:BA)(hmax:s.size<=9223372036854775806)(v:Int)(h:Lib.atoiAll s.data.toList= .ok v)(w:World):
  Calls Tryz.prog 318 #[.string s] w fun e w'=>e= .returned (.tuple #[.int .i64 v,.nilIface])/\(w'=w\/ ∃t,w'=Lib.bytesWorld w 5 t):=Any.strconv_Atoi_ok Tryz.laysC172 s hmax v h w
open Go.RowKit in
theorem Tryz.strconv_Atoi_syntax(s:BA)(hlim:s.size<=281474976710656)(h:Lib.atoiAll s.data.toList=Go.Lib.NumEnd.syntax)(ev:Value)(w:World)(hv:w.cell? ⟨9,0,none⟩=some ev)(hev:ev= .nilIface\/ ∃te pe,ev= .iface te pe):
  Calls Tryz.prog 318 #[.string s] w fun e w'=> ∃N,e= .returned (.tuple #[.int .i64 (0),.iface 398 (.pointer (some ⟨N,0,none⟩))])/\w.heap.size<=N/\w'.heap[N]? =some (.cells #[.string ⟨#[65,116,111,105]⟩,.string s,ev] 405 (0,0))/\Below w.heap.size w w':=Any.strconv_Atoi_syntax Tryz.laysC172 s hlim h ev w hv hev
open Go.RowKit in
theorem Tryz.strconv_Atoi_range(s:BA)(hlim:s.size<=281474976710656)(h:Lib.atoiAll s.data.toList= .range)(ev:Value)(w:World)(hv:w.cell? ⟨10,0,none⟩=some ev)(hev:ev= .nilIface\/ ∃te pe,ev= .iface te pe):
  Calls Tryz.prog 318 #[.string s] w fun e w'=> ∃N,e= .returned (.tuple #[.int .i64 (Lib.atoiSat s.data.toList),.iface 398 (.pointer (some ⟨N,0,none⟩))])/\w.heap.size<=N/\w'.heap[N]? =some (.cells #[.string ⟨#[65,116,111,105]⟩,.string s,ev] 405 (0,0))/\Below w.heap.size w w':=Any.strconv_Atoi_range Tryz.laysC172 s hlim h ev w hv hev
def Tryz.lays144_ren:Go.Shelf.Ren:=⟨fun|144=>251|143=>282|219=>298|217=>312|225=>313|224=>314|267=>315|266=>321|314=>322|n=>n,fun|9=>9|4=>4|3=>3|5=>5|46=>273|146=>386|51=>326|n=>n,fun|1=>6|n=>n⟩
theorem Tryz.lays144:Go.Proofs.Lays.n144 Tryz.prog Tryz.lays144_ren:={
 mixed:=by kernel_rfl
 f143:=Tryz.func282.trans (congrArg some (by kernel_rfl))
 f144:=Tryz.func251.trans (congrArg some (by kernel_rfl))
 f217:=Tryz.func312.trans (congrArg some (by kernel_rfl))
 f219:=Tryz.func298.trans (congrArg some (by kernel_rfl))
 f224:=Tryz.func314.trans (congrArg some (by kernel_rfl))
 f225:=Tryz.func313.trans (congrArg some (by kernel_rfl))
 f266:=Tryz.func321.trans (congrArg some (by kernel_rfl))
 f267:=Tryz.func315.trans (congrArg some (by kernel_rfl))
 f314:=Tryz.func322.trans (congrArg some (by kernel_rfl))
 t3:=Tryz.underlying3
 a3:=Tryz.isAgg3
 z3:=Tryz.sizeOf3
 v3:=Tryz.zeroValue3
 t4:=Tryz.underlying4
 a4:=Tryz.isAgg4
 z4:=Tryz.sizeOf4
 v4:=Tryz.zeroValue4
 t5:=Tryz.underlying5
 a5:=Tryz.isAgg5
 z5:=Tryz.sizeOf5
 v5:=Tryz.zeroValue5
 t9:=Tryz.underlying9
 a9:=Tryz.isAgg9
 z9:=Tryz.sizeOf9
 v9:=Tryz.zeroValue9
 t46:=Tryz.underlying273
 a46:=Tryz.isAgg273
 z46:=Tryz.sizeOf273
 v46:=Tryz.zeroValue273
 t51:=Tryz.underlying326
 a51:=Tryz.isAgg326
 z51:=Tryz.sizeOf326
 v51:=Tryz.zeroValue326
 t146:=Tryz.underlying386
 a146:=Tryz.isAgg386
 z146:=Tryz.sizeOf386
 v146:=Tryz.zeroValue386
 g1:=by kernel_rfl}
open Go.RowKit Go.Lib in
theorem Tryz.strings_Contains(s sub:BA)(m:Int)(w:World)(hs:s.size<4294967281)(hm:w.cell? ⟨6,0,none⟩=some (.int .i64 m)):
  Calls Tryz.prog 251 #[.string s,.string sub] w fun e w'=>e= .returned (.bool (Lib.contains s.data.toList sub.data.toList))/\w'=w:=Any.strings_Contains Tryz.lays144 s sub m w hs hm
def Tryz.lays190_ren:Go.Shelf.Ren:=⟨fun|190=>137|125=>180|258=>179|128=>237|129=>238|302=>228|303=>229|304=>230|305=>231|306=>232|307=>233|308=>234|309=>235|310=>236|333=>270|329=>271|330=>272|334=>273|335=>274|336=>275|344=>297|n=>n,fun|31=>70|9=>9|3=>3|46=>273|0=>0|51=>326|53=>221|4=>4|183=>319|182=>318|131=>112|5=>5|218=>356|222=>353|228=>371|229=>341|n=>n,fun|n=>n⟩
theorem Tryz.lays190:Go.Proofs.Lays.n190 Tryz.prog Tryz.lays190_ren:={
 mixed:=by kernel_rfl
 f125:=Tryz.func180.trans (congrArg some (by kernel_rfl))
 f128:=Tryz.func237.trans (congrArg some (by kernel_rfl))
 f129:=Tryz.func238.trans (congrArg some (by kernel_rfl))
 f190:=Tryz.func137.trans (congrArg some (by kernel_rfl))
 f258:=Tryz.func179.trans (congrArg some (by kernel_rfl))
 f302:=Tryz.func228.trans (congrArg some (by kernel_rfl))
 f303:=Tryz.func229.trans (congrArg some (by kernel_rfl))
 f304:=Tryz.func230.trans (congrArg some (by kernel_rfl))
 f305:=Tryz.func231.trans (congrArg some (by kernel_rfl))
 f306:=Tryz.func232.trans (congrArg some (by kernel_rfl))
 f307:=Tryz.func233.trans (congrArg some (by kernel_rfl))
 f308:=Tryz.func234.trans (congrArg some (by kernel_rfl))
 f309:=Tryz.func235.trans (congrArg some (by kernel_rfl))
 f310:=Tryz.func236.trans (congrArg some (by kernel_rfl))
 f329:=Tryz.func271.trans (congrArg some (by kernel_rfl))
 f330:=Tryz.func272.trans (congrArg some (by kernel_rfl))
 f333:=Tryz.func270.trans (congrArg some (by kernel_rfl))
 f334:=Tryz.func273.trans (congrArg some (by kernel_rfl))
 f335:=Tryz.func274.trans (congrArg some (by kernel_rfl))
 f336:=Tryz.func275.trans (congrArg some (by kernel_rfl))
 f344:=Tryz.func297.trans (congrArg some (by kernel_rfl))
 t0:=Tryz.underlying0
 a0:=Tryz.isAgg0
 z0:=Tryz.sizeOf0
 v0:=Tryz.zeroValue0
 t3:=Tryz.underlying3
 a3:=Tryz.isAgg3
 z3:=Tryz.sizeOf3
 v3:=Tryz.zeroValue3
 t4:=Tryz.underlying4
 a4:=Tryz.isAgg4
 z4:=Tryz.sizeOf4
 v4:=Tryz.zeroValue4
 t5:=Tryz.underlying5
 a5:=Tryz.isAgg5
 z5:=Tryz.sizeOf5
 v5:=Tryz.zeroValue5
 t9:=Tryz.underlying9
 a9:=Tryz.isAgg9
 z9:=Tryz.sizeOf9
 v9:=Tryz.zeroValue9
 t31:=Tryz.underlying70
 a31:=Tryz.isAgg70
 z31:=Tryz.sizeOf70
 v31:=Tryz.zeroValue70
 t46:=Tryz.underlying273
 a46:=Tryz.isAgg273
 z46:=Tryz.sizeOf273
 v46:=Tryz.zeroValue273
 t51:=Tryz.underlying326
 a51:=Tryz.isAgg326
 z51:=Tryz.sizeOf326
 v51:=Tryz.zeroValue326
 t53:=Tryz.underlying221
 a53:=Tryz.isAgg221
 z53:=Tryz.sizeOf221
 v53:=Tryz.zeroValue221
 t131:=Tryz.underlying112
 a131:=Tryz.isAgg112
 z131:=Tryz.sizeOf112
 v131:=Tryz.zeroValue112
 t182:=Tryz.underlying318
 a182:=Tryz.isAgg318
 z182:=Tryz.sizeOf318
 v182:=Tryz.zeroValue318
 t183:=Tryz.underlying319
 a183:=Tryz.isAgg319
 z183:=Tryz.sizeOf319
 v183:=Tryz.zeroValue319
 t218:=Tryz.underlying356
 a218:=Tryz.isAgg356
 z218:=Tryz.sizeOf356
 v218:=Tryz.zeroValue356
 t222:=Tryz.underlying353
 a222:=Tryz.isAgg353
 z222:=Tryz.sizeOf353
 v222:=Tryz.zeroValue353
 t228:=Tryz.underlying371
 a228:=Tryz.isAgg371
 z228:=Tryz.sizeOf371
 v228:=Tryz.zeroValue371
 t229:=Tryz.underlying341
 a229:=Tryz.isAgg341
 z229:=Tryz.sizeOf341
 v229:=Tryz.zeroValue341}
open Go.Sort Go.RowKit in
theorem Tryz.slices_Sort_string(blk off cap:Nat)(ss:List (List UInt8))(w:World)(hH:Holds encStr w blk off ss.toArray)(hblk:blk<w.heap.size)(hsz:ss.length<4611686018427387904):
  Calls Tryz.prog 137 #[.slice (some ⟨blk,off,none⟩) ss.length cap] w fun e w'=>
   e= .returned (.tuple #[])/\∃n os,w'=grow (putRow encStr (Sort.ahead w n) blk off (ss.mergeSort fun x y=>decide (x<=y)).toArray) os:=Any.slices_Sort_string Tryz.lays190 blk off cap ss w hH hblk hsz
def Tryz.lays146_ren:Go.Shelf.Ren:=⟨fun|146=>302|221=>316|268=>323|138=>324|143=>282|195=>328|197=>329|218=>330|219=>298|260=>336|217=>312|225=>313|224=>314|267=>315|266=>321|314=>322|n=>n,fun|9=>9|31=>70|3=>3|4=>4|0=>0|105=>393|21=>21|5=>5|46=>273|119=>348|139=>351|138=>350|146=>386|51=>326|n=>n,fun|1=>6|3=>3|4=>4|n=>n⟩
theorem Tryz.lays146:Go.Proofs.Lays.n146 Tryz.prog Tryz.lays146_ren:={
 mixed:=by kernel_rfl
 f138:=Tryz.func324.trans (congrArg some (by kernel_rfl))
 f143:=Tryz.func282.trans (congrArg some (by kernel_rfl))
 f146:=Tryz.func302.trans (congrArg some (by kernel_rfl))
 f195:=Tryz.func328.trans (congrArg some (by kernel_rfl))
 f197:=Tryz.func329.trans (congrArg some (by kernel_rfl))
 f217:=Tryz.func312.trans (congrArg some (by kernel_rfl))
 f218:=Tryz.func330.trans (congrArg some (by kernel_rfl))
 f219:=Tryz.func298.trans (congrArg some (by kernel_rfl))
 f221:=Tryz.func316.trans (congrArg some (by kernel_rfl))
 f224:=Tryz.func314.trans (congrArg some (by kernel_rfl))
 f225:=Tryz.func313.trans (congrArg some (by kernel_rfl))
 f260:=Tryz.func336.trans (congrArg some (by kernel_rfl))
 f266:=Tryz.func321.trans (congrArg some (by kernel_rfl))
 f267:=Tryz.func315.trans (congrArg some (by kernel_rfl))
 f268:=Tryz.func323.trans (congrArg some (by kernel_rfl))
 f314:=Tryz.func322.trans (congrArg some (by kernel_rfl))
 t0:=Tryz.underlying0
 a0:=Tryz.isAgg0
 z0:=Tryz.sizeOf0
 v0:=Tryz.zeroValue0
 t3:=Tryz.underlying3
 a3:=Tryz.isAgg3
 z3:=Tryz.sizeOf3
 v3:=Tryz.zeroValue3
 t4:=Tryz.underlying4
 a4:=Tryz.isAgg4
 z4:=Tryz.sizeOf4
 v4:=Tryz.zeroValue4
 t5:=Tryz.underlying5
 a5:=Tryz.isAgg5
 z5:=Tryz.sizeOf5
 v5:=Tryz.zeroValue5
 t9:=Tryz.underlying9
 a9:=Tryz.isAgg9
 z9:=Tryz.sizeOf9
 v9:=Tryz.zeroValue9
 t21:=Tryz.underlying21
 a21:=Tryz.isAgg21
 z21:=Tryz.sizeOf21
 v21:=Tryz.zeroValue21
 t31:=Tryz.underlying70
 a31:=Tryz.isAgg70
 z31:=Tryz.sizeOf70
 v31:=Tryz.zeroValue70
 t46:=Tryz.underlying273
 a46:=Tryz.isAgg273
 z46:=Tryz.sizeOf273
 v46:=Tryz.zeroValue273
 t51:=Tryz.underlying326
 a51:=Tryz.isAgg326
 z51:=Tryz.sizeOf326
 v51:=Tryz.zeroValue326
 t105:=Tryz.underlying393
 a105:=Tryz.isAgg393
 z105:=Tryz.sizeOf393
 v105:=Tryz.zeroValue393
 t119:=Tryz.underlying348
 a119:=Tryz.isAgg348
 z119:=Tryz.sizeOf348
 t138:=Tryz.underlying350
 a138:=Tryz.isAgg350
 z138:=Tryz.sizeOf350
 v138:=Tryz.zeroValue350
 t139:=Tryz.underlying351
 a139:=Tryz.isAgg351
 z139:=Tryz.sizeOf351
 v139:=Tryz.zeroValue351
 t146:=Tryz.underlying386
 a146:=Tryz.isAgg386
 z146:=Tryz.sizeOf386
 v146:=Tryz.zeroValue386
 g1:=by kernel_rfl
 g3:=by kernel_rfl
 g4:=by kernel_rfl}
open Go.RowKit Go.Lib in
theorem Tryz.strings_Split(s sep:BA)(m:Int)(w:World)(hs:s.size<4294967281)(hm:w.cell? ⟨6,0,none⟩=some (.int .i64 m))(h1:1<=sep.size):
  Calls Tryz.prog 302 #[.string s,.string sep] w fun e w'=>
   e= .returned (.slice (some ⟨w.heap.size,0,none⟩) (Lib.countB s sep+1) (Lib.countB s sep+1))/\w'=w.alloc (.cells ((Lib.splitB sep 0 (Lib.countB s sep) s).map Value.string).toArray 9):=Any.strings_Split Tryz.lays146 (by kernel_rfl) s sep m w hs hm h1
def Tryz.lays194_ren:Go.Shelf.Ren:=⟨fun|194=>220|n=>n,fun|31=>70|9=>9|3=>3|4=>4|0=>0|n=>n,fun|n=>n⟩
theorem Tryz.lays194:Go.Proofs.Lays.n194 Tryz.prog Tryz.lays194_ren:={
 mixed:=by kernel_rfl
 f194:=Tryz.func220.trans (congrArg some (by kernel_rfl))
 t0:=Tryz.underlying0
 a0:=Tryz.isAgg0
 z0:=Tryz.sizeOf0
 v0:=Tryz.zeroValue0
 t3:=Tryz.underlying3
 a3:=Tryz.isAgg3
 z3:=Tryz.sizeOf3
 v3:=Tryz.zeroValue3
 t4:=Tryz.underlying4
 a4:=Tryz.isAgg4
 z4:=Tryz.sizeOf4
 v4:=Tryz.zeroValue4
 t9:=Tryz.underlying9
 a9:=Tryz.isAgg9
 z9:=Tryz.sizeOf9
 v9:=Tryz.zeroValue9
 t31:=Tryz.underlying70
 a31:=Tryz.isAgg70
 z31:=Tryz.sizeOf70
 v31:=Tryz.zeroValue70}
open Go.RowKit Go.Lib Go.Sort in
theorem Tryz.slices_Compact_string(blk off cap:Nat)(zs:List (List UInt8))(w:World)(hH:Holds encStr w blk off zs.toArray)(hsz:zs.length<=9223372036854775807)(hcap:zs.length<=cap):
  Calls Tryz.prog 220 #[.slice (some ⟨blk,off,none⟩) zs.length cap] w fun e w'=>e= .returned (.slice (some ⟨blk,off,none⟩) (Lib.compact zs).length cap)/\∃q,w'=putRow encStr (Sort.ahead w q) blk off (Lib.compact zs++List.replicate (zs.length - (Lib.compact zs).length) []).toArray:=Any.slices_Compact_string Tryz.lays194 blk off cap zs w hH hsz hcap
open Go.RowKit Go.Lib Go.Sort in
theorem Tryz.slices_Compact_string_empty(a:Option Addr)(cap:Nat)(w:World):
  Calls Tryz.prog 220 #[.slice a 0 cap] w fun e w'=>e= .returned (.slice a 0 cap)/\w'=w:=Any.slices_Compact_string_empty Tryz.lays194 a cap w
def Tryz.laysNm224_ren:Go.Shelf.Ren:=⟨fun|24=>227|n=>n,fun|24=>70|9=>9|3=>3|4=>4|0=>0|n=>n,fun|n=>n⟩
theorem Tryz.laysNm224:Go.Proofs.Lays2.n24 Tryz.prog Tryz.laysNm224_ren:={
 mixed:=by kernel_rfl
 f24:=Tryz.func227.trans (congrArg some (by kernel_rfl))
 t0:=Tryz.underlying0
 a0:=Tryz.isAgg0
 z0:=Tryz.sizeOf0
 v0:=Tryz.zeroValue0
 t3:=Tryz.underlying3
 a3:=Tryz.isAgg3
 z3:=Tryz.sizeOf3
 v3:=Tryz.zeroValue3
 t4:=Tryz.underlying4
 a4:=Tryz.isAgg4
 z4:=Tryz.sizeOf4
 v4:=Tryz.zeroValue4
 t9:=Tryz.underlying9
 a9:=Tryz.isAgg9
 z9:=Tryz.sizeOf9
 v9:=Tryz.zeroValue9
 t24:=Tryz.underlying70
 a24:=Tryz.isAgg70
 z24:=Tryz.sizeOf70
 v24:=Tryz.zeroValue70
 i9:=by kernel_rfl}
open Go.RowKit Go.Lib Go.Sort in
theorem Tryz.slices_Delete_string(blk off cap i j:Nat)(zs:List (List UInt8))(w:World)(hH:Holds encStr w blk off zs.toArray)(hcap:zs.length<=cap)(hm:cap<=9223372036854775807)(hij:i<=j)(hj:j<=zs.length):
  Calls Tryz.prog 227 #[.slice (some ⟨blk,off,none⟩) zs.length cap,.int .i64 i,.int .i64 j] w fun e w'=>e= .returned (.slice (some ⟨blk,off,none⟩) (zs.length - (j - i)) cap)/\∃q,w'=putRow encStr (Sort.ahead w q) blk off (zs.take i++zs.drop j++List.replicate (j - i) []).toArray:=Any.slices_Delete_string Tryz.laysNm224 blk off cap i j zs w hH hcap hm hij hj
open Go.RowKit Go.Sort in
theorem Tryz.slices_Sort_string_none(p:Option Addr)(cap:Nat)(w:World):
  Calls Tryz.prog 137 #[.slice p 0 cap] w fun e w'=>e= .returned (.tuple #[])/\w'=w:=Any.slices_Sort_string_none Tryz.lays190 p cap w
def Tryz.lays196_ren:Go.Shelf.Ren:=⟨fun|196=>206|259=>263|n=>n,fun|9=>9|4=>4|3=>3|5=>5|12=>12|119=>348|0=>0|46=>273|139=>351|138=>350|53=>221|n=>n,fun|3=>3|4=>4|n=>n⟩
theorem Tryz.lays196:Go.Proofs.Lays.n196 Tryz.prog Tryz.lays196_ren:={
 mixed:=by kernel_rfl
 f196:=Tryz.func206.trans (congrArg some (by kernel_rfl))
 f259:=Tryz.func263.trans (congrArg some (by kernel_rfl))
 t0:=Tryz.underlying0
 a0:=Tryz.isAgg0
 z0:=Tryz.sizeOf0
 v0:=Tryz.zeroValue0
 t3:=Tryz.underlying3
 a3:=Tryz.isAgg3
 z3:=Tryz.sizeOf3
 v3:=Tryz.zeroValue3
 t4:=Tryz.underlying4
 a4:=Tryz.isAgg4
 z4:=Tryz.sizeOf4
 v4:=Tryz.zeroValue4
 t5:=Tryz.underlying5
 a5:=Tryz.isAgg5
 z5:=Tryz.sizeOf5
 v5:=Tryz.zeroValue5
 t9:=Tryz.underlying9
 a9:=Tryz.isAgg9
 z9:=Tryz.sizeOf9
 v9:=Tryz.zeroValue9
 t12:=Tryz.underlying12
 a12:=Tryz.isAgg12
 z12:=Tryz.sizeOf12
 v12:=Tryz.zeroValue12
 t46:=Tryz.underlying273
 a46:=Tryz.isAgg273
 z46:=Tryz.sizeOf273
 v46:=Tryz.zeroValue273
 t53:=Tryz.underlying221
 a53:=Tryz.isAgg221
 z53:=Tryz.sizeOf221
 v53:=Tryz.zeroValue221
 t119:=Tryz.underlying348
 a119:=Tryz.isAgg348
 z119:=Tryz.sizeOf348
 t138:=Tryz.underlying350
 a138:=Tryz.isAgg350
 z138:=Tryz.sizeOf350
 v138:=Tryz.zeroValue350
 t139:=Tryz.underlying351
 a139:=Tryz.isAgg351
 z139:=Tryz.sizeOf351
 v139:=Tryz.zeroValue351
 g3:=by kernel_rfl
 g4:=by kernel_rfl}
def Tryz.sorted221_ren:Go.Shelf.Ren:=⟨fun|6=>221|8=>268|9=>137|11=>296|13=>180|12=>179|23=>237|24=>238|14=>228|15=>229|16=>230|17=>231|18=>232|19=>233|20=>234|21=>235|22=>236|25=>270|26=>271|27=>272|28=>273|29=>274|30=>275|31=>297|n=>n,fun|26=>9|28=>311|24=>70|0=>0|3=>3|37=>273|48=>326|50=>221|4=>4|40=>319|39=>318|45=>112|5=>5|9=>9|51=>356|55=>353|57=>371|58=>341|33=>264|n=>n,fun|n=>n⟩
theorem Tryz.sorted221:Go.Proofs.SlLaysZ.n6 Tryz.prog Tryz.sorted221_ren:={
 mixed:=by kernel_rfl
 f6:=⟨Tryz.f221.name,by decide,Tryz.func221.trans (congrArg some (by kernel_rfl))⟩
 f8:=⟨Tryz.f268.name,by decide,Tryz.func268.trans (congrArg some (by kernel_rfl))⟩
 f11:=⟨Tryz.f296.name,by decide,Tryz.func296.trans (congrArg some (by kernel_rfl))⟩
 t0:=Tryz.underlying0
 a0:=Tryz.isAgg0
 z0:=Tryz.sizeOf0
 v0:=Tryz.zeroValue0
 t24:=Tryz.underlying70
 a24:=Tryz.isAgg70
 z24:=Tryz.sizeOf70
 v24:=Tryz.zeroValue70
 t26:=Tryz.underlying9
 a26:=Tryz.isAgg9
 z26:=Tryz.sizeOf9
 v26:=Tryz.zeroValue9
 t28:=Tryz.underlying311
 a28:=Tryz.isAgg311
 z28:=Tryz.sizeOf311
 v28:=Tryz.zeroValue311
 i26:=by kernel_rfl}
end Go.Proofs
end
noncomputable section
namespace Go.Fl
open Go Go.Proofs Go.RowKit Go.Maps Go.Sort Go.Shelf
variable {P:Program}{ρ:Ren}
def y5y(F:Fence)(n:Nat)(P:Program)(g:Nat)(lb:Array Value)(ss:List (List UInt8))(w:World):Prop:=
 ∀(l:Nat) (J:List (List UInt8)->World->Prop) (W:World),Below w.heap.size w W->AbidesFrom W.heap.size J->(∀pre W1,J pre W1->Below w.heap.size w W1)->
  (∀pre x W1,J pre W1->pre.length<ss.length->YieldAt F (n - 1) P l #[encStr x] W1 fun e W'=>e= .returned (.bool true)/\J (pre++[x]) W'/\KeepsWalks W1 W')->
  J [] W->CallsIn F n P g (#[.func (.yield l) #[] #[]]++lb) W fun e W'=>(∃v,e= .returned v)/\J ss W'
theorem w8p{W:World}{base j:Nat}{e:TypeId}{v:Value}{k:Nat}{xs:List Value}{o:Obj}(h:W.ownsRow base e 1 v k xs)(hj:W.heap[j]? =some o)(hno: ∀cur,o≠ .cells cur e (0,0))(o':Obj):(W.putObj j o').ownsRow base e 1 v k xs:=
 h.kept (grownBy_putObj_a W j o') (ownsRow_ne_a h hj hno)
set_option maxHeartbeats 2000000 in
theorem w4e(L:SlLaysZ.n11 P ρ)(F:Fence)(n:Nat)(hf:F.fn (ρ.f 11))(hro:F.round=none)(hn:2<=n)(g:Nat)(lb:Array Value)(hg:F.fn g)(eg: ∀args w,(callFunc g args).run P w= .ok (.enter g args) w)
  (ss:List (List UInt8))(hN:ss.length<=maxLen)(hNb:ss.length*16<=140737488355328)(w:World)(hseq:y5y F (n - 1) P g lb ss w):
  CallsIn F n P (ρ.f 11) #[.slice none 0 0,.func (.func g) #[] lb] w fun e w'=> ∃v,e= .returned v/\w'.ownsRow w.heap.size (ρ.t 26) 1 v ss.length (ss.map encStr)/\Below w.heap.size w w':=by
 have mixed:=L.mixed;have t0:=L.t0;have a0:=L.a0;have z0:=L.z0;have v0:=L.v0;have t24:=L.t24;have a24:=L.a24;have z24:=L.z24;have v24:=L.v24;have t26:=L.t26;have a26:=L.a26;have z26:=L.z26;have v26:=L.v26;have u0:=run_underlying L.t0;have u24:=run_underlying L.t24;have u26:=run_underlying L.t26;have apart:ρ.t 24≠ρ.t 26:=fun e=>by have h:=L.t24;rw[e,L.t26] at h;cases h
 obtain⟨_,_,body⟩:=L.f11;refine callsIn_of_wp_marks body rfl hf ?_ hro;simp only[SlBodyZ.n11_ntmps ρ,List.size_toArray,List.length_cons,List.length_nil,Nat.reduceAdd,Nat.reduceSub,Array.replicate_succ,Array.replicate_zero,List.push_toArray,List.append_toArray,List.nil_append,List.cons_append]
 gi_wp2
 refine wpIn_rangeFunc fun fn hfn=> ?_
 rw[hro];generalize hA:w.alloc (.cells #[.slice none 0 0] (ρ.t 24))=A;have sA:A.heap.size=w.heap.size+1:=by rw[<-hA];simp
 have bA:Below w.heap.size w A:=by rw[<-hA];exact (Below.refl _ w).alloc (Nat.le_refl _) _
 have xA:A.heap[w.heap.size]? =some (.cells #[.slice none 0 0] (ρ.t 24) (0,0)):=by rw[<-hA];exact World.alloc_heap_new w _
 generalize hrec:AnyZ.apRec ρ fn (.func (.func g) #[] lb) w.heap.size A.heap.size .ready none=rec;generalize hB:(A.alloc (.deferred (some []))).alloc (.loop rec)=B;have oldB: ∀k,k<A.heap.size->B.heap[k]? =A.heap[k]? :=fun k hk=>by rw[<-hB];exact (Below.heap_alloc _ _ k (by simp;omega)).trans (Below.heap_alloc _ _ k hk)
 have bB:Below w.heap.size w B:=by rw[<-hB];exact (bA.alloc bA.size _).alloc (by have:=bA.size;simp;omega) _
 have dB:B.heap[A.heap.size]? =some (.deferred (some [])):=by rw[<-hB];exact (Below.heap_alloc _ _ _ (by simp)).trans (World.alloc_heap_new A _)
 have lB:B.heap[A.heap.size+1]? =some (.loop rec):=by rw[<-hB];have:=World.alloc_heap_new (A.alloc (.deferred (some []))) (.loop rec);rwa [World.size_alloc] at this
 have start:AnyZ.ApAt ρ w fn (.func (.func g) #[] lb) w.heap.size (A.heap.size+1) A.heap.size [] B:=
  ⟨⟨_,(oldB _ (by omega)).trans xA,⟨rfl,.inl ⟨rfl,rfl⟩⟩,by simp⟩,by rw[hrec];exact lB,dB,bB⟩
 refine⟨A.heap.size+1,[{target:= .collected A.heap.size,args:= #[]}],B,{target:= .fn (.func g) lb,args:= #[.func (.yield (A.heap.size+1)) #[] #[]]},B,g,#[.func (.yield (A.heap.size+1)) #[] #[]]++lb,B,?_,?_,?_,?_,fun _=>(by omega),?_⟩
 .rw[<-hB,<-hrec];exact run_enterLoop_outer _ _ _ _ _
 .simp[resolve,go_sem]
 .intro f' h';simp[Target.leads] at h';exact h'▸hg
 .simp[invoke,go_sem,eg]
 refine (hseq _ (AnyZ.ApAt ρ w fn (.func (.func g) #[] lb) w.heap.size (A.heap.size+1) A.heap.size) B bB (AnyZ.ap_abides ρ _ _ _ _ _ _ _ bB.size) (fun _ _ h=>h.below)
  (fun pre x W h hl=>AnyZ.apYield {L with} F _ w fn hfn _ _ _ _ (by omega) (by omega) (by omega) (Nat.le_refl _) (by omega) ss.length hN hNb pre x W h hl) start).mono ?_
 rintro e C ⟨⟨_,rfl⟩,hC⟩;obtain⟨v,hv,hrow,_⟩:=hC.box;have hend:=run_endLoop (P:=P) hC.L (by simp[AnyZ.apRec]);generalize hD:C.putObj (A.heap.size+1) (.loop {AnyZ.apRec ρ fn (.func (.func g) #[] lb) w.heap.size A.heap.size .ready none with state:= .exhausted})=D at hend;have rowD:D.ownsRow w.heap.size (ρ.t 26) 1 v ss.length (ss.map encStr):=by rw[<-hD];exact w8p hrow hC.L (fun _ h=>by cases h) _
 have boxD:D.heap[w.heap.size]? =some (.cells #[v] (ρ.t 24) (0,0)):=by rw[<-hD];exact (World.putObj_heap_other (by omega)).trans hv
 have defD:D.heap[A.heap.size]? =some (.deferred (some [])):=by rw[<-hD];exact (World.putObj_heap_other (by omega)).trans hC.K
 have belD:Below w.heap.size w D:=by rw[<-hD];exact hC.below.grown (grownBy_putObj_a _ _ _) hC.below.size (fun k h=>by cases h;omega)
 obtain⟨cellD,markD⟩:=cell_of_box_a boxD;clear hD;refine⟨none,D,hend,?_⟩
 gi_wp2
 rw[<-sA];refine⟨by simp,.inl ⟨_,_,rfl,run_takeDeferred defD,?_⟩⟩;exact⟨_,results_tmp rfl _ _ _,v,rfl,w8p rowD defD (fun _ h=>by cases h) _,belD.grown (grownBy_putObj_a _ _ _) belD.size (fun k h=>by cases h;omega)⟩
end Go.Fl
end
noncomputable section
namespace Go.Proofs.YtkbjibhkaddepaaGreatDoor
open Go Go.Proofs Go.RowKit Go.Fl Go.Maps Go.Sort Go.Shelf
attribute [local go_sem] Oper.semAt_some
set_option maxHeartbeats 2000000 in
theorem v6q(n:Nat)(hn:1<=n)(w W:World)(l Bs b off cap:Nat)(zs:List (List UInt8))(hreach:zs.length<=140737488355328)(hBs:Bs<w.heap.size)(hb:b<w.heap.size)(J:List (List UInt8)->World->Prop)
  (hJ: ∀pre W1,J pre W1->Below w.heap.size w W1)(hc:w.cell? ⟨Bs,0,none⟩=some (.slice (some ⟨b,off,none⟩) zs.length cap))(hcs: ∀j,j<zs.length->w.cell? ⟨b,off+j,none⟩=some (encStr (zs[j]?.getD [])))
  (hY: ∀pre x W1,J pre W1->pre.length<zs.length->YieldAt Fence.wide (n - 1) Tryz.prog l #[encStr x] W1 fun e W'=>e= .returned (.bool true)/\J (pre++[x]) W'/\KeepsWalks W1 W')(h0:J [] W):
  CallsIn Fence.wide n Tryz.prog 269 #[.func (.yield l) #[] #[],.pointer (some ⟨Bs,0,none⟩)] W fun e W'=>(∃v,e= .returned v)/\J zs W':=by
 have hc0:=((hJ _ _ h0).cell (p:=⟨Bs,0,none⟩) hBs).trans hc;refine callsIn_of_wp Tryz.func269 rfl trivial ?_ rfl;simp only[Tryz.ntmps269,List.size_toArray,List.length_cons,List.length_nil,Nat.reduceAdd,Nat.reduceSub,Array.replicate_succ,Array.replicate_zero,List.push_toArray,List.append_toArray,List.nil_append,List.cons_append]
 gi_wp2
 gi_loopw [7] (fun i wr=> ∃k:Nat,k<=zs.length/\i= .int .i64 k/\J (zs.take k) wr) (fun i _=>zs.length - (intOf i).toNat)
 case atStart=>exact⟨0,Nat.zero_le _,rfl,h0⟩
 case round=>
  obtain⟨k,hk,rfl,hJk⟩:=hrel;by_cases hlt:k<zs.length
  .have hck:=((hJ _ _ hJk).cell (p:=⟨b,off+k,none⟩) hb).trans (hcs k hlt);obtain⟨fn,tmps,assign,body,hy,hR⟩:=hY _ zs[k] wr hJk (by rw[List.length_take];omega)
   gi_wp2
   refine hR.mono ?_;rintro e W3 ⟨rfl,hJ3,_⟩
   gi_wp2
   go_roundw
   case rel=>exact⟨k+1,by omega,by simp,by rw[List.take_succ_eq_append_getElem hlt];exact hJ3⟩
   case measure=>simp[intOf];omega
  .obtain rfl:k=zs.length:=by omega
   rw[List.take_length] at hJk
   gi_wp2
   go_end0
   exact⟨⟨_,rfl⟩,hJk⟩
set_option maxHeartbeats 2000000 in
theorem v6r(n:Nat)(w W:World)(l Bs cap:Nat)(a:Option Addr)(hBs:Bs<w.heap.size)(J:List (List UInt8)->World->Prop)(hJ: ∀pre W1,J pre W1->Below w.heap.size w W1)(hc:w.cell? ⟨Bs,0,none⟩=some (.slice a 0 cap))(h0:J [] W):
  CallsIn Fence.wide n Tryz.prog 269 #[.func (.yield l) #[] #[],.pointer (some ⟨Bs,0,none⟩)] W fun e W'=>(∃v,e= .returned v)/\J [] W':=by
 have hc0:=((hJ _ _ h0).cell (p:=⟨Bs,0,none⟩) hBs).trans hc;refine callsIn_of_wp Tryz.func269 rfl trivial ?_ rfl;simp only[Tryz.ntmps269,List.size_toArray,List.length_cons,List.length_nil,Nat.reduceAdd,Nat.reduceSub,Array.replicate_succ,Array.replicate_zero,List.push_toArray,List.append_toArray,List.nil_append,List.cons_append]
 gi_wp2
 gi_loopw [7] (fun i wr=>i= .int .i64 0/\J [] wr) (fun _ _=>0)
 case atStart=>exact⟨rfl,h0⟩
 case round=>
  obtain⟨rfl,hJs⟩:=hrel
  gi_wp2
  go_end0
  exact⟨⟨_,rfl⟩,hJs⟩
theorem u8w{σ:Hv}{w:World}(Bs:Nat)(v:Value)(l:List BA)(hV:View σ w)(hB:σ Bs=some (.cells #[v] 70 (0,0)))(hr:RSl 1 (REnc Qj) σ v l)(hs:Sml l.length):
  Calls Tryz.prog 296 #[.slice none 0 0,.func (.func 269) #[] #[.pointer (some ⟨Bs,0,none⟩)]] w fun e w1=> ∃v1,e= .returned v1/\Grow [] σ w σ w1/\((vec v1 9 1 l.length (l.flatMap Qj)).ok w1/\∀k,(vec v1 9 1 l.length (l.flatMap Qj)).foot=some k->w.heap.size<=k/\σ k=none):=by
 have hBw:=hV _ _ hB;have hBl:=lt_of_block hBw;have hBc:w.cell? ⟨Bs,0,none⟩=some v:=by simp[World.cell?,hBw]
 have hlen:(l.map (·.data.toList)).length=l.length:=List.length_map _;have hgive:y5y Fence.wide 2 Tryz.prog 269 #[.pointer (some ⟨Bs,0,none⟩)] (l.map (·.data.toList)) w:=by
  intro lp J W _ _ hJB hY h0;obtain⟨a,cap,rfl,h1,h2,hel⟩:=hr;cases hl0:l with
  |nil=>
   subst hl0;exact v6r 2 w W lp Bs cap a hBl J hJB hBc h0
  |cons x l'=>
   obtain⟨ad,cs,rfl,_,hrow0,hcs0⟩:=hel 0 x (by rw[hl0];rfl);have cell0:=(hrow0.row hV) 0 _ (by rw[hcs0];rfl);obtain⟨ab,ao,asp⟩:=ad;have hsp:asp=none:=by
    cases asp with
    |none=>rfl
    |some s=>
     have:=hrow0 0 (.string x) (by rw[hcs0];rfl);simp[Hv.cell,Addr.add] at this;split at this<;>simp at this
   subst hsp;have hbl:ab<w.heap.size:=by
    have:=hrow0 0 (.string x) (by rw[hcs0];rfl);simp only[Um] at this;unfold Hv.cell at this;simp only at this;cases hq:σ ab with
    |none=>rw[hq] at this;simp at this
    |some o=>exact lt_of_block (hV _ _ hq)
   rw[<-hl0]
   have hcome:=v6q 2 (by omega) w W lp Bs ab ao cap (l.map (·.data.toList)) (by rw[hlen];exact h2) hBl hbl J hJB (by rw[hlen];exact hBc) (fun j hj=>by
    rw[hlen] at hj;obtain⟨y,hy⟩:=getq hj;obtain⟨ad',cs',had,_,hrow,hcs⟩:=hel j y hy;cases had;have hc:=(hrow.row hV) 0 (.string y) (by rw[hcs];rfl);rw[q1d,Um] at hc;rw[List.getElem?_map,hy]
    simpa [encStr] using hc) hY h0
   exact hcome
 refine (callsIn_wide (n:=3)).1 ((w4e (ρ:=Tryz.sorted221_ren) {Tryz.sorted221 with} Fence.wide 3 trivial rfl (by omega) 269 _ trivial (enters_of Tryz.func269 (by kernel_rfl) rfl) (l.map (·.data.toList)) (by rw[hlen];exact (q6y hs (show 16<=32768 by omega)).2) (by rw[hlen];exact (q6y hs (by omega)).1) w hgive).mono ?_);rintro e w1 ⟨v1,rfl,hown,hbel⟩;rw[hlen] at hown;have hfl:(l.map (·.data.toList)).map encStr=l.flatMap Qj:=(Bo l).symm;rw[hfl] at hown;have hsame: ∀b,b<w.heap.size->w1.heap[b]? =w.heap[b]? :=fun b hb=>hbel.block b hb
 refine⟨v1,rfl,⟨⟨hbel.os,hbel.tape,hbel.output,hbel.size,fun k hk _=>hbel.block k hk⟩,fun b o hb=>(hbel.block b (lt_of_block (hV b o hb))).trans (hV b o hb),.refl _,fun _ _ _=>rfl⟩,?_,?_⟩
 .exact⟨hown.1,hown.2.imp id fun ⟨g,cap,cur,e1,_,e3⟩=>⟨g,cap,cur,e1,Nat.zero_le _,e3⟩⟩
 .intro k hk;have hge:w.heap.size<=k:=(hown.lt k hk).1;refine⟨hge,?_⟩;cases hq:σ k with
  |none=>rfl
  |some o=>have:=lt_of_block (hV k o hq);omega
end Go.Proofs.YtkbjibhkaddepaaGreatDoor
end
