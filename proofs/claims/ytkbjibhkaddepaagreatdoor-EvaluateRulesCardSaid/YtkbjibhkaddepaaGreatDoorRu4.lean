/- In words: other rules and another default change nothing for a subject that is targeted, in an experiment of the flag, or fails a prerequisite; for every input the law returns true. This is part 4 of 10. Conditions: those in the statements. -/
import Derived.Test.YtkbjibhkaddepaaGreatDoorProg
import Derived.Test.YtkbjibhkaddepaaGreatDoorRu3
import Derived.Lib.ValidU
import Derived.Lib.ItoaNum
import Derived.KernelRfl
import Derived.Conc.MuLone
import Derived.Shelf.Small.Bits
import Derived.Shelf.Utf8.RuneCount
import Derived.Shelf.Strconv.Atoi
import Derived.Shelf.Strconv.Itoa0
import Derived.Shelf.Strconv.Itoa1
import Derived.Shelf.LaysM
import Derived.Shelf.Strconv.Itoa2
import Derived.Shelf.Strconv.Itoa3
import Derived.Shelf.Strconv.AtoiErrFast
import Derived.Shelf.Strconv.ParseIntEmpty
import Derived.Shelf.Strconv.AtoiFail
import Derived.Shelf.Strconv.Clone
import Derived.Shelf.Strconv.SyntaxError
import Derived.Shelf.LaysC
import Derived.Shelf.Strconv.ToError
import Derived.Shelf.Strconv.Lower
import Derived.Shelf.Strconv.ParseUint10
import Derived.Shelf.Strconv.ParseUint10Empty
import Derived.Shelf.Strconv.ParseUint10Any
import Derived.Shelf.Strconv.ParseInt10
import Derived.Shelf.Strconv.AtoiLong
import Derived.Shelf.Strconv.AtoiInnerAll
import Derived.Shelf.Strconv.RangeError
import Derived.Shelf.Strconv.ToErrorRange
import Derived.Shelf.Strconv.AtoiAll
import Derived.Shelf.Strconv.ErrVarAll
import Derived.Shelf.Strings.Search1
import Derived.Shelf.Strings.Search2
import Derived.Shelf.Strings.Search3
import Derived.Shelf.Strings.Count
import Derived.Shelf.Strings.Shaped
import Derived.Shelf.Sort.Plain
import Derived.Shelf.Strings.Split
import Derived.Shelf.Strings.SplitShaped
import Derived.Shelf.Unicode.Decode
import Derived.Shelf.Strings.RuneCount
import Derived.Shelf.Strings.Explode
import Derived.Shelf.Unicode.DecodeSlow
import Derived.Shelf.Unicode.DecodeAny
import Derived.Ground.Names2Prog
import Derived.Shelf.Slices.Clone
import Derived.Shelf.Slices.CompactS
import Derived.Shelf.Slices.SearchI
import Derived.Shelf.Slices.Delete
import Derived.Shelf.Slices.Cells
import Derived.Shelf.Slices.In.SortNone
import Derived.Shelf.Slices.Empties
import Derived.Ground.SlgnProg
import Derived.Shelf.SlicesE.Clone
import Derived.Ground.NamesProg
import Derived.Shelf.Unicode.ValidAny
import Derived.Shelf.SlIter.Sorted
import Derived.Ground.GgzProg
import Derived.Shelf.SlIter.Collect
import Derived.WalkKit
import Derived.OwnWalkIn
import Derived.TacticsInMore
import Derived.LoopNIn
import Derived.LoopIn
import Derived.RangeFuncLeaves
noncomputable section
set_option maxRecDepth 100000
open Go Go.RowKit Go.Fl Go.Fl.Lk Go.Fx
namespace Go.En
abbrev Ws:Type:=(List (Decl)->Prop)->Prop
def Us:Ws:=fun K=>K [Decl.mk (ByteArray.mk (Array.mk [100,101,118,105,99,101])) (ByteArray.mk (Array.mk [99,111,114,101,115])) (2:Int),Decl.mk (ByteArray.mk (Array.mk [100,101,118,105,99,101])) (ByteArray.mk (Array.mk [111,115])) (3:Int),Decl.mk (ByteArray.mk (Array.mk [117,115,101,114])) (ByteArray.mk (Array.mk [97,103,101])) (2:Int),Decl.mk (ByteArray.mk (Array.mk [117,115,101,114])) (ByteArray.mk (Array.mk [97,112,112])) (4:Int),Decl.mk (ByteArray.mk (Array.mk [117,115,101,114])) (ByteArray.mk (Array.mk [98,101,116,97])) (1:Int),Decl.mk (ByteArray.mk (Array.mk [117,115,101,114])) (ByteArray.mk (Array.mk [99,111,117,110,116,114,121])) (3:Int),Decl.mk (ByteArray.mk (Array.mk [117,115,101,114])) (ByteArray.mk (Array.mk [112,108,97,110])) (3:Int),Decl.mk (ByteArray.mk (Array.mk [117,115,101,114])) (ByteArray.mk (Array.mk [116,97,103,115])) (5:Int)]
abbrev j6j:Type:=List (Int)->Int->(Bool->Int->Prop)->Prop
def w3j:j6j:=fun list at_ K=>Fits list->K (decide (at_<(↑list.length:Int))) at_
abbrev Zf:Type:=List (Int)->Int->Int->(Int->Int->Prop)->Prop
def w3k(j6u:j6j):Zf:=fun list at_ n K=>j6u list at_ fun Qa Qz=>Cnd (Qa=true) (InI (Qz+1)/\InI (Qz+1 - (1:Int))/\((0:Int)<=Qz+1 - (1:Int)/\Qz+1 - (1:Int)<(↑list.length:Int))/\ ∀y1,list[(Qz+1 - (1:Int)).toNat]? =some y1->InI y1/\n≠(0:Int)/\K (y1.tmod n) (Qz+1)) (K (0:Int) Qz)
def J2:Zf:=w3k w3j
abbrev q06:Type:=List (Int)->Int->(ByteArray->Int->Prop)->Prop
def w3l(Qb:Zf):q06:=fun list at_ K=>Qb list at_ (11:Int) fun Qa Qz=>((0:Int)<=Qa/\Qa<(↑(11:Nat):Int))/\ ∀y1,j0i[Qa.toNat]? =some y1->K y1 Qz
def z1o:q06:=w3l J2
abbrev q54:Type:=List (Int)->Int->Int->(Int->Int->Prop)->Prop
def w3m(Qb:Zf):q54:=fun list at_ n K=>Qb list at_ (256:Int) fun Qa Qz=>InI ((256:Int)*Qa)/\Qb list Qz (256:Int) fun Qc Z5=>InI ((256:Int)*Qa+Qc)/\n≠(0:Int)/\K (((256:Int)*Qa+Qc).tmod n) Z5
def z6h:q54:=w3m J2
abbrev z6i:Type:=Int->List (ByteArray)->(List (ByteArray)->Prop)->Prop
def j6k:z6i:=fun n l K=>((0:Int)<=n/\n<=(↑l.length:Int))/\K (List.take n.toNat l)
abbrev z1p:Type:=List (Int)->Int->(List (ByteArray)->Int->Prop)->Prop
def w3n(Qb:Zf):z1p:=fun list at_ K=>Qb list at_ (10:Int) fun Qa Qz=>Lp3 (fun Qc Z5 z52 v9p=>Qb list z52 (4:Int) fun Qf Zl=>Cnd (Z5<Qf) (InI (Qa+Z5)/\(10:Int)≠(0:Int)/\InI ((48:Int)+(Qa+Z5).tmod (10:Int))/\(↑((ByteArray.mk (Array.mk [107])).size+(Go.Utf8.encode (Go.IntKind.i32.wrap ((48:Int)+(Qa+Z5).tmod (10:Int)))).size):Int)<=(9223372036854775807:Int)/\Sml (Qc++[ByteArray.mk (Array.mk [107])++Go.Utf8.encode (Go.IntKind.i32.wrap ((48:Int)+(Qa+Z5).tmod (10:Int)))]).length/\InI (Z5+1)/\v9p (Qc++[ByteArray.mk (Array.mk [107])++Go.Utf8.encode (Go.IntKind.i32.wrap ((48:Int)+(Qa+Z5).tmod (10:Int)))]) (Z5+1) Zl) (Lp2 (fun Qi H7 w09=>Fits H7->CAt H7 Qi (fun y5=>InI (Qi - 1)/\((0:Int)<=Qi - 1/\Qi - 1<(↑H7.length:Int))/\ ∀y7,H7[(Qi - 1).toNat]? =some y7->Cnd (Lk.blt y7 y5) (InI (Qi+1)/\w09 (Qi+1) H7) (((0:Int)<=Qi/\Qi<=(↑H7.length:Int))/\K (List.take Qi.toNat H7) Zl)) (K H7 Zl)) (1:Int) Qc)) [] (0:Int) Qz
def j0j:z1p:=w3n J2
abbrev z8n:Type:=List (Int)->Int->(ByteArray->Int->Prop)->Prop
def w9b(Qb:Zf):z8n:=fun list at_ K=>Qb list at_ (10:Int) fun Qa Qz=>InI ((48:Int)+Qa)/\(↑((ByteArray.mk (Array.mk [107])).size+(Go.Utf8.encode (Go.IntKind.i32.wrap ((48:Int)+Qa))).size):Int)<=(9223372036854775807:Int)/\K (ByteArray.mk (Array.mk [107])++Go.Utf8.encode (Go.IntKind.i32.wrap ((48:Int)+Qa))) Qz
def j7v:z8n:=w9b J2
abbrev q07:Type:=List (Int)->Int->Int->(Val->Int->Prop)->Prop
def j0k(Qb:Zf)(Wa:q06):q07:=fun list at_ kind K=>Cnd (kind=1) (Qb list at_ (2:Int) fun Qa Qz=>K (Val.mk kind Qa (ByteArray.mk (Array.mk [])) []) Qz) (Cnd (kind=2) ([(0:Int),(1:Int),(17:Int),(18:Int),(19:Int),(-5:Int),(64:Int),(1099511627776:Int),(-1099511627776:Int)].length<=(9223372036854775807:Nat)->Qb list at_ (↑[(0:Int),(1:Int),(17:Int),(18:Int),(19:Int),(-5:Int),(64:Int),(1099511627776:Int),(-1099511627776:Int)].length:Int) fun Qc Z5=>((0:Int)<=Qc/\Qc<(↑[(0:Int),(1:Int),(17:Int),(18:Int),(19:Int),(-5:Int),(64:Int),(1099511627776:Int),(-1099511627776:Int)].length:Int))/\ ∀y2,[(0:Int),(1:Int),(17:Int),(18:Int),(19:Int),(-5:Int),(64:Int),(1099511627776:Int),(-1099511627776:Int)][Qc.toNat]? =some y2->K (Val.mk kind y2 (ByteArray.mk (Array.mk [])) []) Z5) (Cnd (kind=3) (Wa list at_ fun Qa Qz=>K (Val.mk kind (0:Int) Qa []) Qz) (Cnd (kind=4) (Qb list at_ (6:Int) fun Qa Qz=>((0:Int)<=Qa/\Qa<(↑(6:Nat):Int))/\ ∀y1,z38[Qa.toNat]? =some y1->K (Val.mk kind (0:Int) y1 []) Qz) (Qb list at_ (5:Int) fun Qa Qz=>((0:Int)<=Qa/\Qa<(↑(5:Nat):Int))/\ ∀y1,j7t[Qa.toNat]? =some y1->Sml ([]++y1).length/\K (Val.mk (5:Int) (0:Int) (ByteArray.mk (Array.mk [])) ([]++y1)) Qz))))
def Bg:q07:=j0k J2 z1o
abbrev j0l:Type:=List (Int)->Int->(Ex->Int->Prop)->Prop
def w3o(Q2:Ws)(Qb:Zf)(z29:z8n)(Z8:q07):j0l:=fun list at_ K=>Q2 fun Qa=>Fits Qa->InI ((↑Qa.length:Int)+1)/\Qb list at_ ((↑Qa.length:Int)+1) fun Qf Zl=>Fits Qa->Cnd (Qf=(↑Qa.length:Int)) (z29 list Zl fun Qe Jr=>K (Ex.mk (7:Int) (ByteArray.mk (Array.mk [117,115,101,114])) (ByteArray.mk (Array.mk [107,101,121])) [Val.mk (3:Int) (0:Int) Qe []] []) Jr) (At Qa Qf fun y4=>Jn1 (fun (Zp:Int×ByteArray×ByteArray×List Val×List Ex×Int×Int×ByteArray×ByteArray×List Val×List Ex×Unit)=>Z8 list Zp.2.2.2.2.2.1 y4.3 fun Js z7p=>K (Ex.mk (7:Int) Zp.2.1 Zp.2.2.1 [Js] Zp.2.2.2.2.1) z7p) fun (j6v:Int×ByteArray×ByteArray×List Val×List Ex×Int×Int×ByteArray×ByteArray×List Val×List Ex×Unit->Prop)=>Qb list Zl (5:Int) fun Js z7p=>Jn1 (fun (Wb:Int×Int×ByteArray×ByteArray×List Val×List Ex×Int×ByteArray×ByteArray×List Val×List Ex×Unit)=>Cnd (y4.3=2) (Qb list Wb.1 (4:Int) fun Qr z67=>InI ((12:Int)+Qr)/\Z8 list z67 y4.3 fun Uq Bo=>K (Ex.mk ((12:Int)+Qr) Wb.2.2.1 Wb.2.2.2.1 [Uq] Wb.2.2.2.2.2.1) Bo) (Cnd (y4.3=3) (Qb list Wb.1 (4:Int) fun Qr z67=>InI ((12:Int)+Qr)/\Z8 list z67 y4.3 fun Uq Bo=>K (Ex.mk ((12:Int)+Qr) Wb.2.2.1 Wb.2.2.2.1 [Uq] Wb.2.2.2.2.2.1) Bo) (Cnd (y4.3=4) (Qb list Wb.1 (4:Int) fun Qr z67=>InI ((12:Int)+Qr)/\Z8 list z67 y4.3 fun Uq Bo=>K (Ex.mk ((12:Int)+Qr) Wb.2.2.1 Wb.2.2.2.1 [Uq] Wb.2.2.2.2.2.1) Bo) (j6v (Wb.2.1,Wb.2.2.1,Wb.2.2.2.1,Wb.2.2.2.2.1,Wb.2.2.2.2.2.1,Wb.1,Wb.2.2.2.2.2.2.1,Wb.2.2.2.2.2.2.2.1,Wb.2.2.2.2.2.2.2.2.1,Wb.2.2.2.2.2.2.2.2.2.1,Wb.2.2.2.2.2.2.2.2.2.2.1,()))))) fun (y2s:Int×Int×ByteArray×ByteArray×List Val×List Ex×Int×ByteArray×ByteArray×List Val×List Ex×Unit->Prop)=>Cnd (Js=0) (K (Ex.mk (6:Int) y4.1 y4.2 [] []) z7p) (Cnd (Js=1) (Cnd (y4.3=5) (j6v ((0:Int),y4.1,y4.2,[],[],z7p,(0:Int),ByteArray.mk (Array.mk []),ByteArray.mk (Array.mk []),[],[],())) (Lp3 (fun Qr z67 y6x u0u=>Qb list y6x (3:Int) fun Uq Bo=>Cnd (Qr<=Uq) (Z8 list Bo y4.3 fun V6 z54=>Sml (z67++[V6]).length/\InI (Qr+1)/\u0u (Qr+1) (z67++[V6]) z54) (K (Ex.mk (8:Int) y4.1 y4.2 z67 []) Bo)) (0:Int) [] z7p)) (Cnd (Js=2) (Cnd (y4.3=3) (Z8 list z7p (3:Int) fun Qr z67=>K (Ex.mk (11:Int) y4.1 y4.2 [Qr] []) z67) (Cnd (y4.3=5) (Z8 list z7p (3:Int) fun Qr z67=>K (Ex.mk (11:Int) y4.1 y4.2 [Qr] []) z67) (j6v ((0:Int),y4.1,y4.2,[],[],z7p,(0:Int),ByteArray.mk (Array.mk []),ByteArray.mk (Array.mk []),[],[],())))) (Cnd (Js=3) (Cnd (y4.3=3) (Qb list z7p (2:Int) fun Qr z67=>InI ((9:Int)+Qr)/\Z8 list z67 (3:Int) fun Uq Bo=>K (Ex.mk ((9:Int)+Qr) y4.1 y4.2 [Uq] []) Bo) (y2s (z7p,(0:Int),y4.1,y4.2,[],[],(0:Int),ByteArray.mk (Array.mk []),ByteArray.mk (Array.mk []),[],[],()))) (Cnd (Js=4) (y2s (z7p,(0:Int),y4.1,y4.2,[],[],(0:Int),ByteArray.mk (Array.mk []),ByteArray.mk (Array.mk []),[],[],())) (j6v ((0:Int),y4.1,y4.2,[],[],z7p,(0:Int),ByteArray.mk (Array.mk []),ByteArray.mk (Array.mk []),[],[],())))))))
def z6j:j0l:=w3o Us J2 j7v Bg
abbrev q31:Type:=List (Int)->Int->List (ByteArray)->Int->(Ex->Int->Prop)->Prop
def j6l(Qb:Zf)(j18:j0l)(X:q31):q31:=fun list at_ segments levels K=>Qb list at_ (8:Int) fun Qa Qz=>Jn1 (fun Qc=>Cnd (Qc=0) (K (Ex.mk (1:Int) (ByteArray.mk (Array.mk [])) (ByteArray.mk (Array.mk [])) [] []) Qz) (Cnd (Qc=3) (Fits segments->Cnd ((0:Int)<(↑segments.length:Int)) (Fits segments->Qb list Qz (↑segments.length:Int) fun Qe Jr=>At segments Qe fun y5=>K (Ex.mk (5:Int) (ByteArray.mk (Array.mk [])) y5 [] []) Jr) (j18 list Qz fun Qi H7=>K (Ex.mk Qi.1 Qi.2 Qi.3 Qi.4 Qi.5) H7)) (Cnd (Qc=4) (InI (levels - 1)/\X list Qz segments (levels - 1) fun Qf Zl=>K (Ex.mk (4:Int) (ByteArray.mk (Array.mk [])) (ByteArray.mk (Array.mk [])) [] [Ex.mk Qf.1 Qf.2 Qf.3 Qf.4 Qf.5]) Zl) (Jn1 (fun Qf=>Cnd (Qf=true) (Qb list Qz (2:Int) fun Qi H7=>InI ((2:Int)+Qi)/\Qb list H7 (2:Int) fun Qe Jr=>InI ((2:Int)+Qe)/\LpH (fun (Ql:Int×Int×Int×ByteArray×ByteArray×List Val×List Ex×Unit) (j4n:Int×Int×Int×ByteArray×ByteArray×List Val×List Ex×Unit->Prop)=>Cnd (Ql.1<2+Qe) (InI (levels - 1)/\X list Ql.2.1 segments (levels - 1) fun Zp z0m=>Jn1 (fun (Js:Int×ByteArray×ByteArray×List Val×List Ex×Unit)=>Sml (Ql.2.2.2.2.2.2.1++[Ex.mk Js.1 Js.2.1 Js.2.2.1 Js.2.2.2.1 Js.2.2.2.2.1]).length/\InI (Ql.1+1)/\j4n (Ql.1+1,z0m,Ql.2.2.1,Ql.2.2.2.1,Ql.2.2.2.2.1,Ql.2.2.2.2.2.1,Ql.2.2.2.2.2.2.1++[Ex.mk Js.1 Js.2.1 Js.2.2.1 Js.2.2.2.1 Js.2.2.2.2.1],())) fun (v9w:Int×ByteArray×ByteArray×List Val×List Ex×Unit->Prop)=>Cnd (Zp.1=2+Qi) (v9w ((4:Int),ByteArray.mk (Array.mk []),ByteArray.mk (Array.mk []),[],[Ex.mk Zp.1 Zp.2 Zp.3 Zp.4 Zp.5],())) (v9w (Zp.1,Zp.2,Zp.3,Zp.4,Zp.5,()))) (K (Ex.mk Ql.2.2.1 Ql.2.2.2.1 Ql.2.2.2.2.1 Ql.2.2.2.2.2.1 Ql.2.2.2.2.2.2.1) Ql.2.1)) ((0:Int),Jr,(2:Int)+Qi,ByteArray.mk (Array.mk []),ByteArray.mk (Array.mk []),[],[],())) (j18 list Qz fun Qi H7=>K (Ex.mk Qi.1 Qi.2 Qi.3 Qi.4 Qi.5) H7)) fun w8f=>Cnd (Qc=5) (w8f (decide (Qc=5))) (w8f (decide (Qc=6))))))) fun j6w=>Cnd (levels<=1) (Cnd ((4:Int)<=Qa) (InI (Qa - 4)/\j6w (Qa - 4)) (j6w Qa)) (j6w Qa)
def j0m:q31:=fun list at_ segments levels K=> ∀X:q31,(∀list at_ segments levels K,j6l J2 z6j X list at_ segments levels K->X list at_ segments levels K)->X list at_ segments levels K
abbrev q4u:Type:=List (Int)->Int->ByteArray->ByteArray->Int->List (Decl)->List (Seg)->List (Flg)->List (Lay_)->List (Exper)->(Int->ByteArray->ByteArray->Int->List (Decl)->List (Seg)->List (Flg)->List (Lay_)->List (Exper)->Prop)->Prop
def z4a(Qb:Zf)(q2s:z6i)(q4e:z1p)(q4f:q31):q4u:=fun list at_ salt hkind hold attrs segs flags layers expers K=>Qb list at_ (4:Int) fun Qa Qz=>q2s Qa [ByteArray.mk (Array.mk [97,108,112,104,97]),ByteArray.mk (Array.mk [98,101,116,97]),ByteArray.mk (Array.mk [103,97,109,109,97])] fun Qc=>Lp3 (fun Qf Zl w5n y89=>Fits Qc->CAt Qc Qf (fun y4=>q4e list Zl fun Zp z0m=>q4e list z0m fun Js z7p=>Jn2 (fun Wb w8g=>Jn1 (fun (Qr:Int×ByteArray×ByteArray×List Val×List Ex×Int×Unit)=>Sml (w5n++[Seg.mk y4 Wb Zp Js (Ex.mk Qr.1 Qr.2.1 Qr.2.2.1 Qr.2.2.2.1 Qr.2.2.2.2.1)]).length/\InI (Qf+1)/\y89 (Qf+1) Qr.2.2.2.2.2.1 (w5n++[Seg.mk y4 Wb Zp Js (Ex.mk Qr.1 Qr.2.1 Qr.2.2.1 Qr.2.2.2.1 Qr.2.2.2.2.1)])) fun (y2t:Int×ByteArray×ByteArray×List Val×List Ex×Int×Unit->Prop)=>Qb list w8g (3:Int) fun Uq Bo=>Cnd ((0:Int)<Uq) (((0:Int)<=(0:Int)/\(0:Int)<=Qf/\Qf<=(↑Qc.length:Int))/\q4f list Bo (List.drop (Int.toNat (0:Int)) (List.take Qf.toNat Qc)) (3:Int) fun V6 z54=>y2t (V6.1,V6.2,V6.3,V6.4,V6.5,z54,())) (y2t ((0:Int),ByteArray.mk (Array.mk []),ByteArray.mk (Array.mk []),[],[],Bo,()))) fun y2s=>Qb list z7p (4:Int) fun Qr z67=>Cnd (Qr=1) (y2s (ByteArray.mk (Array.mk [100,101,118,105,99,101])) z67) (y2s (ByteArray.mk (Array.mk [117,115,101,114])) z67)) (K Zl salt hkind hold attrs w5n flags layers expers)) (0:Int) Qz segs
def q8z:q4u:=z4a J2 j6k j0j j0m
abbrev q08:Type:=Envt->(List (ByteArray)->Prop)->Prop
def q09:q08:=fun v K=>Lp2 (fun Qa Qz q27=>Fits v.3->CAt v.3 Qz (fun y2=>Sml (Qa++[y2.1]).length/\InI (Qz+1)/\q27 (Qa++[y2.1]) (Qz+1)) (K Qa)) [] (0:Int)
abbrev q7k:Type:=List (Int)->Int->Int->(List (Rng)->Int->Prop)->Prop
def j7w(Qb:Zf)(Wm:q54):q7k:=fun list at_ n K=>Jn4 (fun Qa Qz z8f q5w=>Qb list q5w n fun Qc Z5=>InI ((1:Int)+Qc)/\Jn1 (fun Qf=>Sml (Qa++[Rng.mk Qz (10000:Int) Qf]).length/\K (Qa++[Rng.mk Qz (10000:Int) Qf]) Z5) fun w8f=>Cnd ((1:Int)+Qc=z8f) (n≠(0:Int)/\InI ((1:Int)+((1:Int)+Qc).tmod n)/\w8f ((1:Int)+((1:Int)+Qc).tmod n)) (w8f ((1:Int)+Qc))) fun q4g=>Lp5 (fun Qc Z5 z52 z91 y7g y9a=>Qb list y7g (4:Int) fun Qf Zl=>Cnd (z91<Qf) (Cnd ((1:Int)<n) (InI (Z5+1)/\Wm list Zl (5000:Int) fun Qi H7=>InI (Z5+1+Qi)/\Qb list H7 n fun Qe Jr=>InI ((1:Int)+Qe)/\Jn1 (fun Ql=>Cnd ((10000:Int)<=Z5+1+Qi) (q4g Qc Z5 z52 Jr) (Sml (Qc++[Rng.mk Z5 (Z5+1+Qi) Ql]).length/\InI (z91+1)/\y9a (Qc++[Rng.mk Z5 (Z5+1+Qi) Ql]) (Z5+1+Qi) Ql (z91+1) Jr)) fun u1l=>Cnd ((1:Int)+Qe=z52) (n≠(0:Int)/\InI ((1:Int)+((1:Int)+Qe).tmod n)/\u1l ((1:Int)+((1:Int)+Qe).tmod n)) (u1l ((1:Int)+Qe))) (q4g Qc Z5 z52 Zl)) (q4g Qc Z5 z52 Zl)) [] (0:Int) (0:Int) (0:Int) at_
def z4b:q7k:=j7w J2 z6h
abbrev z4c:Type:=List (Int)->Int->Int->(Srv->Int->Prop)->Prop
def j7x(Qb:Zf)(Wa:q06)(q2t:q7k)(Q2:Ws):z4c:=fun list at_ n K=>Qb list at_ (2:Int) fun Qa Qz=>Cnd (Qa=0) (Qb list Qz n fun Qc Z5=>InI ((1:Int)+Qc)/\K (Srv.mk ((1:Int)+Qc) (ByteArray.mk (Array.mk [])) (ByteArray.mk (Array.mk [])) (ByteArray.mk (Array.mk [])) []) Z5) (Wa list Qz fun Qc Z5=>q2t list Z5 n fun Qf Zl=>Q2 fun Qi=>Qb list Zl (12:Int) fun Qe Jr=>Fits Qi->CAt Qi Qe (fun y6=>Cnd (y6.3=5) (K (Srv.mk (0:Int) (ByteArray.mk (Array.mk [117,115,101,114])) (ByteArray.mk (Array.mk [107,101,121])) Qc Qf) Jr) (At Qi Qe fun y8=>At Qi Qe fun y10=>K (Srv.mk (0:Int) y8.1 y10.2 Qc Qf) Jr)) (K (Srv.mk (0:Int) (ByteArray.mk (Array.mk [117,115,101,114])) (ByteArray.mk (Array.mk [107,101,121])) Qc Qf) Jr))
def j0n:z4c:=j7x J2 z1o z4b Us
abbrev j0o:Type:=(List (Nd)->(Nd->Option (Int))->Bool->Prop)->Prop
def w6r:j0o:=fun K=>K [] (fun _=>none) false
abbrev W6:Type:=Int->(Bool->Prop)->Prop
def Jw:W6:=fun op K=>Cnd ((6:Int)<=op) (K (decide (op<=15))) (K false)
abbrev j0p:Type:=List (ByteArray)->List (ByteArray)->(Bool->Prop)->Prop
def j0q:j0p:=fun a b K=>Fits a->Fits b->Cnd ((↑a.length:Int)=(↑b.length:Int)) (Lp1 (fun Qf j19=>Fits a->CAt a Qf (fun y4=>At b Qf fun y6=>Cnd (y4=y6) (InI (Qf+1)/\j19 (Qf+1)) (K false)) (K true)) (0:Int)) (K false)
abbrev q0w:Type:=Val->Val->(Bool->Prop)->Prop
def j21(j2a:j0p):q0w:=fun a b K=>Cnd (a.1=b.1) (Cnd (a.2=b.2) (Cnd (a.3=b.3) (j2a a.4 b.4 fun Qa=>K Qa) (K false)) (K false)) (K false)
def q28:q0w:=j21 j0q
abbrev Hm:Type:=List (Val)->List (Val)->(Bool->Prop)->Prop
def q7l(W2:q0w):Hm:=fun a b K=>Fits a->Fits b->Cnd ((↑a.length:Int)=(↑b.length:Int)) (Lp1 (fun Qf j19=>Fits a->CAt a Qf (fun y4=>At b Qf fun y6=>W2 y4 y6 fun Wb=>Cnd (Wb=true) (InI (Qf+1)/\j19 (Qf+1)) (K false)) (K true)) (0:Int)) (K false)
def Ue:Hm:=q7l q28
abbrev Vm:Type:=Ex->Ex->(Bool->Prop)->Prop
def z1q(q2u:Hm)(X:Vm):Vm:=fun a b K=>Cnd (a.1=b.1) (Cnd (a.2=b.2) (Cnd (a.3=b.3) (q2u a.4 b.4 fun Qa=>Cnd (Qa=true) (Fits a.5->Fits b.5->Cnd ((↑a.5.length:Int)=(↑b.5.length:Int)) (Lp1 (fun Qi z92=>Fits a.5->CAt a.5 Qi (fun y5=>At b.5 Qi fun y7=>X (Ex.mk y5.1 y5.2 y5.3 y5.4 y5.5) (Ex.mk y7.1 y7.2 y7.3 y7.4 y7.5) fun Qr=>Cnd (Qr=true) (InI (Qi+1)/\z92 (Qi+1)) (K false)) (K true)) (0:Int)) (K false)) (K false)) (K false)) (K false)) (K false)
def q1a:Vm:=fun a b K=> ∀X:Vm,(∀a b K,z1q Ue X a b K->X a b K)->X a b K
abbrev q0e:Type:=List (Ex)->Ex->(Int->Prop)->Prop
def z8o(q6q:Vm):q0e:=fun l e K=>Lp1 (fun Qa q5c=>Fits l->CAt l Qa (fun y2=>q6q (Ex.mk y2.1 y2.2 y2.3 y2.4 y2.5) (Ex.mk e.1 e.2 e.3 e.4 e.5) fun Qe=>Cnd (Qe=true) (K Qa) (InI (Qa+1)/\q5c (Qa+1))) (K (-1:Int))) (0:Int)
def V2:q0e:=z8o q1a
abbrev Wt:Type:=List (Ex)->Ex->(List (Ex)->Prop)->Prop
def q92(V4:q0e)(Q1:W6)(X:Wt):Wt:=fun l e K=>Jn1 (fun Qa=>Lp2 (fun Qc Z5 z7q=>Fits e.5->CAt e.5 Z5 (fun y3=>X Qc (Ex.mk y3.1 y3.2 y3.3 y3.4 y3.5) fun Ql=>InI (Z5+1)/\z7q Ql (Z5+1)) (K Qc)) Qa (0:Int)) fun q4g=>Cnd (e.1=5) (V4 l (Ex.mk e.1 e.2 e.3 e.4 e.5) fun Qc=>Cnd (Qc<0) ((Sml ([]++l).length/\Sml ([]++l++[Ex.mk e.1 e.2 e.3 e.4 e.5]).length/\q4g ([]++l++[Ex.mk e.1 e.2 e.3 e.4 e.5]))/\Sml ([]++l).length/\Sml ([]++l++[Ex.mk e.1 e.2 e.3 e.4 e.5]).length/\q4g ([]++l++[Ex.mk e.1 e.2 e.3 e.4 e.5])) (q4g l)) (Q1 e.1 fun Qc=>Cnd (Qc=true) (V4 l (Ex.mk e.1 e.2 e.3 e.4 e.5) fun Qf=>Cnd (Qf<0) ((Sml ([]++l).length/\Sml ([]++l++[Ex.mk e.1 e.2 e.3 e.4 e.5]).length/\q4g ([]++l++[Ex.mk e.1 e.2 e.3 e.4 e.5]))/\Sml ([]++l).length/\Sml ([]++l++[Ex.mk e.1 e.2 e.3 e.4 e.5]).length/\q4g ([]++l++[Ex.mk e.1 e.2 e.3 e.4 e.5])) (q4g l)) (q4g l))
def q32:Wt:=fun l e K=> ∀X:Wt,(∀l e K,q92 V2 Jw X l e K->X l e K)->X l e K
abbrev Hn:Type:=List (Rul)->(List (Ex)->Prop)->Prop
def q7m(q4h:Wt):Hn:=fun l K=>Lp2 (fun Qa Qz q27=>Fits l->CAt l Qz (fun y2=>q4h Qa (Ex.mk y2.2.1 y2.2.2 y2.2.3 y2.2.4 y2.2.5) fun Qe=>InI (Qz+1)/\q27 Qe (Qz+1)) (K Qa)) [] (0:Int)
def q1b:Hn:=q7m q32
abbrev J3:Type:=List (Nd)->(Nd->Option (Int))->Bool->Int->(Bool->List (Nd)->(Nd->Option (Int))->Bool->Prop)->Prop
def Uy:J3:=fun ns ids full id K=>Cnd ((-1002:Int)<id) (Fits ns->K (decide (id<(↑ns.length:Int))) ns ids full) (K false ns ids full)
abbrev Bt:Type:=List (Nd)->(Nd->Option (Int))->Bool->Int->((Int->Option (Bool))->List (Nd)->(Nd->Option (Int))->Bool->Prop)->Prop
def Bu:Bt:=fun ns ids full id K=>Lp2 (fun Qa q5c q27=>Fits Qa->Cnd ((0:Int)<(↑Qa.length:Int)) (Fits Qa->InI ((↑Qa.length:Int) - 1)/\((0:Int)<=(↑Qa.length:Int) - 1/\(↑Qa.length:Int) - 1<(↑Qa.length:Int))/\ ∀y3,Qa[((↑Qa.length:Int) - 1).toNat]? =some y3->Fits Qa->InI ((↑Qa.length:Int) - 1)/\((0:Int)<=(↑Qa.length:Int) - 1/\(↑Qa.length:Int) - 1<=(↑Qa.length:Int))/\Cnd ((q5c y3).getD false=true) (q27 (List.take ((↑Qa.length:Int) - 1).toNat Qa) q5c) (Cnd ((0:Int)<=y3) (At ns y3 fun y6=>At ns y3 fun y8=>Sml (List.take ((↑Qa.length:Int) - 1).toNat Qa++[y6.2.1,y8.2.2]).length/\q27 (List.take ((↑Qa.length:Int) - 1).toNat Qa++[y6.2.1,y8.2.2]) (put q5c y3 true)) (q27 (List.take ((↑Qa.length:Int) - 1).toNat Qa) (put q5c y3 true)))) (K q5c ns ids full)) [id] fun _=>none
abbrev Uf:Type:=List (Nd)->(Nd->Option (Int))->Bool->Int->(List (Int)->List (Nd)->(Nd->Option (Int))->Bool->Prop)->Prop
def z0t(Qx:J3)(B5:Bt):Uf:=fun ns ids full id K=>Qx ns ids full id fun Qa (Qz:List (Int×Int×Int)) q27 q5w=>Cnd (Qa=true) (B5 Qz q27 q5w id fun j6w (Z5:List (Int×Int×Int)) z7q z91=>Lp2 (fun Qf Zl q7b=>Cnd (Zl<=1000) (InI ((-1:Int) - Zl)/\Cnd ((j6w ((-1:Int) - Zl)).getD false=true) (Sml (Qf++[Zl]).length/\InI (Zl+1)/\q7b (Qf++[Zl]) (Zl+1)) (InI (Zl+1)/\q7b Qf (Zl+1))) (K Qf Z5 z7q z91)) [] (0:Int)) (K [] Qz q27 q5w)
def Rh:Uf:=z0t Uy Bu
abbrev Zg:Type:=List (Nd)->(Nd->Option (Int))->Bool->Int->(Bool->List (Nd)->(Nd->Option (Int))->Bool->Prop)->Prop
def q5z(Qx:J3)(Rw:Uf):Zg:=fun ns ids full id K=>Qx ns ids full id fun Qa (Qz:List (Int×Int×Int)) q27 q5w=>Cnd (Qa=true) (Rw Qz q27 q5w id fun Qc (Z5:List (Int×Int×Int)) z7q z91=>Lp1 (fun Qf j19=>Fits Qc->CAt Qc Qf (fun y4=>Cnd ((1:Int)<y4) (K false Z5 z7q z91) (InI (Qf+1)/\j19 (Qf+1))) (K true Z5 z7q z91)) (0:Int)) (K false Qz q27 q5w)
def Jp:Zg:=q5z Uy Rh
abbrev Wu:Type:=List (Nd)->(Nd->Option (Int))->Bool->Int->(Int->List (Nd)->(Nd->Option (Int))->Bool->Prop)->Prop
def J4:Wu:=fun ns ids full id K=>Cnd (id<0) (K (1001:Int) ns ids full) (At ns id fun y0=>K y0.1 ns ids full)
abbrev Gn:Type:=List (Nd)->(Nd->Option (Int))->Bool->Int->Int->(Int->Int->List (Nd)->(Nd->Option (Int))->Bool->Prop)->Prop
def z3l(Q7:Wu):Gn:=fun ns ids full id test K=>Q7 ns ids full id fun Qa (Qz:List (Int×Int×Int)) q27 q5w=>Cnd (Qa=test) (At Qz id fun y1=>At Qz id fun y3=>K y1.2.1 y3.2.2 Qz q27 q5w) (K id id Qz q27 q5w)
def Wd:Gn:=z3l J4
abbrev W7:Type:=List (Nd)->(Nd->Option (Int))->Bool->Int->Int->Int->(Int->List (Nd)->(Nd->Option (Int))->Bool->Prop)->Prop
def z4d(Qx:J3)(Q7:Wu):W7:=fun ns ids full test yes no K=>Cnd (test<0) (K (-1002:Int) ns ids full) (Cnd ((1000:Int)<test) (K (-1002:Int) ns ids full) (Qx ns ids full yes fun Qa (Qz:List (Int×Int×Int)) q27 q5w=>Cnd (Qa=true) (Qx Qz q27 q5w no fun Qc (Z5:List (Int×Int×Int)) z7q z91=>Cnd (Qc=true) (Q7 Z5 z7q z91 yes fun Qf (Zl:List (Int×Int×Int)) q7b j98=>Cnd (Qf<=test) (K (-1002:Int) Zl q7b j98) (Q7 Zl q7b j98 no fun Qi (H7:List (Int×Int×Int)) w09 v9x=>Cnd (Qi<=test) (K (-1002:Int) H7 w09 v9x) (Cnd (yes=no) (K yes H7 w09 v9x) (Cnd ((w09 (test,yes,no)).isSome=true) (K ((w09 (test,yes,no)).getD (0:Int)) H7 w09 v9x) (Fits H7->Cnd ((4000:Int)<=(↑H7.length:Int)) (K (-1002:Int) H7 w09 true) (Fits H7->Sml (H7++[(test,yes,no)]).length/\((H7++[(test,yes,no)]).length<=(9223372036854775807:Nat)->InI ((↑(H7++[(test,yes,no)]).length:Int) - 1)/\K ((↑(H7++[(test,yes,no)]).length:Int) - 1) (H7++[(test,yes,no)]) (put w09 (test,yes,no) (↑H7.length:Int)) v9x))))))) (K (-1002:Int) Z5 z7q z91)) (K (-1002:Int) Qz q27 q5w)))
def Z7:W7:=z4d Uy J4
abbrev Je:Type:=List (Nd)->(Nd->Option (Int))->Bool->Int->Int->Int->(A3->Option (Int))->(Int->List (Nd)->(Nd->Option (Int))->Bool->(A3->Option (Int))->Prop)->Prop
def Ug(Q7:Wu)(Vk:Gn)(Jn:W7)(X:Je):Je:=fun ns ids full f g h known K=>Cnd (f=(-2:Int)) (K g ns ids full known) (Cnd (g=h) (K g ns ids full known) (Cnd (f=(-1:Int)) (K h ns ids full known) (Cnd ((known (f,g,h)).isSome=true) (K ((known (f,g,h)).getD (0:Int)) ns ids full known) (Q7 ns ids full f fun Qa (Qz:List (Int×Int×Int)) q27 q5w=>Q7 Qz q27 q5w g fun Qc (Z5:List (Int×Int×Int)) z7q z91=>Q7 Z5 z7q z91 h fun Qf (Zl:List (Int×Int×Int)) q7b j98=>Vk Zl q7b j98 f (Min.min (Min.min Qa Qc) Qf) fun Qi H7 (u1t:List (Int×Int×Int)) u1u u1v=>Vk u1t u1u u1v g (Min.min (Min.min Qa Qc) Qf) fun Qe Jr (j2b:List (Int×Int×Int)) y7h u0v=>Vk j2b y7h u0v h (Min.min (Min.min Qa Qc) Qf) fun Ql q7c (u0w:List (Int×Int×Int)) y6y u1w=>X u0w y6y u1w Qi Qe Ql known fun Zp (z0m:List (Int×Int×Int)) v9y w5l u1x=>X z0m v9y w5l H7 Jr q7c u1x fun Js (z7p:List (Int×Int×Int)) y7i y2u u1y=>Jn4 (fun Wb (w8g:List (Int×Int×Int)) u1z u0x=>K Wb w8g u0x u1z (put u1y (f,g,h) Wb)) fun y2s=>Cnd (Zp=(-1002:Int)) (y2s (-1002:Int) z7p y2u y7i) (Cnd (Js=(-1002:Int)) (y2s (-1002:Int) z7p y2u y7i) (Jn z7p y7i y2u (Min.min (Min.min Qa Qc) Qf) Zp Js fun Qr (z67:List (Int×Int×Int)) y6z y32=>y2s Qr z67 y32 y6z))))))
def Ri:Je:=fun ns ids full f g h known K=> ∀X:Je,(∀ns ids full f g h known K,Ug J4 Wd Z7 X ns ids full f g h known K->X ns ids full f g h known K)->X ns ids full f g h known K
abbrev Zy:Type:=List (Nd)->(Nd->Option (Int))->Bool->Int->Int->Int->(Int->List (Nd)->(Nd->Option (Int))->Bool->Prop)->Prop
def z0u(Qq:Zg)(Qx:J3)(Rx:Je):Zy:=fun ns ids full f g h K=>Qq ns ids full f fun Qa (Qz:List (Int×Int×Int)) q27 q5w=>Cnd (Qa=true) (Qx Qz q27 q5w g fun Qc (Z5:List (Int×Int×Int)) z7q z91=>Cnd (Qc=true) (Qx Z5 z7q z91 h fun Qf (Zl:List (Int×Int×Int)) q7b j98=>Cnd (Qf=true) (Rx Zl q7b j98 f g h (fun _=>none) fun Qi (H7:List (Int×Int×Int)) w09 v9x _=>K Qi H7 w09 v9x) (K (-1002:Int) Zl q7b j98)) (K (-1002:Int) Z5 z7q z91)) (K (-1002:Int) Qz q27 q5w)
def Wy:Zy:=z0u Jp Uy Ri
abbrev Bh:Type:=List (Nd)->(Nd->Option (Int))->Bool->Int->(Int->List (Nd)->(Nd->Option (Int))->Bool->Prop)->Prop
def z7x(Q0:Zy):Bh:=fun ns ids full f K=>Q0 ns ids full f (-1:Int) (-2:Int) fun Qa (Qz:List (Int×Int×Int)) q27 q5w=>K Qa Qz q27 q5w
def G3:Bh:=z7x Wy
abbrev Bi:Type:=List (Nd)->(Nd->Option (Int))->Bool->Int->Int->(Int->List (Nd)->(Nd->Option (Int))->Bool->Prop)->Prop
def z7y(Qq:Zg)(Q0:Zy):Bi:=fun ns ids full f g K=>Qq ns ids full g fun Qa (Qz:List (Int×Int×Int)) q27 q5w=>Cnd (Qa=true) (Q0 Qz q27 q5w f g (-1:Int) fun Qc (Z5:List (Int×Int×Int)) z7q z91=>K Qc Z5 z7q z91) (K (-1002:Int) Qz q27 q5w)
def G4:Bi:=z7y Jp Wy
abbrev Uz:Type:=List (Nd)->(Nd->Option (Int))->Bool->Int->Int->(Int->List (Nd)->(Nd->Option (Int))->Bool->Prop)->Prop
def j0r(Qq:Zg)(Q0:Zy):Uz:=fun ns ids full f g K=>Qq ns ids full g fun Qa (Qz:List (Int×Int×Int)) q27 q5w=>Cnd (Qa=true) (Q0 Qz q27 q5w f (-2:Int) g fun Qc (Z5:List (Int×Int×Int)) z7q z91=>K Qc Z5 z7q z91) (K (-1002:Int) Qz q27 q5w)
def U0:Uz:=j0r Jp Wy
abbrev J7:Type:=List (Nd)->(Nd->Option (Int))->Bool->List (Ex)->Ex->(Int->List (Nd)->(Nd->Option (Int))->Bool->Prop)->Prop
def q7n(q4i:Bh)(q4j:Bi)(Wn:Uz)(V4:q0e)(Jn:W7)(X:J7):J7:=fun ns ids full atoms e K=>Cnd (e.1=1) (K (-2:Int) ns ids full) (Cnd (e.1=4) (((0:Int)<=(0:Int)/\(0:Int)<(↑e.5.length:Int))/\ ∀y0,e.5[Int.toNat (0:Int)]? =some y0->X ns ids full atoms (Ex.mk y0.1 y0.2 y0.3 y0.4 y0.5) fun Qf (Zl:List (Int×Int×Int)) q7b j98=>q4i Zl q7b j98 Qf fun Qi (H7:List (Int×Int×Int)) w09 v9x=>K Qi H7 w09 v9x) (Jn1 (fun Qa=>Cnd (Qa=true) (((0:Int)<=(0:Int)/\(0:Int)<(↑e.5.length:Int))/\ ∀y1,e.5[Int.toNat (0:Int)]? =some y1->X ns ids full atoms (Ex.mk y1.1 y1.2 y1.3 y1.4 y1.5) fun Qi (H7:List (Int×Int×Int)) w09 v9x=>Lp5 (fun Qe Jr (j2b:List (Int×Int×Int)) v9z y9s y9t=>Fits e.5->CAt e.5 Jr (fun y6=>X j2b y9s v9z atoms (Ex.mk y6.1 y6.2 y6.3 y6.4 y6.5) fun Wb (w8g:List (Int×Int×Int)) y9u u1m=>Cnd (e.1=2) (q4j w8g y9u u1m Qe Wb fun Qr (z67:List (Int×Int×Int)) y6z y32=>InI (Jr+1)/\y9t Qr (Jr+1) z67 y32 y6z) (Wn w8g y9u u1m Qe Wb fun Qr (z67:List (Int×Int×Int)) y6z y32=>InI (Jr+1)/\y9t Qr (Jr+1) z67 y32 y6z)) (K Qe j2b y9s v9z)) Qi (1:Int) H7 v9x w09) (V4 atoms (Ex.mk e.1 e.2 e.3 e.4 e.5) fun Qc=>Cnd (Qc<0) (K (-1002:Int) ns ids full) (Jn ns ids full Qc (-2:Int) (-1:Int) fun Qf (Zl:List (Int×Int×Int)) q7b j98=>K Qf Zl q7b j98))) fun q4g=>Cnd (e.1=2) (q4g (decide (e.1=2))) (q4g (decide (e.1=3)))))
def q1c:J7:=fun ns ids full atoms e K=> ∀X:J7,(∀ns ids full atoms e K,q7n G3 G4 U0 V2 Z7 X ns ids full atoms e K->X ns ids full atoms e K)->X ns ids full atoms e K
abbrev Jx:Type:=List (Rul)->(List (Int)->Int->Bool->Prop)->Prop
def q29(j2c:j0o)(q2v:Hn)(q2w:J7)(Wn:Uz):Jx:=fun l K=>j2c fun (Qa:List (Int×Int×Int)) q5c z8f=>q2v l fun Qc=>LpH (fun Qf j19=>Fits l->CAt l Qf.2.2.1 (fun y4=>q2w Qf.2.2.2.1 Qf.2.2.2.2.2.1 Qf.2.2.2.2.1 Qc (Ex.mk y4.2.1 y4.2.2 y4.2.3 y4.2.4 y4.2.5) fun Zp (z0m:List (Int×Int×Int)) v9y w5l=>Wn z0m v9y w5l Qf.1 Zp fun Js (z7p:List (Int×Int×Int)) y7i y2u=>Cnd (Js=(-1002:Int)) (Fits z7p->K [] (↑z7p.length:Int) false) (Cnd (Js=Qf.1) (InI (Qf.2.2.1+1)/\Sml (Qf.2.1++[Qf.2.2.1+1]).length/\InI (Qf.2.2.1+1)/\j19 (Js,Qf.2.1++[Qf.2.2.1+1],Qf.2.2.1+1,z7p,y2u,y7i,())) (InI (Qf.2.2.1+1)/\j19 (Js,Qf.2.1,Qf.2.2.1+1,z7p,y2u,y7i,())))) (Fits Qf.2.2.2.1->K Qf.2.1 (↑Qf.2.2.2.1.length:Int) true)) ((-1:Int),[],(0:Int),Qa,z8f,q5c,())
def Uh:Jx:=q29 w6r q1b q1c U0
abbrev z4e:Type:=List (Int)->Int->ByteArray->(Lay_->Int->Prop)->Prop
def j7y(Wa:q06)(Qb:Zf)(Wm:q54):z4e:=fun list at_ key K=>Wa list at_ fun Qa Qz=>Qb list Qz (3:Int) fun Qc Z5=>InI (Qc*50)/\Jn2 (fun Qf Zl=>Jn2 (fun Qi H7=>Lp4 (fun Qe Jr j2b v9z y9s=>Qb list v9z (3:Int) fun Ql q7c=>Cnd (Jr<Ql) (Wm list q7c (3000:Int) fun Zp z0m=>InI (Qe+Zp)/\InI (Qe+Zp+1)/\Wm list z0m (2000:Int) fun Js z7p=>InI (Qe+Zp+1+Js)/\Cnd ((10000:Int)<Qe+Zp+1+Js) (K (Lay_.mk key Qf Qa Qi (Qc*50) j2b) z7p) (Qb list z7p (200:Int) fun Wb w8g=>Sml (j2b++[Col.mk (Qe+Zp) (Qe+Zp+1+Js) Wb]).length/\InI (Jr+1)/\y9s (Qe+Zp+1+Js) (Jr+1) (j2b++[Col.mk (Qe+Zp) (Qe+Zp+1+Js) Wb]) w8g)) (K (Lay_.mk key Qf Qa Qi (Qc*50) j2b) q7c)) (0:Int) (0:Int) [] H7) fun v9q=>Qb list Zl (2:Int) fun Qe Jr=>Cnd (Qe=1) (Wm list Jr (3000:Int) fun Ql q7c=>v9q Ql q7c) (v9q (0:Int) Jr)) fun w8f=>Qb list Z5 (4:Int) fun Qi H7=>Cnd (Qi=1) (w8f (ByteArray.mk (Array.mk [100,101,118,105,99,101])) H7) (w8f (ByteArray.mk (Array.mk [117,115,101,114])) H7)
def j0s:z4e:=j7y z1o J2 z6h
abbrev z6k:Type:=Int->(Bool->Prop)->Prop
def z6l:z6k:=fun now K=>Cnd ((0:Int)<=now) (K (decide (now<=1099511627776))) (K false)
abbrev Vn:Type:=Envt->ByteArray->(Int->Prop)->Prop
def q1d:Vn:=fun v key K=>Lp1 (fun Qa q5c=>Fits v.5->CAt v.5 Qa (fun y2=>Cnd (y2.1=key) (K Qa) (InI (Qa+1)/\q5c (Qa+1))) (K (-1:Int))) (0:Int)
abbrev q1e:Type:=List (Col)->Int->(List (Int)->Prop)->Prop
def q1f:q1e:=fun l now K=>((0:Int)<=(10000:Int)/\(10000:Int)<=(10000:Int)/\Sml (Int.toNat (10000:Int)))/\Lp2 (fun Qa Qz q27=>Fits Qz->CAt Qz Qa (fun _=>InI (Qa+1)/\q27 (Qa+1) (Qz.set Qa.toNat now)) (Lp2 (fun Qf Zl q7b=>Fits l->CAt l Qf (fun y4=>Lp2 (fun Zp z0m v9y=>At l Qf fun y7=>Cnd (Zp<Min.min y7.2 (10000:Int)) (At z0m Zp fun y9=>At l Qf fun y11=>At z0m Zp fun _=>InI (Zp+1)/\v9y (Zp+1) (z0m.set Zp.toNat (Max.max y9 y11.3))) (InI (Qf+1)/\q7b (Qf+1) z0m)) (Max.max y4.1 (0:Int)) Zl) (K Zl)) (0:Int) Qz)) (0:Int) (List.replicate (Int.toNat (10000:Int)) (0:Int))
abbrev We:Type:=List (Bool)->(List (Spn)->Prop)->Prop
def Ho:We:=fun set_ K=>Lp2 (fun Qa Qz q27=>Fits set_->CAt set_ Qz (fun y2=>Cnd (y2=true) (Cnd ((0:Int)<Qz) (InI (Qz - 1)/\((0:Int)<=Qz - 1/\Qz - 1<(↑set_.length:Int))/\ ∀y4,set_[(Qz - 1).toNat]? =some y4->Cnd (y4=true) (Fits Qa->InI ((↑Qa.length:Int) - 1)/\InI (Qz+1)/\((0:Int)<=(↑Qa.length:Int) - 1/\(↑Qa.length:Int) - 1<(↑Qa.length:Int))/\ ∀y7,Qa[((↑Qa.length:Int) - 1).toNat]? =some y7->InI (Qz+1)/\q27 (Qa.set ((↑Qa.length:Int) - 1).toNat (Spn.mk y7.1 (Qz+1))) (Qz+1)) (InI (Qz+1)/\Sml (Qa++[Spn.mk Qz (Qz+1)]).length/\InI (Qz+1)/\q27 (Qa++[Spn.mk Qz (Qz+1)]) (Qz+1))) (InI (Qz+1)/\Sml (Qa++[Spn.mk Qz (Qz+1)]).length/\InI (Qz+1)/\q27 (Qa++[Spn.mk Qz (Qz+1)]) (Qz+1))) (InI (Qz+1)/\q27 Qa (Qz+1))) (K Qa)) [] (0:Int)
abbrev q7o:Type:=List (Int)->Int->(List (Spn)->Prop)->Prop
def z8p(Q4:We):q7o:=fun until_ now K=>Fits until_->((0:Int)<=(↑until_.length:Int)/\(↑until_.length:Int)<=(↑until_.length:Int)/\Sml (↑until_.length:Int).toNat)/\Lp2 (fun Qc Z5 z7q=>Fits until_->CAt until_ Qc (fun y3=>At Z5 Qc fun _=>InI (Qc+1)/\z7q (Qc+1) (Z5.set Qc.toNat (decide (now<y3)))) (Q4 Z5 fun Qi=>K Qi)) (0:Int) (List.replicate (↑until_.length:Int).toNat false)
def z1r:q7o:=z8p Ho
abbrev Bj:Type:=List (Spn)->(List (Bool)->Prop)->Prop
def q7p:Bj:=fun l K=>((0:Int)<=(10000:Int)/\(10000:Int)<=(10000:Int)/\Sml (Int.toNat (10000:Int)))/\Lp2 (fun Qa Qz q27=>Fits l->CAt l Qa (fun y2=>Lp2 (fun Qe Jr w8h=>At l Qa fun y5=>Cnd (Qe<Min.min y5.2 (10000:Int)) (At Jr Qe fun _=>InI (Qe+1)/\w8h (Qe+1) (Jr.set Qe.toNat true)) (InI (Qa+1)/\q27 (Qa+1) Jr)) (Max.max y2.1 (0:Int)) Qz) (K Qz)) (0:Int) (List.replicate (Int.toNat (10000:Int)) false)
abbrev q7q:Type:=List (Spn)->List (Spn)->(List (Spn)->Prop)->Prop
def z8q(Z3:Bj)(Q4:We):q7q:=fun a b K=>Z3 a fun Qa=>Z3 b fun Qc=>Lp2 (fun Qf Zl q7b=>Fits Zl->CAt Zl Qf (fun y4=>Cnd (y4=true) (At Zl Qf fun _=>InI (Qf+1)/\q7b (Qf+1) (Zl.set Qf.toNat true)) (At Qc Qf fun y6=>At Zl Qf fun _=>InI (Qf+1)/\q7b (Qf+1) (Zl.set Qf.toNat y6))) (Q4 Zl fun Qe=>K Qe)) (0:Int) Qa
def z1s:q7q:=z8q q7p Ho
abbrev q7r:Type:=Envt->ByteArray->ByteArray->Int->(List (Spn)->Prop)->Prop
def z8r(Zt:Vn)(q0s:q7q)(H8:q1e)(q3x:q7o):q7r:=fun v layer but now K=>Zt (Envt.mk (Sett.mk v.1.1 v.1.2 v.1.3) v.2 v.3 v.4 v.5 v.6) layer fun Qa=>Cnd (Qa<0) (K []) (Jn1 (fun Qc=>Lp2 (fun Qf Zl q7b=>Fits v.6->CAt v.6 Zl (fun y4=>Cnd (y4.2=layer) (Cnd (y4.1=but) (InI (Zl+1)/\q7b Qf (Zl+1)) (Cnd (y4.5=3) (InI (Zl+1)/\q7b Qf (Zl+1)) (q0s Qf y4.6 fun Zp=>InI (Zl+1)/\q7b Zp (Zl+1)))) (InI (Zl+1)/\q7b Qf (Zl+1))) (K Qf)) Qc (0:Int)) fun j6w=>At v.5 Qa fun y2=>At v.5 Qa fun y4=>(H8 y4.6 now fun Zp=>q3x Zp now fun Js=>q0s [Spn.mk (0:Int) y2.4] Js fun Wb=>j6w Wb)/\H8 y4.6 now fun Zp=>(q3x Zp now fun Js=>q0s [Spn.mk (0:Int) y2.4] Js fun Wb=>j6w Wb)/\q3x Zp now fun Js=>q0s [Spn.mk (0:Int) y2.4] Js fun Wb=>j6w Wb)
def z1t:q7r:=z8r q1d z1s q1f z1r
abbrev q0f:Type:=List (Spn)->List (Spn)->(List (Spn)->Prop)->Prop
def z8s(Z3:Bj)(Q4:We):q0f:=fun a b K=>Z3 a fun Qa=>Z3 b fun Qc=>Lp2 (fun Qf Zl q7b=>Fits Zl->CAt Zl Qf (fun y4=>Cnd (y4=true) (At Qc Qf fun y6=>At Zl Qf fun _=>InI (Qf+1)/\q7b (Qf+1) (Zl.set Qf.toNat (match decide ((flC C.bool y6).1=true) with|true=>false|false=>true))) (At Zl Qf fun _=>InI (Qf+1)/\q7b (Qf+1) (Zl.set Qf.toNat false))) (Q4 Zl fun Qe=>K Qe)) (0:Int) Qa
def q7s:q0f:=z8s q7p Ho
abbrev z0v:Type:=Envt->ByteArray->Int->(List (Spn)->Int->Prop)->Prop
def j22(z68:z6k)(Zt:Vn)(z3a:q7r)(Gi:q0f):z0v:=fun v layer now K=>z68 now fun Qa=>Cnd (Qa=true) (Zt (Envt.mk (Sett.mk v.1.1 v.1.2 v.1.3) v.2 v.3 v.4 v.5 v.6) layer fun Qc=>Cnd (Qc<0) (K [] (11:Int)) (z3a (Envt.mk (Sett.mk v.1.1 v.1.2 v.1.3) v.2 v.3 v.4 v.5 v.6) layer (ByteArray.mk (Array.mk [])) now fun Qf=>Gi [Spn.mk (0:Int) (10000:Int)] Qf fun Qi=>K Qi (0:Int))) (K [] (3:Int))
def z6m:z0v:=j22 z6l q1d z1t q7s
abbrev q7t:Type:=List (Spn)->Int->(List (Spn)->Prop)->Prop
def z8t(Z3:Bj)(Q4:We):q7t:=fun l n K=>Z3 l fun Qa=>Lp3 (fun Qc Z5 z52 v9p=>Fits z52->CAt z52 Z5 (fun y3=>Cnd (y3=true) (Cnd (Qc<=0) (At z52 Z5 fun _=>InI (Z5+1)/\v9p Qc (Z5+1) (z52.set Z5.toNat false)) (At z52 Z5 fun y5=>Cnd (y5=true) (InI (Qc - 1)/\InI (Z5+1)/\v9p (Qc - 1) (Z5+1) z52) (InI (Z5+1)/\v9p Qc (Z5+1) z52))) (At z52 Z5 fun y5=>Cnd (y5=true) (InI (Qc - 1)/\InI (Z5+1)/\v9p (Qc - 1) (Z5+1) z52) (InI (Z5+1)/\v9p Qc (Z5+1) z52))) (Q4 z52 fun Qi=>K Qi)) n (0:Int) Qa
def z1u:q7t:=z8t q7p Ho
abbrev Vo:Type:=ByteArray->(Bool->Prop)->Prop
def Vp(s:ByteArray)(K:Bool->Prop):Prop:=s.size<=(9223372036854775807:Nat)/\K (Go.Lib.validD s.data.toList)
abbrev Jf:Type:=ByteArray->(Bool->Prop)->Prop
def z6n(Zu:Vo):Jf:=fun s K=>Cnd ((200:Int)<(↑s.size:Int)) (K false) (Zu s fun Qa=>Cnd (Qa=true) (Lp1 (fun Qc Ry=>Cnd (Qc<(↑s.size:Int)) (((0:Int)<=Qc/\Qc<(↑s.size:Int))/\ ∀b2,s[Qc.toNat]? =some b2->Cnd ((↑b2.toNat:Int)<32) (K false) (((0:Int)<=Qc/\Qc<(↑s.size:Int))/\ ∀b4,s[Qc.toNat]? =some b4->Cnd ((↑b4.toNat:Int)=127) (K false) (InI (Qc+1)/\Ry (Qc+1)))) (K true)) (0:Int)) (K false))
def Vj:Jf:=z6n Vp
abbrev j0t:Type:=ByteArray->(Bool->Prop)->Prop
def j0u:j0t:=fun s K=>Lp1 (fun Qa q5c=>Cnd (Qa<(↑s.size:Int)) (((0:Int)<=Qa/\Qa<(↑s.size:Int))/\ ∀b1,s[Qa.toNat]? =some b1->Cnd ((97:Int)<=(↑b1.toNat:Int)) (Cnd ((↑b1.toNat:Int)<=122) (InI (Qa+1)/\q5c (Qa+1)) (Cnd (Qa=0) (K false) (Cnd ((48:Int)<=(↑b1.toNat:Int)) (Cnd ((↑b1.toNat:Int)<=57) (InI (Qa+1)/\q5c (Qa+1)) (Cnd ((↑b1.toNat:Int)=45) (InI (Qa+1)/\q5c (Qa+1)) (Cnd ((↑b1.toNat:Int)=95) (InI (Qa+1)/\q5c (Qa+1)) (K false)))) (Cnd ((↑b1.toNat:Int)=45) (InI (Qa+1)/\q5c (Qa+1)) (Cnd ((↑b1.toNat:Int)=95) (InI (Qa+1)/\q5c (Qa+1)) (K false)))))) (Cnd (Qa=0) (K false) (Cnd ((48:Int)<=(↑b1.toNat:Int)) (Cnd ((↑b1.toNat:Int)<=57) (InI (Qa+1)/\q5c (Qa+1)) (Cnd ((↑b1.toNat:Int)=45) (InI (Qa+1)/\q5c (Qa+1)) (Cnd ((↑b1.toNat:Int)=95) (InI (Qa+1)/\q5c (Qa+1)) (K false)))) (Cnd ((↑b1.toNat:Int)=45) (InI (Qa+1)/\q5c (Qa+1)) (Cnd ((↑b1.toNat:Int)=95) (InI (Qa+1)/\q5c (Qa+1)) (K false)))))) (K (decide ((0:Int)<(↑s.size:Int))))) (0:Int)
abbrev q55:Type:=(List (ByteArray)->Prop)->Prop
def q56:q55:=fun K=>K [ByteArray.mk (Array.mk [97,110,100]),ByteArray.mk (Array.mk [97,114,109,115]),ByteArray.mk (Array.mk [97,116,116,114,105,98,117,116,101]),ByteArray.mk (Array.mk [98,111,111,108]),ByteArray.mk (Array.mk [99,108,97,105,109,115]),ByteArray.mk (Array.mk [99,111,110,116,97,105,110,115]),ByteArray.mk (Array.mk [99,111,111,108]),ByteArray.mk (Array.mk [99,111,111,108,105,110,103]),ByteArray.mk (Array.mk [100,101,102,97,117,108,116]),ByteArray.mk (Array.mk [100,114,97,102,116]),ByteArray.mk (Array.mk [101,110,100,115]),ByteArray.mk (Array.mk [101,120,99,108,117,100,101]),ByteArray.mk (Array.mk [101,120,105,115,116,115]),ByteArray.mk (Array.mk [101,120,112,101,114,105,109,101,110,116]),ByteArray.mk (Array.mk [102,97,108,115,101]),ByteArray.mk (Array.mk [102,108,97,103]),ByteArray.mk (Array.mk [104,111,108,100,111,117,116]),ByteArray.mk (Array.mk [105,110]),ByteArray.mk (Array.mk [105,110,99,108,117,100,101]),ByteArray.mk (Array.mk [105,115]),ByteArray.mk (Array.mk [108,97,121,101,114]),ByteArray.mk (Array.mk [108,105,115,116]),ByteArray.mk (Array.mk [109,101,109,98,101,114]),ByteArray.mk (Array.mk [110,101,101,100,115]),ByteArray.mk (Array.mk [110,111,116]),ByteArray.mk (Array.mk [110,117,109,98,101,114]),ByteArray.mk (Array.mk [111,102,102]),ByteArray.mk (Array.mk [111,110]),ByteArray.mk (Array.mk [111,114]),ByteArray.mk (Array.mk [114,117,108,101]),ByteArray.mk (Array.mk [114,117,110,110,105,110,103]),ByteArray.mk (Array.mk [115,97,108,116]),ByteArray.mk (Array.mk [115,101,103,109,101,110,116]),ByteArray.mk (Array.mk [115,101,114,118,101]),ByteArray.mk (Array.mk [115,101,116,116,105,110,103,115]),ByteArray.mk (Array.mk [115,112,108,105,116]),ByteArray.mk (Array.mk [115,116,97,114,116,115]),ByteArray.mk (Array.mk [115,116,111,112,112,101,100]),ByteArray.mk (Array.mk [116,97,114,103,101,116]),ByteArray.mk (Array.mk [116,101,120,116]),ByteArray.mk (Array.mk [116,111]),ByteArray.mk (Array.mk [116,114,117,101]),ByteArray.mk (Array.mk [117,110,116,105,108]),ByteArray.mk (Array.mk [118,97,114,105,97,116,105,111,110,115]),ByteArray.mk (Array.mk [118,101,114,115,105,111,110]),ByteArray.mk (Array.mk [119,104,101,110])]
abbrev Jb:Type:=ByteArray->(Bool->Prop)->Prop
def w3p(j2d:j0t)(q6r:q55):Jb:=fun s K=>j2d s fun Qa=>Cnd (Qa=true) (Cnd ((32:Int)<(↑s.size:Int)) (K false) (q6r fun Qc=>Lp1 (fun Qf j19=>Fits Qc->CAt Qc Qf (fun y4=>Cnd (y4=s) (K false) (InI (Qf+1)/\j19 (Qf+1))) (K true)) (0:Int))) (K false)
def G8:Jb:=w3p j0u q56
abbrev q1g:Type:=Sett->(Int->Prop)->Prop
def z1v(Qt:Jf)(Qm:Jb):q1g:=fun s K=>Qt s.1 fun Qa=>Cnd (Qa=true) (Cnd (s.3<0) (K (3:Int)) (Cnd ((10000:Int)<s.3) (K (3:Int)) (Qm s.2 fun Qc=>Cnd (Qc=true) (K (0:Int)) (Cnd (s.2=ByteArray.mk (Array.mk [])) (Cnd (s.3=0) (K (0:Int)) (K (6:Int))) (K (6:Int)))))) (K (2:Int))
def q57:q1g:=z1v Vj G8
abbrev q1h:Type:=List (Decl)->(Int->Prop)->Prop
def z1w(Qm:Jb):q1h:=fun l K=>Fits l->Cnd ((30:Int)<(↑l.length:Int)) (K (5:Int)) (Lp1 (fun Qc Ry=>Fits l->CAt l Qc (fun y3=>Qm y3.1 fun Ql=>Cnd (Ql=true) (At l Qc fun y6=>Qm y6.2 fun Wb=>Cnd (Wb=true) (At l Qc fun y9=>Cnd (y9.2=ByteArray.mk (Array.mk [107,101,121])) (K (6:Int)) (At l Qc fun y11=>Cnd (y11.3<1) (K (7:Int)) (At l Qc fun y13=>Cnd ((5:Int)<y13.3) (K (7:Int)) (Cnd ((0:Int)<Qc) (At l Qc fun y15=>InI (Qc - 1)/\((0:Int)<=Qc - 1/\Qc - 1<(↑l.length:Int))/\ ∀y17,l[(Qc - 1).toNat]? =some y17->Cnd (Lk.blt y15.1 y17.1) (K (9:Int)) (At l Qc fun y19=>InI (Qc - 1)/\((0:Int)<=Qc - 1/\Qc - 1<(↑l.length:Int))/\ ∀y21,l[(Qc - 1).toNat]? =some y21->Cnd (y19.1=y21.1) (At l Qc fun y23=>InI (Qc - 1)/\((0:Int)<=Qc - 1/\Qc - 1<(↑l.length:Int))/\ ∀y25,l[(Qc - 1).toNat]? =some y25->Cnd (Lk.blt y25.2 y23.2) (InI (Qc+1)/\Ry (Qc+1)) (K (9:Int))) (InI (Qc+1)/\Ry (Qc+1)))) (InI (Qc+1)/\Ry (Qc+1)))))) (K (6:Int))) (K (6:Int))) (K (0:Int))) (0:Int))
def q58:q1h:=z1w G8
abbrev Hp:Type:=List (ByteArray)->(Int->Prop)->Prop
def z4f(Qt:Jf):Hp:=fun l K=>Fits l->Cnd ((40:Int)<(↑l.length:Int)) (K (5:Int)) (Lp1 (fun Qc Ry=>Fits l->CAt l Qc (fun y3=>Cnd (y3=ByteArray.mk (Array.mk [])) (K (2:Int)) (At l Qc fun y5=>Qt y5 fun Js=>Cnd (Js=true) (Cnd ((0:Int)<Qc) (At l Qc fun y8=>InI (Qc - 1)/\((0:Int)<=Qc - 1/\Qc - 1<(↑l.length:Int))/\ ∀y10,l[(Qc - 1).toNat]? =some y10->Cnd (Lk.blt y10 y8) (InI (Qc+1)/\Ry (Qc+1)) (K (9:Int))) (InI (Qc+1)/\Ry (Qc+1))) (K (2:Int)))) (K (0:Int))) (0:Int))
def q4v:Hp:=z4f Vj
abbrev j0v:Type:=Ex->(Bool->Prop)->Prop
def j0w:j0v:=fun e K=>Cnd (e.1=0) (Cnd (e.2=ByteArray.mk (Array.mk [])) (Cnd (e.3=ByteArray.mk (Array.mk [])) (Fits e.4->Cnd ((↑e.4.length:Int)=0) (Fits e.5->K (decide ((↑e.5.length:Int)=0))) (K false)) (K false)) (K false)) (K false)
abbrev q7u:Type:=Ex->(Bool->Prop)->Prop
def z8u(Q1:W6):q7u:=fun e K=>Fits e.5->Fits e.4->Jn2 (fun Qf Zl=>Q1 e.1 fun Qi=>Cnd (Qf=true) (Cnd (Zl=true) (Cnd (Qi=true) (Cnd (Qi=true) (K true) (Cnd (e.1=5) (K true) (K (decide (e.3=ByteArray.mk (Array.mk [])))))) (Cnd (e.2=ByteArray.mk (Array.mk [])) (Cnd (Qi=true) (K true) (Cnd (e.1=5) (K true) (K (decide (e.3=ByteArray.mk (Array.mk [])))))) (K false))) (K false)) (K false)) fun w8f=>Cnd (e.1=2) (Fits e.5->w8f (decide ((2:Int)<=(↑e.5.length:Int))) (decide ((↑e.4.length:Int)=0))) (Cnd (e.1=3) (Fits e.5->w8f (decide ((2:Int)<=(↑e.5.length:Int))) (decide ((↑e.4.length:Int)=0))) (Cnd (e.1=4) (Fits e.5->w8f (decide ((↑e.5.length:Int)=1)) (decide ((↑e.4.length:Int)=0))) (Cnd (e.1=8) (Fits e.4->w8f (decide ((↑e.5.length:Int)=0)) (decide ((0:Int)<(↑e.4.length:Int)))) (Q1 e.1 fun Qi=>Cnd (Qi=true) (Cnd (e.1=6) (w8f (decide ((↑e.5.length:Int)=0)) (decide ((↑e.4.length:Int)=0))) (Fits e.4->w8f (decide ((↑e.5.length:Int)=0)) (decide ((↑e.4.length:Int)=1)))) (w8f (decide ((↑e.5.length:Int)=0)) (decide ((↑e.4.length:Int)=0)))))))
def z1x:q7u:=z8u Jw
abbrev z6o:Type:=Val->(Bool->Prop)->Prop
def q66:z6o:=fun v K=>Cnd (v.1=1) (Cnd (v.1=3) (Cnd (v.1=5) (K true) (Fits v.4->K (decide ((↑v.4.length:Int)=0)))) (Cnd (v.1=4) (Cnd (v.1=5) (K true) (Fits v.4->K (decide ((↑v.4.length:Int)=0)))) (Cnd (v.3=ByteArray.mk (Array.mk [])) (Cnd (v.1=5) (K true) (Fits v.4->K (decide ((↑v.4.length:Int)=0)))) (K false)))) (Cnd (v.1=3) (Cnd (v.1=2) (Cnd (v.1=5) (K true) (Fits v.4->K (decide ((↑v.4.length:Int)=0)))) (Cnd (v.2=0) (Cnd (v.1=5) (K true) (Fits v.4->K (decide ((↑v.4.length:Int)=0)))) (K false))) (Cnd (v.1=2) (Cnd (v.1=4) (Cnd (v.1=5) (K true) (Fits v.4->K (decide ((↑v.4.length:Int)=0)))) (Cnd (v.3=ByteArray.mk (Array.mk [])) (Cnd (v.1=5) (K true) (Fits v.4->K (decide ((↑v.4.length:Int)=0)))) (K false))) (Cnd (v.2=0) (Cnd (v.1=4) (Cnd (v.1=5) (K true) (Fits v.4->K (decide ((↑v.4.length:Int)=0)))) (Cnd (v.3=ByteArray.mk (Array.mk [])) (Cnd (v.1=5) (K true) (Fits v.4->K (decide ((↑v.4.length:Int)=0)))) (K false))) (K false))))
abbrev Bv:Type:=ByteArray->(Int->Int->Prop)->Prop
def Wf:Bv:=fun s K=>Jn1 (fun Qa=>Lp1 (fun Qc Ry=>Cnd (Qc<(↑Qa.size:Int)) (((0:Int)<=Qc/\Qc<(↑Qa.size:Int))/\ ∀b2,Qa[Qc.toNat]? =some b2->Cnd ((↑b2.toNat:Int)<48) (K (0:Int) (1:Int)) (((0:Int)<=Qc/\Qc<(↑Qa.size:Int))/\ ∀b4,Qa[Qc.toNat]? =some b4->Cnd ((57:Int)<(↑b4.toNat:Int)) (K (0:Int) (1:Int)) (InI (Qc+1)/\Ry (Qc+1)))) (Cnd (Qa=ByteArray.mk (Array.mk [])) (K (0:Int) (1:Int)) (((0:Int)<=(0:Int)/\(0:Int)<(↑Qa.size:Int))/\ ∀b2,Qa[Int.toNat (0:Int)]? =some b2->Cnd ((↑b2.toNat:Int)=48) (Cnd (s=ByteArray.mk (Array.mk [48])) (Cnd ((13:Int)<(↑Qa.size:Int)) (K (0:Int) (3:Int)) (Lp2 (fun Qe Jr w8h=>Cnd (Jr<(↑Qa.size:Int)) (InI ((10:Int)*Qe)/\((0:Int)<=Jr/\Jr<(↑Qa.size:Int))/\ ∀b5,Qa[Jr.toNat]? =some b5->InI (Go.IntKind.u8.wrap ((↑b5.toNat:Int) - 48))/\InI ((10:Int)*Qe+Go.IntKind.u8.wrap ((↑b5.toNat:Int) - 48))/\InI (Jr+1)/\w8h ((10:Int)*Qe+Go.IntKind.u8.wrap ((↑b5.toNat:Int) - 48)) (Jr+1)) (Cnd ((1099511627776:Int)<Qe) (K (0:Int) (3:Int)) (Cnd ((↑Qa.size:Int)<(↑s.size:Int)) (InI ((0:Int) - Qe)/\K ((0:Int) - Qe) (0:Int)) (K Qe (0:Int))))) (0:Int) (0:Int))) (K (0:Int) (1:Int))) (Cnd ((13:Int)<(↑Qa.size:Int)) (K (0:Int) (3:Int)) (Lp2 (fun Qe Jr w8h=>Cnd (Jr<(↑Qa.size:Int)) (InI ((10:Int)*Qe)/\((0:Int)<=Jr/\Jr<(↑Qa.size:Int))/\ ∀b5,Qa[Jr.toNat]? =some b5->InI (Go.IntKind.u8.wrap ((↑b5.toNat:Int) - 48))/\InI ((10:Int)*Qe+Go.IntKind.u8.wrap ((↑b5.toNat:Int) - 48))/\InI (Jr+1)/\w8h ((10:Int)*Qe+Go.IntKind.u8.wrap ((↑b5.toNat:Int) - 48)) (Jr+1)) (Cnd ((1099511627776:Int)<Qe) (K (0:Int) (3:Int)) (Cnd ((↑Qa.size:Int)<(↑s.size:Int)) (InI ((0:Int) - Qe)/\K ((0:Int) - Qe) (0:Int)) (K Qe (0:Int))))) (0:Int) (0:Int)))))) (0:Int)) fun q4g=>Cnd ((0:Int)<(↑s.size:Int)) (((0:Int)<=(0:Int)/\(0:Int)<(↑s.size:Int))/\ ∀b1,s[Int.toNat (0:Int)]? =some b1->Cnd ((↑b1.toNat:Int)=45) (((0:Int)<=(1:Int)/\(1:Int)<=(↑s.size:Int)/\(↑s.size:Int)<=(↑s.size:Int))/\q4g (s.extract (Int.toNat (1:Int)) (↑s.size:Int).toNat)) (q4g s)) (q4g s)
abbrev q67:Type:=ByteArray->(A3->Bool->Prop)->Prop
def z6p(G1:Bv):q67:=fun s K=>LpH (fun (Qa:Int×Int×Int×Int×Int×Int×Int×Int×Unit) q5c=>Cnd (Qa.2.1<3) (Lp1 (fun Qc Ry=>Cnd (Qc<(↑s.size:Int)) (((0:Int)<=Qc/\Qc<(↑s.size:Int))/\ ∀b2,s[Qc.toNat]? =some b2->Cnd ((↑b2.toNat:Int)=46) (((0:Int)<=Qa.1/\Qa.1<=Qc/\Qc<=(↑s.size:Int))/\G1 (s.extract Qa.1.toNat Qc.toNat) fun Qe Jr=>Cnd (Jr=0) (Cnd (Qe<0) (K ((0:Int),(0:Int),(0:Int)) false) (Cnd ((999999:Int)<Qe) (K ((0:Int),(0:Int),(0:Int)) false) (Cnd (decide (Qa.2.1<2)=decide (Qc<(↑s.size:Int))) (((0:Int)<=Qa.2.1/\Qa.2.1<(↑(3:Nat):Int))/\((True/\(Qa.2.1=(↑(nat_lit 0):Int)->InI (Qc+1)/\InI (Qa.2.1+1)/\q5c (Qc+1,Qa.2.1+1,Qe,Qa.2.2.2.1,Qa.2.2.2.2.1,Qa.2.2.2.2.2.1,Qa.2.2.2.2.2.2.1,Qa.2.2.2.2.2.2.2.1,())))/\(Qa.2.1=(↑(nat_lit 1):Int)->InI (Qc+1)/\InI (Qa.2.1+1)/\q5c (Qc+1,Qa.2.1+1,Qa.2.2.1,Qe,Qa.2.2.2.2.1,Qa.2.2.2.2.2.1,Qa.2.2.2.2.2.2.1,Qa.2.2.2.2.2.2.2.1,())))/\(Qa.2.1=(↑(nat_lit 2):Int)->InI (Qc+1)/\InI (Qa.2.1+1)/\q5c (Qc+1,Qa.2.1+1,Qa.2.2.1,Qa.2.2.2.1,Qe,Qa.2.2.2.2.2.1,Qa.2.2.2.2.2.2.1,Qa.2.2.2.2.2.2.2.1,()))) (K ((0:Int),(0:Int),(0:Int)) false)))) (K ((0:Int),(0:Int),(0:Int)) false)) (InI (Qc+1)/\Ry (Qc+1))) (((0:Int)<=Qa.1/\Qa.1<=Qc/\Qc<=(↑s.size:Int))/\G1 (s.extract Qa.1.toNat Qc.toNat) fun Qf Zl=>Cnd (Zl=0) (Cnd (Qf<0) (K ((0:Int),(0:Int),(0:Int)) false) (Cnd ((999999:Int)<Qf) (K ((0:Int),(0:Int),(0:Int)) false) (Cnd (decide (Qa.2.1<2)=decide (Qc<(↑s.size:Int))) (((0:Int)<=Qa.2.1/\Qa.2.1<(↑(3:Nat):Int))/\((True/\(Qa.2.1=(↑(nat_lit 0):Int)->InI (Qc+1)/\InI (Qa.2.1+1)/\q5c (Qc+1,Qa.2.1+1,Qf,Qa.2.2.2.1,Qa.2.2.2.2.1,Qa.2.2.2.2.2.1,Qa.2.2.2.2.2.2.1,Qa.2.2.2.2.2.2.2.1,())))/\(Qa.2.1=(↑(nat_lit 1):Int)->InI (Qc+1)/\InI (Qa.2.1+1)/\q5c (Qc+1,Qa.2.1+1,Qa.2.2.1,Qf,Qa.2.2.2.2.1,Qa.2.2.2.2.2.1,Qa.2.2.2.2.2.2.1,Qa.2.2.2.2.2.2.2.1,())))/\(Qa.2.1=(↑(nat_lit 2):Int)->InI (Qc+1)/\InI (Qa.2.1+1)/\q5c (Qc+1,Qa.2.1+1,Qa.2.2.1,Qa.2.2.2.1,Qf,Qa.2.2.2.2.2.1,Qa.2.2.2.2.2.2.1,Qa.2.2.2.2.2.2.2.1,()))) (K ((0:Int),(0:Int),(0:Int)) false)))) (K ((0:Int),(0:Int),(0:Int)) false))) Qa.1) (K (Qa.2.2.1,Qa.2.2.2.1,Qa.2.2.2.2.1) true)) ((0:Int),(0:Int),(0:Int),(0:Int),(0:Int),(0:Int),(0:Int),(0:Int),())
def q3a:q67:=z6p Wf
abbrev z4g:Type:=List (ByteArray)->(Int->Prop)->Prop
def j0x(Qt:Jf):z4g:=fun l K=>Fits l->Cnd ((20:Int)<(↑l.length:Int)) (K (5:Int)) (Lp1 (fun Qc Ry=>Fits l->CAt l Qc (fun y3=>Qt y3 fun Ql=>Cnd (Ql=true) (InI (Qc+1)/\Ry (Qc+1)) (K (2:Int))) (Lp1 (fun Qi z92=>Fits l->CAt l Qi (fun y5=>InI (Qi - 1)/\((0:Int)<=Qi - 1/\Qi - 1<(↑l.length:Int))/\ ∀y7,l[(Qi - 1).toNat]? =some y7->Cnd (Lk.blt y7 y5) (InI (Qi+1)/\z92 (Qi+1)) (K (9:Int))) (K (0:Int))) (1:Int))) (0:Int))
def z0w:z4g:=j0x Vj
abbrev q0x:Type:=Val->(Int->Prop)->Prop
def z6q(z69:z6o)(Qt:Jf)(q3y:q67)(j2e:z4g):q0x:=fun v K=>Cnd (v.1<1) (K (7:Int)) (Cnd ((5:Int)<v.1) (K (7:Int)) (z69 v fun Qa=>Cnd (Qa=true) (Cnd (v.1=1) (Cnd (v.2=0) (K (0:Int)) (Cnd (v.2=1) (K (0:Int)) (K (3:Int)))) (Cnd (v.1=2) (Cnd (v.2<(-1099511627776:Int)) (K (3:Int)) (Cnd ((1099511627776:Int)<v.2) (K (3:Int)) (K (0:Int)))) (Cnd (v.1=3) (Qt v.3 fun Qc=>Cnd (Qc=true) (K (0:Int)) (K (2:Int))) (Cnd (v.1=4) (q3y v.3 fun (_:Int×Int×Int) Z5=>Cnd (Z5=true) (K (0:Int)) (K (1:Int))) (Cnd (v.1=5) (j2e v.4 fun Qc=>K Qc) (K (0:Int))))))) (K (15:Int))))
def q0y:q0x:=z6q q66 Vj q3a z0w
abbrev z4h:Type:=Ex->(Int->Prop)->Prop
def j7z(z3b:q7u)(Q1:W6)(Qm:Jb)(Jg:q0x):z4h:=fun e K=>Cnd (e.1<1) (K (7:Int)) (Cnd ((15:Int)<e.1) (K (7:Int)) (z3b (Ex.mk e.1 e.2 e.3 e.4 e.5) fun Qa=>Cnd (Qa=true) (Fits e.5->Cnd ((12:Int)<(↑e.5.length:Int)) (K (5:Int)) (Fits e.4->Cnd ((20:Int)<(↑e.4.length:Int)) (K (5:Int)) (Lp1 (fun Qi z92=>Fits e.5->CAt e.5 Qi (fun y5=>Cnd (y5.1=e.1) (Cnd (e.1=4) (InI (Qi+1)/\z92 (Qi+1)) (K (15:Int))) (InI (Qi+1)/\z92 (Qi+1))) (Q1 e.1 fun Ql=>Cnd (Ql=true) (Qm e.2 fun Zp=>Cnd (Zp=true) (Q1 e.1 fun Js=>Cnd (Js=true) (Qm e.3 fun Wb=>Cnd (Wb=true) (Lp1 (fun Qr y60=>Fits e.4->CAt e.4 Qr (fun y11=>Jg y11 fun Q8=>Cnd (Q8=0) (InI (Qr+1)/\y60 (Qr+1)) (K Q8)) (Cnd (e.1=9) (((0:Int)<=(0:Int)/\(0:Int)<(↑e.4.length:Int))/\ ∀y11,e.4[Int.toNat (0:Int)]? =some y11->Cnd (y11.1=3) (K (0:Int)) (K (8:Int))) (Cnd (e.1=10) (((0:Int)<=(0:Int)/\(0:Int)<(↑e.4.length:Int))/\ ∀y11,e.4[Int.toNat (0:Int)]? =some y11->Cnd (y11.1=3) (K (0:Int)) (K (8:Int))) (Cnd (e.1=11) (((0:Int)<=(0:Int)/\(0:Int)<(↑e.4.length:Int))/\ ∀y11,e.4[Int.toNat (0:Int)]? =some y11->Cnd (y11.1=3) (K (0:Int)) (K (8:Int))) (K (0:Int)))))) (0:Int)) (K (6:Int))) (Cnd (e.1=5) (Qm e.3 fun Wb=>Cnd (Wb=true) (Lp1 (fun Qr y60=>Fits e.4->CAt e.4 Qr (fun y11=>Jg y11 fun Q8=>Cnd (Q8=0) (InI (Qr+1)/\y60 (Qr+1)) (K Q8)) (Cnd (e.1=9) (((0:Int)<=(0:Int)/\(0:Int)<(↑e.4.length:Int))/\ ∀y11,e.4[Int.toNat (0:Int)]? =some y11->Cnd (y11.1=3) (K (0:Int)) (K (8:Int))) (Cnd (e.1=10) (((0:Int)<=(0:Int)/\(0:Int)<(↑e.4.length:Int))/\ ∀y11,e.4[Int.toNat (0:Int)]? =some y11->Cnd (y11.1=3) (K (0:Int)) (K (8:Int))) (Cnd (e.1=11) (((0:Int)<=(0:Int)/\(0:Int)<(↑e.4.length:Int))/\ ∀y11,e.4[Int.toNat (0:Int)]? =some y11->Cnd (y11.1=3) (K (0:Int)) (K (8:Int))) (K (0:Int)))))) (0:Int)) (K (6:Int))) (Lp1 (fun Wb y9b=>Fits e.4->CAt e.4 Wb (fun y10=>Jg y10 fun Ur=>Cnd (Ur=0) (InI (Wb+1)/\y9b (Wb+1)) (K Ur)) (Cnd (e.1=9) (((0:Int)<=(0:Int)/\(0:Int)<(↑e.4.length:Int))/\ ∀y10,e.4[Int.toNat (0:Int)]? =some y10->Cnd (y10.1=3) (K (0:Int)) (K (8:Int))) (Cnd (e.1=10) (((0:Int)<=(0:Int)/\(0:Int)<(↑e.4.length:Int))/\ ∀y10,e.4[Int.toNat (0:Int)]? =some y10->Cnd (y10.1=3) (K (0:Int)) (K (8:Int))) (Cnd (e.1=11) (((0:Int)<=(0:Int)/\(0:Int)<(↑e.4.length:Int))/\ ∀y10,e.4[Int.toNat (0:Int)]? =some y10->Cnd (y10.1=3) (K (0:Int)) (K (8:Int))) (K (0:Int)))))) (0:Int)))) (K (6:Int))) (Q1 e.1 fun Zp=>Cnd (Zp=true) (Qm e.3 fun Js=>Cnd (Js=true) (Lp1 (fun Wb y9b=>Fits e.4->CAt e.4 Wb (fun y10=>Jg y10 fun Ur=>Cnd (Ur=0) (InI (Wb+1)/\y9b (Wb+1)) (K Ur)) (Cnd (e.1=9) (((0:Int)<=(0:Int)/\(0:Int)<(↑e.4.length:Int))/\ ∀y10,e.4[Int.toNat (0:Int)]? =some y10->Cnd (y10.1=3) (K (0:Int)) (K (8:Int))) (Cnd (e.1=10) (((0:Int)<=(0:Int)/\(0:Int)<(↑e.4.length:Int))/\ ∀y10,e.4[Int.toNat (0:Int)]? =some y10->Cnd (y10.1=3) (K (0:Int)) (K (8:Int))) (Cnd (e.1=11) (((0:Int)<=(0:Int)/\(0:Int)<(↑e.4.length:Int))/\ ∀y10,e.4[Int.toNat (0:Int)]? =some y10->Cnd (y10.1=3) (K (0:Int)) (K (8:Int))) (K (0:Int)))))) (0:Int)) (K (6:Int))) (Cnd (e.1=5) (Qm e.3 fun Js=>Cnd (Js=true) (Lp1 (fun Wb y9b=>Fits e.4->CAt e.4 Wb (fun y10=>Jg y10 fun Ur=>Cnd (Ur=0) (InI (Wb+1)/\y9b (Wb+1)) (K Ur)) (Cnd (e.1=9) (((0:Int)<=(0:Int)/\(0:Int)<(↑e.4.length:Int))/\ ∀y10,e.4[Int.toNat (0:Int)]? =some y10->Cnd (y10.1=3) (K (0:Int)) (K (8:Int))) (Cnd (e.1=10) (((0:Int)<=(0:Int)/\(0:Int)<(↑e.4.length:Int))/\ ∀y10,e.4[Int.toNat (0:Int)]? =some y10->Cnd (y10.1=3) (K (0:Int)) (K (8:Int))) (Cnd (e.1=11) (((0:Int)<=(0:Int)/\(0:Int)<(↑e.4.length:Int))/\ ∀y10,e.4[Int.toNat (0:Int)]? =some y10->Cnd (y10.1=3) (K (0:Int)) (K (8:Int))) (K (0:Int)))))) (0:Int)) (K (6:Int))) (Lp1 (fun Js y61=>Fits e.4->CAt e.4 Js (fun y9=>Jg y9 fun V6=>Cnd (V6=0) (InI (Js+1)/\y61 (Js+1)) (K V6)) (Cnd (e.1=9) (((0:Int)<=(0:Int)/\(0:Int)<(↑e.4.length:Int))/\ ∀y9,e.4[Int.toNat (0:Int)]? =some y9->Cnd (y9.1=3) (K (0:Int)) (K (8:Int))) (Cnd (e.1=10) (((0:Int)<=(0:Int)/\(0:Int)<(↑e.4.length:Int))/\ ∀y9,e.4[Int.toNat (0:Int)]? =some y9->Cnd (y9.1=3) (K (0:Int)) (K (8:Int))) (Cnd (e.1=11) (((0:Int)<=(0:Int)/\(0:Int)<(↑e.4.length:Int))/\ ∀y9,e.4[Int.toNat (0:Int)]? =some y9->Cnd (y9.1=3) (K (0:Int)) (K (8:Int))) (K (0:Int)))))) (0:Int)))))) (0:Int)))) (K (15:Int))))
def z0x:z4h:=j7z z1x Jw G8 q0y
abbrev q4w:Type:=Ex->Int->Int->(Int->Int->Prop)->Prop
def j70(j2f:z4h)(X:q4w):q4w:=fun e depth n K=>Cnd ((60:Int)<=n) (K (5:Int) n) (InI (n+1)/\Cnd ((10:Int)<depth) (K (18:Int) (n+1)) (j2f (Ex.mk e.1 e.2 e.3 e.4 e.5) fun Qa=>Cnd (Qa=0) (Lp2 (fun Qc Z5 z7q=>Fits e.5->CAt e.5 Qc (fun y3=>InI (depth+1)/\X (Ex.mk y3.1 y3.2 y3.3 y3.4 y3.5) (depth+1) Z5 fun Ql q7c=>Cnd (Ql=0) (InI (Qc+1)/\z7q (Qc+1) q7c) (K Ql q7c)) (K (0:Int) Z5)) (0:Int) (n+1)) (K Qa (n+1))))
def j0y:q4w:=fun e depth n K=> ∀X:q4w,(∀e depth n K,j70 z0x X e depth n K->X e depth n K)->X e depth n K
abbrev q1i:Type:=Ex->(Int->Prop)->Prop
def j71(j2g:q4w):q1i:=fun e K=>j2g (Ex.mk e.1 e.2 e.3 e.4 e.5) (1:Int) (0:Int) fun Qa _=>K Qa
def z0y:q1i:=j71 j0y
abbrev q4x:Type:=Seg->(Int->Prop)->Prop
def z4i(Qm:Jb)(Wx:Hp)(j2h:j0v)(Vx:q1i):q4x:=fun g K=>Qm g.1 fun Qa=>Cnd (Qa=true) (Qm g.2 fun Qc=>Cnd (Qc=true) (Wx g.3 fun Qf=>Cnd (Qf=0) (Wx g.4 fun Qi=>Cnd (Qi=0) (j2h (Ex.mk g.5.1 g.5.2 g.5.3 g.5.4 g.5.5) fun Qe=>Cnd (Qe=true) (K (0:Int)) (Vx (Ex.mk g.5.1 g.5.2 g.5.3 g.5.4 g.5.5) fun Ql=>K Ql)) (K Qi)) (K Qf)) (K (6:Int))) (K (6:Int))
def q80:q4x:=z4i G8 q4v j0w z0y
abbrev q1j:Type:=List (Seg)->(Int->Prop)->Prop
def z1y(q9p:q4x):q1j:=fun l K=>Fits l->Cnd ((20:Int)<(↑l.length:Int)) (K (5:Int)) (Lp1 (fun Qc Ry=>Fits l->CAt l Qc (fun y3=>q9p (Seg.mk y3.1 y3.2 y3.3 y3.4 (Ex.mk y3.5.1 y3.5.2 y3.5.3 y3.5.4 y3.5.5)) fun Ql=>Cnd (Ql=0) (Cnd ((0:Int)<Qc) (At l Qc fun y6=>InI (Qc - 1)/\((0:Int)<=Qc - 1/\Qc - 1<(↑l.length:Int))/\ ∀y8,l[(Qc - 1).toNat]? =some y8->Cnd (Lk.blt y8.1 y6.1) (InI (Qc+1)/\Ry (Qc+1)) (K (9:Int))) (InI (Qc+1)/\Ry (Qc+1))) (K Ql)) (K (0:Int))) (0:Int))
def q59:q1j:=z1y q80
abbrev Hq:Type:=Flg->(Int->Prop)->Prop
def q7v(Jg:q0x):Hq:=fun f K=>Fits f.3->Cnd ((8:Int)<(↑f.3.length:Int)) (K (5:Int)) (Cnd ((↑f.3.length:Int)=0) (K (3:Int)) (Lp1 (fun Qc Ry=>CAt f.3 Qc (fun y2=>Jg y2 fun Qe=>Cnd (Qe=0) (At f.3 Qc fun y5=>Cnd (y5.1=f.2) (InI (Qc+1)/\Ry (Qc+1)) (K (8:Int))) (K Qe)) (Cnd (f.5<1) (K (3:Int)) (Cnd ((↑f.3.length:Int)<f.5) (K (3:Int)) (K (0:Int))))) (0:Int)))
def q1k:Hq:=q7v q0y
abbrev Vq:Type:=List (Prq)->(Int->Prop)->Prop
def q1l(Qm:Jb):Vq:=fun l K=>Fits l->Cnd ((4:Int)<(↑l.length:Int)) (K (5:Int)) (Lp1 (fun Qc Ry=>Fits l->CAt l Qc (fun y3=>Qm y3.1 fun Ql=>Cnd (Ql=true) (Cnd ((0:Int)<Qc) (At l Qc fun y6=>InI (Qc - 1)/\((0:Int)<=Qc - 1/\Qc - 1<(↑l.length:Int))/\ ∀y8,l[(Qc - 1).toNat]? =some y8->Cnd (Lk.blt y8.1 y6.1) (At l Qc fun y10=>Cnd (y10.2<1) (K (3:Int)) (At l Qc fun y12=>Cnd ((8:Int)<y12.2) (K (3:Int)) (InI (Qc+1)/\Ry (Qc+1)))) (K (9:Int))) (At l Qc fun y6=>Cnd (y6.2<1) (K (3:Int)) (At l Qc fun y8=>Cnd ((8:Int)<y8.2) (K (3:Int)) (InI (Qc+1)/\Ry (Qc+1))))) (K (6:Int))) (K (0:Int))) (0:Int))
def G9:Vq:=q1l G8
abbrev q4y:Type:=List (Tgt)->Int->(Int->Prop)->Prop
def z4j(Qm:Jb)(Wx:Hp):q4y:=fun l n K=>Fits l->Cnd ((8:Int)<(↑l.length:Int)) (K (5:Int)) (Lp1 (fun Qc Ry=>Fits l->CAt l Qc (fun y3=>Qm y3.1 fun Ql=>Cnd (Ql=true) (At l Qc fun y6=>Cnd (y6.2<1) (K (3:Int)) (At l Qc fun y8=>Cnd (n<y8.2) (K (3:Int)) (At l Qc fun y10=>Fits y10.3->Cnd ((↑y10.3.length:Int)=0) (K (3:Int)) (At l Qc fun y13=>Wx y13.3 fun w8e=>Cnd (w8e=0) (InI (Qc+1)/\Ry (Qc+1)) (K w8e))))) (K (6:Int))) (K (0:Int))) (0:Int))
def q81:q4y:=z4j G8 q4v
abbrev q68:Type:=List (Rng)->Int->(Int->Prop)->Prop
def z0z:q68:=fun l variations K=>Fits l->Cnd ((16:Int)<(↑l.length:Int)) (K (5:Int)) (Lp2 (fun Qc Z5 z7q=>Fits l->CAt l Z5 (fun y3=>Cnd (y3.3<1) (K (3:Int)) (At l Z5 fun y5=>Cnd (variations<y5.3) (K (3:Int)) (At l Z5 fun y7=>Cnd (y7.1=Qc) (At l Z5 fun y9=>Cnd (y9.2<=Qc) (K (9:Int)) (Cnd ((0:Int)<Z5) (At l Z5 fun y11=>InI (Z5 - 1)/\((0:Int)<=Z5 - 1/\Z5 - 1<(↑l.length:Int))/\ ∀y13,l[(Z5 - 1).toNat]? =some y13->Cnd (y11.3=y13.3) (K (9:Int)) (At l Z5 fun y15=>InI (Z5+1)/\z7q y15.2 (Z5+1))) (At l Z5 fun y11=>InI (Z5+1)/\z7q y11.2 (Z5+1)))) (K (9:Int))))) (Cnd (Qc=10000) (K (0:Int)) (K (3:Int)))) (0:Int) (0:Int))
abbrev q3b:Type:=Srv->Int->(Int->Prop)->Prop
def j23(Qm:Jb)(Qt:Jf)(Rz:q68):q3b:=fun v variations K=>Cnd (v.1=0) (Qm v.2 fun Qa=>Cnd (Qa=true) (Qm v.3 fun Qc=>Cnd (Qc=true) (Qt v.4 fun Qf=>Cnd (Qf=true) (Rz v.5 variations fun Qi=>K Qi) (K (2:Int))) (K (6:Int))) (K (6:Int))) (Cnd (v.1<1) (K (3:Int)) (Cnd (variations<v.1) (K (3:Int)) (Cnd (v.2=ByteArray.mk (Array.mk [])) (Cnd (v.3=ByteArray.mk (Array.mk [])) (Cnd (v.4=ByteArray.mk (Array.mk [])) (Fits v.5->Cnd ((0:Int)<(↑v.5.length:Int)) (K (15:Int)) (K (0:Int))) (K (15:Int))) (K (15:Int))) (K (15:Int)))))
def z00:q3b:=j23 G8 Vj z0z
abbrev z01:Type:=List (Rul)->Int->(Int->Prop)->Prop
def j24(Qm:Jb)(Vx:q1i)(R0:q3b):z01:=fun l n K=>Fits l->Cnd ((12:Int)<(↑l.length:Int)) (K (5:Int)) (Lp1 (fun Qc Ry=>Fits l->CAt l Qc (fun y3=>Qm y3.1 fun Ql=>Cnd (Ql=true) (Lp1 (fun Zp v5d=>Cnd (Zp<Qc) (At l Zp fun y7=>At l Qc fun y9=>Cnd (y7.1=y9.1) (K (10:Int)) (InI (Zp+1)/\v5d (Zp+1))) (At l Qc fun y7=>Vx (Ex.mk y7.2.1 y7.2.2 y7.2.3 y7.2.4 y7.2.5) fun Qr=>Cnd (Qr=0) (At l Qc fun y10=>R0 (Srv.mk y10.3.1 y10.3.2 y10.3.3 y10.3.4 y10.3.5) n fun Ur=>Cnd (Ur=0) (InI (Qc+1)/\Ry (Qc+1)) (K Ur)) (K Qr))) (0:Int)) (K (6:Int))) (K (0:Int))) (0:Int))
def z6r:z01:=j24 G8 z0y z00
abbrev z4k:Type:=Flg->(Int->Prop)->Prop
def j72(Qm:Jb)(q2x:Hq)(Hf:Vq)(q9q:q4y)(z7a:z01)(R0:q3b):z4k:=fun f K=>Fits f.3->Qm f.1 fun Qc=>Cnd (Qc=true) (Cnd (f.2<1) (K (7:Int)) (Cnd ((5:Int)<f.2) (K (7:Int)) (q2x (Flg.mk f.1 f.2 f.3 f.4 f.5 f.6 f.7 f.8 (Srv.mk f.9.1 f.9.2 f.9.3 f.9.4 f.9.5)) fun Qf=>Cnd (Qf=0) (Hf f.6 fun Qi=>Cnd (Qi=0) (q9q f.7 (↑f.3.length:Int) fun Qe=>Cnd (Qe=0) (z7a f.8 (↑f.3.length:Int) fun Ql=>Cnd (Ql=0) (R0 (Srv.mk f.9.1 f.9.2 f.9.3 f.9.4 f.9.5) (↑f.3.length:Int) fun Zp=>K Zp) (K Ql)) (K Qe)) (K Qi)) (K Qf)))) (K (6:Int))
def j0z:z4k:=j72 G8 q1k G9 q81 z6r z00
abbrev z02:Type:=List (Flg)->(Int->Prop)->Prop
def j25(j2i:z4k):z02:=fun l K=>Fits l->Cnd ((30:Int)<(↑l.length:Int)) (K (5:Int)) (Lp1 (fun Qc Ry=>Fits l->CAt l Qc (fun y3=>j2i (Flg.mk y3.1 y3.2 y3.3 y3.4 y3.5 y3.6 y3.7 y3.8 (Srv.mk y3.9.1 y3.9.2 y3.9.3 y3.9.4 y3.9.5)) fun Ql=>Cnd (Ql=0) (Cnd ((0:Int)<Qc) (At l Qc fun y6=>InI (Qc - 1)/\((0:Int)<=Qc - 1/\Qc - 1<(↑l.length:Int))/\ ∀y8,l[(Qc - 1).toNat]? =some y8->Cnd (Lk.blt y8.1 y6.1) (InI (Qc+1)/\Ry (Qc+1)) (K (9:Int))) (InI (Qc+1)/\Ry (Qc+1))) (K Ql)) (K (0:Int))) (0:Int))
def z6s:z02:=j25 j0z
abbrev z03:Type:=Lay_->(Int->Prop)->Prop
def j26(Qm:Jb)(Qt:Jf):z03:=fun l K=>Qm l.1 fun Qa=>Cnd (Qa=true) (Qm l.2 fun Qc=>Cnd (Qc=true) (Qt l.3 fun Qf=>Cnd (Qf=true) (Cnd (l.4<0) (K (3:Int)) (Cnd ((10000:Int)<l.4) (K (3:Int)) (Cnd (l.5<0) (K (3:Int)) (Cnd ((1099511627776:Int)<l.5) (K (3:Int)) (Fits l.6->Cnd ((32:Int)<(↑l.6.length:Int)) (K (5:Int)) (Lp1 (fun Qe w8i=>Fits l.6->CAt l.6 Qe (fun y6=>Cnd (y6.1<0) (K (3:Int)) (Cnd (y6.2<=y6.1) (K (3:Int)) (Cnd ((10000:Int)<y6.2) (K (3:Int)) (Cnd (y6.3<0) (K (3:Int)) (Cnd ((1099511627776:Int)<y6.3) (K (3:Int)) (Cnd ((0:Int)<Qe) (InI (Qe - 1)/\((0:Int)<=Qe - 1/\Qe - 1<(↑l.6.length:Int))/\ ∀y8,l.6[(Qe - 1).toNat]? =some y8->Cnd (y6.1<y8.2) (K (9:Int)) (InI (Qe+1)/\w8i (Qe+1))) (InI (Qe+1)/\w8i (Qe+1)))))))) (K (0:Int))) (0:Int))))))) (K (2:Int))) (K (6:Int))) (K (6:Int))
def z6t:z03:=j26 G8 Vj
abbrev q7w:Type:=List (Lay_)->(Int->Prop)->Prop
def z8v(z7b:z03):q7w:=fun l K=>Fits l->Cnd ((6:Int)<(↑l.length:Int)) (K (5:Int)) (Lp1 (fun Qc Ry=>Fits l->CAt l Qc (fun y3=>z7b y3 fun Ql=>Cnd (Ql=0) (Cnd ((0:Int)<Qc) (At l Qc fun y6=>InI (Qc - 1)/\((0:Int)<=Qc - 1/\Qc - 1<(↑l.length:Int))/\ ∀y8,l[(Qc - 1).toNat]? =some y8->Cnd (Lk.blt y8.1 y6.1) (InI (Qc+1)/\Ry (Qc+1)) (K (9:Int))) (InI (Qc+1)/\Ry (Qc+1))) (K Ql)) (K (0:Int))) (0:Int))
def z1z:q7w:=z8v z6t
abbrev z6u:Type:=List (Spn)->(Int->Prop)->Prop
def z6v:z6u:=fun l K=>Fits l->Cnd ((16:Int)<(↑l.length:Int)) (K (5:Int)) (Lp1 (fun Qc Ry=>Fits l->CAt l Qc (fun y3=>Cnd (y3.1<0) (K (3:Int)) (At l Qc fun y5=>At l Qc fun y7=>Cnd (y7.2<=y5.1) (K (3:Int)) (At l Qc fun y9=>Cnd ((10000:Int)<y9.2) (K (3:Int)) (Cnd ((0:Int)<Qc) (At l Qc fun y11=>InI (Qc - 1)/\((0:Int)<=Qc - 1/\Qc - 1<(↑l.length:Int))/\ ∀y13,l[(Qc - 1).toNat]? =some y13->Cnd (y11.1<=y13.2) (K (9:Int)) (InI (Qc+1)/\Ry (Qc+1))) (InI (Qc+1)/\Ry (Qc+1)))))) (K (0:Int))) (0:Int))
abbrev Hr:Type:=Exper->(Int->Prop)->Prop
def q7x(Qm:Jb)(Qt:Jf)(z7c:z6u)(Rz:q68)(Vx:q1i):Hr:=fun x K=>Qm x.1 fun Qa=>Cnd (Qa=true) (Qm x.2 fun Qc=>Cnd (Qc=true) (Qm x.3 fun Qf=>Cnd (Qf=true) (Qt x.4 fun Qi=>Cnd (Qi=true) (Cnd (x.5<1) (K (7:Int)) (Cnd ((3:Int)<x.5) (K (7:Int)) (z7c x.6 fun Qe=>Cnd (Qe=0) (Rz x.7 (8:Int) fun Ql=>Cnd (Ql=0) (Vx (Ex.mk x.8.1 x.8.2 x.8.3 x.8.4 x.8.5) fun Zp=>K Zp) (K Ql)) (K Qe)))) (K (2:Int))) (K (6:Int))) (K (6:Int))) (K (6:Int))
def q1m:Hr:=q7x G8 Vj z6v z0z z0y
abbrev Gq:Type:=List (Exper)->(Int->Prop)->Prop
def q5h(q2y:Hr):Gq:=fun l K=>Fits l->Cnd ((16:Int)<(↑l.length:Int)) (K (5:Int)) (Lp1 (fun Qc Ry=>Fits l->CAt l Qc (fun y3=>q2y (Exper.mk y3.1 y3.2 y3.3 y3.4 y3.5 y3.6 y3.7 (Ex.mk y3.8.1 y3.8.2 y3.8.3 y3.8.4 y3.8.5)) fun Ql=>Cnd (Ql=0) (Cnd ((0:Int)<Qc) (At l Qc fun y6=>InI (Qc - 1)/\((0:Int)<=Qc - 1/\Qc - 1<(↑l.length:Int))/\ ∀y8,l[(Qc - 1).toNat]? =some y8->Cnd (Lk.blt y8.1 y6.1) (InI (Qc+1)/\Ry (Qc+1)) (K (9:Int))) (InI (Qc+1)/\Ry (Qc+1))) (K Ql)) (K (0:Int))) (0:Int))
def Bw:Gq:=q5h q1m
abbrev Gs:Type:=Envt->(Int->Prop)->Prop
def q5i(q6s:q1g)(q6t:q1h)(q6u:q1j)(z7d:z02)(z3c:q7w)(B6:Gq):Gs:=fun v K=>q6s (Sett.mk v.1.1 v.1.2 v.1.3) fun Qa=>Cnd (Qa=0) (q6t v.2 fun Qc=>Cnd (Qc=0) (q6u v.3 fun Qf=>Cnd (Qf=0) (z7d v.4 fun Qi=>Cnd (Qi=0) (z3c v.5 fun Qe=>Cnd (Qe=0) (B6 v.6 fun Ql=>K Ql) (K Qe)) (K Qi)) (K Qf)) (K Qc)) (K Qa)
def Bx:Gs:=q5i q57 q58 q59 z6s z1z Bw
abbrev q0z:Type:=List (Seg)->(List (ByteArray)->Prop)->Prop
def z04:q0z:=fun l K=>Lp2 (fun Qa Qz q27=>Fits l->CAt l Qz (fun y2=>Sml (Qa++[y2.1]).length/\InI (Qz+1)/\q27 (Qa++[y2.1]) (Qz+1)) (K Qa)) [] (0:Int)
abbrev q33:Type:=List (ByteArray)->ByteArray->(Bool->Prop)->Prop
def q34:q33:=fun l s K=>Lp1 (fun Qa q5c=>Fits l->CAt l Qa (fun y2=>Cnd (y2=s) (K true) (InI (Qa+1)/\q5c (Qa+1))) (K false)) (0:Int)
abbrev z05:Type:=List (Decl)->ByteArray->ByteArray->(Int->Prop)->Prop
def q4z:z05:=fun l kind name K=>Lp1 (fun Qa q5c=>Fits l->CAt l Qa (fun y2=>Cnd (y2.1=kind) (At l Qa fun y4=>Cnd (y4.2=name) (At l Qa fun y6=>K y6.3) (InI (Qa+1)/\q5c (Qa+1))) (InI (Qa+1)/\q5c (Qa+1))) (Cnd (name=ByteArray.mk (Array.mk [107,101,121])) (K (3:Int)) (K (0:Int)))) (0:Int)
abbrev j00:Type:=Int->Ex->(Bool->Prop)->Prop
def q7y:j00:=fun t e K=>Cnd (e.1=6) (K true) (Cnd (e.1=8) (Lp1 (fun Qa q5c=>Fits e.4->CAt e.4 Qa (fun y2=>Cnd (y2.1=t) (InI (Qa+1)/\q5c (Qa+1)) (K false)) (K (match decide ((t,e,()).1=5) with|true=>false|false=>true))) (0:Int)) (Fits e.4->Cnd ((↑e.4.length:Int)=0) (K false) (((0:Int)<=(0:Int)/\(0:Int)<(↑e.4.length:Int))/\ ∀y1,e.4[Int.toNat (0:Int)]? =some y1->Cnd (e.1=7) (K (decide (y1.1=t))) (Jn1 (fun Qi=>Cnd (Qi=true) (Cnd (t=3) (K (decide (y1.1=3))) (K false)) (Cnd (e.1=11) (Cnd (t=3) (K (decide (y1.1=3))) (Cnd (t=5) (K (decide (y1.1=3))) (K false))) (Cnd (t=2) (K (decide (y1.1=t))) (Cnd (t=3) (K (decide (y1.1=t))) (Cnd (t=4) (K (decide (y1.1=t))) (K false)))))) fun v9q=>Cnd (e.1=9) (v9q (decide (e.1=9))) (v9q (decide (e.1=10)))))))
abbrev Gt:Type:=List (Decl)->List (ByteArray)->Ex->(Int->Prop)->Prop
def j73(Vg:q33)(Q1:W6)(Bp:z05)(z55:j00)(X:Gt):Gt:=fun l segments e K=>Cnd (e.1=5) (Vg segments e.3 fun Qa=>Cnd (Qa=true) (Jn0 (Lp1 (fun Qc Ry=>Fits e.5->CAt e.5 Qc (fun y3=>X l segments (Ex.mk y3.1 y3.2 y3.3 y3.4 y3.5) fun Ql=>Cnd (Ql=0) (InI (Qc+1)/\Ry (Qc+1)) (K Ql)) (K (0:Int))) (0:Int)) fun Qc=>Q1 e.1 fun Qf=>Cnd (Qf=true) (Bp l e.2 e.3 fun Qi=>Cnd (Qi=0) (K (11:Int)) (z55 Qi (Ex.mk e.1 e.2 e.3 e.4 e.5) fun Qe=>Cnd (Qe=true) Qc (K (8:Int)))) Qc) (K (11:Int))) (Jn0 (Lp1 (fun Qa q5c=>Fits e.5->CAt e.5 Qa (fun y2=>X l segments (Ex.mk y2.1 y2.2 y2.3 y2.4 y2.5) fun Qe=>Cnd (Qe=0) (InI (Qa+1)/\q5c (Qa+1)) (K Qe)) (K (0:Int))) (0:Int)) fun Qa=>Q1 e.1 fun Qc=>Cnd (Qc=true) (Bp l e.2 e.3 fun Qf=>Cnd (Qf=0) (K (11:Int)) (z55 Qf (Ex.mk e.1 e.2 e.3 e.4 e.5) fun Qi=>Cnd (Qi=true) Qa (K (8:Int)))) Qa)
def z06:Gt:=fun l segments e K=> ∀X:Gt,(∀l segments e K,j73 q34 Jw q4z q7y X l segments e K->X l segments e K)->X l segments e K
abbrev q82:Type:=List (ByteArray)->ByteArray->(List (ByteArray)->Prop)->Prop
def q83:q82:=fun l s K=>Lp1 (fun Qa q5c=>Fits l->CAt l Qa (fun y2=>Cnd (Lk.blt y2 s) (InI (Qa+1)/\q5c (Qa+1)) (Fits l->CAt l Qa (fun y5=>Cnd (y5=s) (K l) (((0:Int)<=(0:Int)/\(0:Int)<=Qa/\Qa<=(↑l.length:Int))/\Sml ([]++List.drop (Int.toNat (0:Int)) (List.take Qa.toNat l)).length/\((0:Int)<=Qa/\Qa<=(↑l.length:Int)/\(↑l.length:Int)<=(↑l.length:Int))/\Sml ([]++List.drop (Int.toNat (0:Int)) (List.take Qa.toNat l)++[s]).length/\Sml ([]++List.drop (Int.toNat (0:Int)) (List.take Qa.toNat l)++[s]++List.drop Qa.toNat (List.take (↑l.length:Int).toNat l)).length/\K ([]++List.drop (Int.toNat (0:Int)) (List.take Qa.toNat l)++[s]++List.drop Qa.toNat (List.take (↑l.length:Int).toNat l)))) (((0:Int)<=(0:Int)/\(0:Int)<=Qa/\Qa<=(↑l.length:Int))/\Sml ([]++List.drop (Int.toNat (0:Int)) (List.take Qa.toNat l)).length/\((0:Int)<=Qa/\Qa<=(↑l.length:Int)/\(↑l.length:Int)<=(↑l.length:Int))/\Sml ([]++List.drop (Int.toNat (0:Int)) (List.take Qa.toNat l)++[s]).length/\Sml ([]++List.drop (Int.toNat (0:Int)) (List.take Qa.toNat l)++[s]++List.drop Qa.toNat (List.take (↑l.length:Int).toNat l)).length/\K ([]++List.drop (Int.toNat (0:Int)) (List.take Qa.toNat l)++[s]++List.drop Qa.toNat (List.take (↑l.length:Int).toNat l))))) (Fits l->CAt l Qa (fun y3=>Cnd (y3=s) (K l) (((0:Int)<=(0:Int)/\(0:Int)<=Qa/\Qa<=(↑l.length:Int))/\Sml ([]++List.drop (Int.toNat (0:Int)) (List.take Qa.toNat l)).length/\((0:Int)<=Qa/\Qa<=(↑l.length:Int)/\(↑l.length:Int)<=(↑l.length:Int))/\Sml ([]++List.drop (Int.toNat (0:Int)) (List.take Qa.toNat l)++[s]).length/\Sml ([]++List.drop (Int.toNat (0:Int)) (List.take Qa.toNat l)++[s]++List.drop Qa.toNat (List.take (↑l.length:Int).toNat l)).length/\K ([]++List.drop (Int.toNat (0:Int)) (List.take Qa.toNat l)++[s]++List.drop Qa.toNat (List.take (↑l.length:Int).toNat l)))) (((0:Int)<=(0:Int)/\(0:Int)<=Qa/\Qa<=(↑l.length:Int))/\Sml ([]++List.drop (Int.toNat (0:Int)) (List.take Qa.toNat l)).length/\((0:Int)<=Qa/\Qa<=(↑l.length:Int)/\(↑l.length:Int)<=(↑l.length:Int))/\Sml ([]++List.drop (Int.toNat (0:Int)) (List.take Qa.toNat l)++[s]).length/\Sml ([]++List.drop (Int.toNat (0:Int)) (List.take Qa.toNat l)++[s]++List.drop Qa.toNat (List.take (↑l.length:Int).toNat l)).length/\K ([]++List.drop (Int.toNat (0:Int)) (List.take Qa.toNat l)++[s]++List.drop Qa.toNat (List.take (↑l.length:Int).toNat l))))) (0:Int)
abbrev Ut:Type:=List (ByteArray)->Ex->(List (ByteArray)->Prop)->Prop
def z4l(Hg:q82)(X:Ut):Ut:=fun l e K=>Jn1 (fun Qa=>Lp2 (fun Qc Z5 z7q=>Fits e.5->CAt e.5 Z5 (fun y3=>X Qc (Ex.mk y3.1 y3.2 y3.3 y3.4 y3.5) fun Ql=>InI (Z5+1)/\z7q Ql (Z5+1)) (K Qc)) Qa (0:Int)) fun q4g=>Cnd (e.1=5) (Hg l e.3 fun Qc=>q4g Qc) (q4g l)
def q84:Ut:=fun l e K=> ∀X:Ut,(∀l e K,z4l q83 X l e K->X l e K)->X l e K
abbrev q40:Type:=Ex->(List (ByteArray)->Prop)->Prop
def z4m(q9r:Ut):q40:=fun e K=>q9r [] (Ex.mk e.1 e.2 e.3 e.4 e.5) fun Qa=>K Qa
def q85:q40:=z4m q84
abbrev q7z:Type:=List (Seg)->(List (Edg)->Prop)->Prop
def z8w(q9s:q40):q7z:=fun l K=>Lp2 (fun Qa Qz q27=>Fits l->CAt l Qz (fun y2=>q9s (Ex.mk y2.5.1 y2.5.2 y2.5.3 y2.5.4 y2.5.5) fun Qe=>Lp2 (fun Ql q7c v90=>Fits Qe->Cnd (q7c<(↑Qe.length:Int)) (At l Qz fun y7=>At Qe q7c fun y9=>Sml (Ql++[Edg.mk y7.1 y9]).length/\InI (q7c+1)/\v90 (Ql++[Edg.mk y7.1 y9]) (q7c+1)) (InI (Qz+1)/\q27 Ql (Qz+1))) Qa (0:Int)) (K Qa)) [] (0:Int)
def z10:q7z:=z8w q85
abbrev z07:Type:=List (Edg)->ByteArray->(List (ByteArray)->Prop)->Prop
def j27(Vg:q33)(Hg:q82):z07:=fun edges node K=>Lp2 (fun Qa Qz q27=>Fits Qz->Cnd ((0:Int)<(↑Qz.length:Int)) (((0:Int)<=(0:Int)/\(0:Int)<(↑Qz.length:Int))/\ ∀y2,Qz[Int.toNat (0:Int)]? =some y2->((0:Int)<=(1:Int)/\(1:Int)<=(↑Qz.length:Int)/\(↑Qz.length:Int)<=(↑Qz.length:Int))/\Lp3 (fun Qe Jr j2b y7h=>Fits edges->CAt edges j2b (fun y6=>Cnd (y6.1=y2) (At edges j2b fun y8=>Vg Qe y8.2 fun Uq=>Cnd (Uq=true) (InI (j2b+1)/\y7h Qe Jr (j2b+1)) (At edges j2b fun y11=>Hg Qe y11.2 fun Q8=>At edges j2b fun y14=>(Sml ([]++Jr).length/\Sml ([]++Jr++[y14.2]).length/\InI (j2b+1)/\y7h Q8 ([]++Jr++[y14.2]) (j2b+1))/\Sml ([]++Jr).length/\Sml ([]++Jr++[y14.2]).length/\InI (j2b+1)/\y7h Q8 ([]++Jr++[y14.2]) (j2b+1))) (InI (j2b+1)/\y7h Qe Jr (j2b+1))) (q27 Qe Jr)) Qa (List.drop (Int.toNat (1:Int)) (List.take (↑Qz.length:Int).toNat Qz)) (0:Int)) (K Qa)) [] [node]
def z6w:z07:=j27 q34 q83
abbrev q70:Type:=List (ByteArray)->List (Edg)->(List (ByteArray)->Prop)->Prop
def z8x(z7e:z07)(Vg:q33)(Hg:q82):q70:=fun nodes edges K=>Lp2 (fun Qa Qz q27=>Fits nodes->CAt nodes Qz (fun y2=>At nodes Qz fun y4=>z7e edges y2 fun Zp=>Vg Zp y4 fun Js=>Cnd (Js=true) (At nodes Qz fun y8=>Hg Qa y8 fun Uq=>InI (Qz+1)/\q27 Uq (Qz+1)) (InI (Qz+1)/\q27 Qa (Qz+1))) (K Qa)) [] (0:Int)
def z11:q70:=z8x z6w q34 q83
abbrev q71:Type:=List (ByteArray)->List (Edg)->(ByteArray->Bool->Prop)->Prop
def z8y(z3d:q70):q71:=fun nodes edges K=>z3d nodes edges fun Qa=>Fits Qa->Cnd ((↑Qa.length:Int)=0) (K (ByteArray.mk (Array.mk [])) false) (((0:Int)<=(0:Int)/\(0:Int)<(↑Qa.length:Int))/\ ∀y2,Qa[Int.toNat (0:Int)]? =some y2->K y2 true)
def z13:q71:=z8y z11
abbrev q00:Type:=Envt->ByteArray->(Int->Prop)->Prop
def q86:q00:=fun v key K=>Lp1 (fun Qa q5c=>Fits v.4->CAt v.4 Qa (fun y2=>Cnd (y2.1=key) (K Qa) (InI (Qa+1)/\q5c (Qa+1))) (K (-1:Int))) (0:Int)
abbrev z08:Type:=List (Decl)->Srv->(Int->Prop)->Prop
def j28(Bp:z05):z08:=fun l v K=>Cnd (v.1=0) (Bp l v.2 v.3 fun Qa=>Cnd (Qa=0) (K (11:Int)) (Cnd (Qa=5) (K (8:Int)) (K (0:Int)))) (K (0:Int))
def z6x:z08:=j28 q4z
abbrev Hs:Type:=Envt->Flg->(Int->Prop)->Prop
def q72(Wc:q0z)(Vy:q00)(Vz:Gt)(z1g:z08)(Z0:Jx):Hs:=fun v f K=>Wc v.3 fun Qa=>Lp2 (fun Qc Z5 z7q=>Fits f.6->CAt f.6 Qc (fun y3=>Vy (Envt.mk (Sett.mk v.1.1 v.1.2 v.1.3) v.2 v.3 v.4 v.5 v.6) y3.1 fun Ql=>Cnd (Ql<0) (K (11:Int)) (At f.6 Qc fun y6=>At v.4 Ql fun y8=>Fits y8.3->Cnd ((↑y8.3.length:Int)<y6.2) (K (3:Int)) (InI (Qc+1)/\z7q (Qc+1) Z5))) (Lp2 (fun Qi H7 w09=>Fits f.8->CAt f.8 Qi (fun y5=>Vz v.2 H7 (Ex.mk y5.2.1 y5.2.2 y5.2.3 y5.2.4 y5.2.5) fun Js=>Cnd (Js=0) (At f.8 Qi fun y8=>z1g v.2 (Srv.mk y8.3.1 y8.3.2 y8.3.3 y8.3.4 y8.3.5) fun Uq=>Cnd (Uq=0) (InI (Qi+1)/\w09 (Qi+1) H7) (K Uq)) (K Js)) (z1g v.2 (Srv.mk f.9.1 f.9.2 f.9.3 f.9.4 f.9.5) fun Ql=>Cnd (Ql=0) (Z0 f.8 fun Zp _ w2q=>Cnd (w2q=true) (Fits Zp->Cnd ((0:Int)<(↑Zp.length:Int)) (K (13:Int)) (K (0:Int))) (K (19:Int))) (K Ql))) (0:Int) Z5)) (0:Int) Qa
def q1n:Hs:=q72 z04 q86 z06 z6x Uh
abbrev q35:Type:=Envt->(List (ByteArray)->Prop)->Prop
def q93:q35:=fun v K=>Lp2 (fun Qa Qz q27=>Fits v.4->CAt v.4 Qz (fun y2=>Sml (Qa++[y2.1]).length/\InI (Qz+1)/\q27 (Qa++[y2.1]) (Qz+1)) (K Qa)) [] (0:Int)
abbrev q1o:Type:=Envt->(List (Edg)->Prop)->Prop
def q1p:q1o:=fun v K=>Lp2 (fun Qa Qz q27=>Fits v.4->Cnd (Qz<(↑v.4.length:Int)) (Lp2 (fun Qf Zl q7b=>At v.4 Qz fun y3=>Fits y3.6->Cnd (Zl<(↑y3.6.length:Int)) (At v.4 Qz fun y6=>At v.4 Qz fun y8=>At y8.6 Zl fun y10=>Sml (Qf++[Edg.mk y6.1 y10.1]).length/\InI (Zl+1)/\q7b (Qf++[Edg.mk y6.1 y10.1]) (Zl+1)) (InI (Qz+1)/\q27 Qf (Qz+1))) Qa (0:Int)) (K Qa)) [] (0:Int)
abbrev q41:Type:=List (Spn)->List (Spn)->(List (Spn)->Prop)->Prop
def z4n(Z3:Bj)(Q4:We):q41:=fun a b K=>Z3 a fun Qa=>Z3 b fun Qc=>Lp2 (fun Qf Zl q7b=>Fits Zl->CAt Zl Qf (fun y4=>Cnd (y4=true) (At Qc Qf fun y6=>At Zl Qf fun _=>InI (Qf+1)/\q7b (Qf+1) (Zl.set Qf.toNat y6)) (At Zl Qf fun _=>InI (Qf+1)/\q7b (Qf+1) (Zl.set Qf.toNat false))) (Q4 Zl fun Qe=>K Qe)) (0:Int) Qa
def q87:q41:=z4n q7p Ho
abbrev J8:Type:=Envt->Int->(Int->Prop)->Prop
def Ht(Zt:Vn)(Vy:q00)(Wc:q0z)(Vz:Gt)(q9t:q41):J8:=fun v i K=>At v.6 i fun y0=>Zt (Envt.mk (Sett.mk v.1.1 v.1.2 v.1.3) v.2 v.3 v.4 v.5 v.6) y0.2 fun Qf=>Vy (Envt.mk (Sett.mk v.1.1 v.1.2 v.1.3) v.2 v.3 v.4 v.5 v.6) y0.3 fun Qi=>Cnd (Qf<0) (K (11:Int)) (Cnd (Qi<0) (K (11:Int)) (Lp1 (fun Qe w8i=>Fits y0.7->CAt y0.7 Qe (fun y6=>At v.4 Qi fun y8=>Fits y8.3->Cnd ((↑y8.3.length:Int)<y6.3) (K (3:Int)) (InI (Qe+1)/\w8i (Qe+1))) (Wc v.3 fun Zp=>Vz v.2 Zp (Ex.mk y0.8.1 y0.8.2 y0.8.3 y0.8.4 y0.8.5) fun Js=>Cnd (Js=0) (Cnd (y0.5=3) (K (0:Int)) (At v.5 Qf fun y8=>Lp3 (fun Uq Bo v00 y62=>Cnd (Bo<i) (At v.6 Bo fun y11=>Cnd (y11.2=y0.2) (Cnd (y11.5=3) (InI (Bo+1)/\y62 Uq (Bo+1) v00) (Sml (Uq++y11.6).length/\InI (Bo+1)/\y62 (Uq++y11.6) (Bo+1) v00)) (InI (Bo+1)/\y62 Uq (Bo+1) v00)) (q9t y0.6 Uq fun V6=>Fits V6->Cnd ((0:Int)<(↑V6.length:Int)) (K (14:Int)) (Lp4 (fun Q8 w5m y63 y64 y65=>Cnd (Q8<i) (Cnd (y0.5=2) (At v.6 Q8 fun y14=>Cnd (y14.5=2) (Cnd (y14.3=y0.3) (Cnd (y14.2=y0.2) (InI (Q8+1)/\y65 (Q8+1) w5m y63 y64) (K (14:Int))) (InI (Q8+1)/\y65 (Q8+1) w5m y63 y64)) (InI (Q8+1)/\y65 (Q8+1) w5m y63 y64)) (K (0:Int))) (K (0:Int))) (0:Int) V6 Uq v00))) [Spn.mk (0:Int) y8.4] (0:Int) Zp)) (K Js))) (0:Int)))
def Vr:J8:=Ht q1d q86 z04 z06 q87
abbrev Ui:Type:=Envt->(ByteArray->Int->Prop)->Prop
def q3c(B7:Gs)(Wc:q0z)(Vz:Gt)(z3e:q7z)(q8t:q71)(q2z:Hs)(q4k:q35)(q20:q1o)(V0:J8):Ui:=fun v K=>B7 (Envt.mk (Sett.mk v.1.1 v.1.2 v.1.3) v.2 v.3 v.4 v.5 v.6) fun Qa=>Cnd (Qa=0) (Wc v.3 fun Qc=>Lp2 (fun Qf Zl q7b=>Fits v.3->CAt v.3 Qf (fun y4=>Cnd (y4.5.1=0) (InI (Qf+1)/\q7b (Qf+1) Zl) (At v.3 Qf fun y6=>Vz v.2 Zl (Ex.mk y6.5.1 y6.5.2 y6.5.3 y6.5.4 y6.5.5) fun Wb=>Cnd (Wb=0) (InI (Qf+1)/\q7b (Qf+1) Zl) (At v.3 Qf fun y9=>(↑((ByteArray.mk (Array.mk [115,101,103,109,101,110,116,32])).size+y9.1.size):Int)<=(9223372036854775807:Int)/\K (ByteArray.mk (Array.mk [115,101,103,109,101,110,116,32])++y9.1) Wb))) (z3e v.3 fun Qe=>q8t Zl Qe fun Ql q7c=>Cnd (q7c=true) ((↑((ByteArray.mk (Array.mk [115,101,103,109,101,110,116,32])).size+Ql.size):Int)<=(9223372036854775807:Int)/\K (ByteArray.mk (Array.mk [115,101,103,109,101,110,116,32])++Ql) (12:Int)) (Lp3 (fun Zp z0m w2q u10=>Fits v.4->CAt v.4 Zp (fun y8=>q2z (Envt.mk (Sett.mk v.1.1 v.1.2 v.1.3) v.2 v.3 v.4 v.5 v.6) (Flg.mk y8.1 y8.2 y8.3 y8.4 y8.5 y8.6 y8.7 y8.8 (Srv.mk y8.9.1 y8.9.2 y8.9.3 y8.9.4 y8.9.5)) fun Uq=>Cnd (Uq=0) (InI (Zp+1)/\u10 (Zp+1) z0m w2q) (At v.4 Zp fun y11=>(↑((ByteArray.mk (Array.mk [102,108,97,103,32])).size+y11.1.size):Int)<=(9223372036854775807:Int)/\K (ByteArray.mk (Array.mk [102,108,97,103,32])++y11.1) Uq)) (q4k (Envt.mk (Sett.mk v.1.1 v.1.2 v.1.3) v.2 v.3 v.4 v.5 v.6) fun Wb=>q20 (Envt.mk (Sett.mk v.1.1 v.1.2 v.1.3) v.2 v.3 v.4 v.5 v.6) fun Qr=>q8t Wb Qr fun Uq Bo=>Cnd (Bo=true) ((↑((ByteArray.mk (Array.mk [102,108,97,103,32])).size+Uq.size):Int)<=(9223372036854775807:Int)/\K (ByteArray.mk (Array.mk [102,108,97,103,32])++Uq) (12:Int)) (Lp5 (fun V6 z54 u0y u0z u00 u01=>Fits v.6->Cnd (V6<(↑v.6.length:Int)) (V0 (Envt.mk (Sett.mk v.1.1 v.1.2 v.1.3) v.2 v.3 v.4 v.5 v.6) V6 fun Q8=>Cnd (Q8=0) (InI (V6+1)/\u01 (V6+1) z54 u0y u0z u00) (At v.6 V6 fun y14=>(↑((ByteArray.mk (Array.mk [101,120,112,101,114,105,109,101,110,116,32])).size+y14.1.size):Int)<=(9223372036854775807:Int)/\K (ByteArray.mk (Array.mk [101,120,112,101,114,105,109,101,110,116,32])++y14.1) Q8)) (K (ByteArray.mk (Array.mk [])) (0:Int))) (0:Int) Wb Qr w2q z0m))) (0:Int) Zl Qe))) (0:Int) Qc) (K (ByteArray.mk (Array.mk [])) Qa)
def Rj:Ui:=q3c Bx z04 z06 z10 z13 q1n q93 q1p Vr
abbrev q73:Type:=Envt->(Bool->Prop)->Prop
def z8z(R1:Ui):q73:=fun v K=>R1 (Envt.mk (Sett.mk v.1.1 v.1.2 v.1.3) v.2 v.3 v.4 v.5 v.6) fun _ Qz=>K (decide (Qz=0))
def q0g:q73:=z8z Rj
abbrev Hu:Type:=List (Int)->Int->Int->(Envt->Int->Prop)->Prop
def q74(Q2:Ws)(q9u:q4u)(Qb:Zf)(q2s:z6i)(Z8:q07)(q4e:z1p)(z56:z4c)(H9:q08)(q4f:q31)(Z0:Jx)(j2j:z4e)(Wa:q06)(q2t:q7k)(z7f:z0v)(Wm:q54)(Gi:q0f)(z3f:q7t)(q0t:q73):Hu:=fun list at_ now K=>Q2 fun Qa=>Jn1 (fun (Qc:ByteArray×ByteArray×Int×Int×List Decl×Unit)=>q9u list Qc.2.2.2.1 Qc.1 Qc.2.1 Qc.2.2.1 Qc.2.2.2.2.1 [] [] [] [] fun Qf Zl w5n j98 v91 u11 u12 u13 u14=>Qb list Qf (5:Int) fun Qi H7=>q2s Qi [ByteArray.mk (Array.mk [102,97]),ByteArray.mk (Array.mk [102,98]),ByteArray.mk (Array.mk [102,99]),ByteArray.mk (Array.mk [102,100])] fun Qe=>LpH (fun (Ql:Int×Int×List Flg×List Seg×List Lay_×List Exper×Unit) j4n=>Fits Qe->CAt Qe Ql.1 (fun y7=>Qb list Ql.2.1 (5:Int) fun Qr z67=>InI ((1:Int)+Qr)/\Qb list z67 (6:Int) fun Uq Bo=>Qb list Bo (4:Int) fun V6 z54=>InI ((1:Int)+V6)/\LpH (fun (Ur:Int×Int×List Val×List Exper×List Lay_×List Flg×List Seg×Unit) (u02:Int×Int×List Val×List Exper×List Lay_×List Flg×List Seg×Unit->Prop)=>Cnd (Ur.1<1+V6) (Z8 list Ur.2.1 ((1:Int)+Qr) fun Q8 w5m=>Sml (Ur.2.2.1++[Q8]).length/\InI (Ur.1+1)/\u02 (Ur.1+1,w5m,Ur.2.2.1++[Q8],Ur.2.2.2.1,Ur.2.2.2.2.1,Ur.2.2.2.2.2.1,Ur.2.2.2.2.2.2.1,())) (Qb list Ur.2.1 ((1:Int)+V6) fun Q8 w5m=>InI ((1:Int)+Q8)/\LpH (fun (V5:Int×List Prq×Int×List Seg×List Flg×List Lay_×List Exper×List Val×Unit) (v9r:Int×List Prq×Int×List Seg×List Flg×List Lay_×List Exper×List Val×Unit->Prop)=>Fits V5.2.2.2.2.1->Cnd (V5.1<(↑V5.2.2.2.2.1.length:Int)) (Qb list V5.2.2.1 (4:Int) fun Bc y9c=>Cnd (Bc=1) (At V5.2.2.2.2.1 V5.1 fun y17=>At V5.2.2.2.2.1 V5.1 fun y19=>Fits y19.3->Qb list y9c (↑y19.3.length:Int) fun y66 u03=>InI ((1:Int)+y66)/\Sml (V5.2.1++[Prq.mk y17.1 ((1:Int)+y66)]).length/\InI (V5.1+1)/\v9r (V5.1+1,V5.2.1++[Prq.mk y17.1 ((1:Int)+y66)],u03,V5.2.2.2.1,V5.2.2.2.2.1,V5.2.2.2.2.2.1,V5.2.2.2.2.2.2.1,V5.2.2.2.2.2.2.2.1,())) (InI (V5.1+1)/\v9r (V5.1+1,V5.2.1,y9c,V5.2.2.2.1,V5.2.2.2.2.1,V5.2.2.2.2.2.1,V5.2.2.2.2.2.2.1,V5.2.2.2.2.2.2.2.1,()))) (LpH (fun (Bc:Int×List Tgt×Int×List Val×List Exper×List Lay_×List Flg×List Seg×List Prq×Unit) (y9d:Int×List Tgt×Int×List Val×List Exper×List Lay_×List Flg×List Seg×List Prq×Unit->Prop)=>Qb list Bc.2.2.1 (3:Int) fun v9s y9e=>Cnd (Bc.1<v9s) (Qb list y9e ((1:Int)+V6) fun G7 y67=>InI ((1:Int)+G7)/\q4e list y67 fun Z4 y68=>Jn1 (fun (q3z:ByteArray×Int×List ByteArray×List Prq×List Seg×List Flg×List Lay_×List Exper×List Val×List Tgt×Unit)=>Fits q3z.2.2.1->Cnd ((0:Int)<(↑q3z.2.2.1.length:Int)) (Sml (q3z.2.2.2.2.2.2.2.2.2.1++[Tgt.mk q3z.1 ((1:Int)+G7) q3z.2.2.1]).length/\InI (Bc.1+1)/\y9d (Bc.1+1,q3z.2.2.2.2.2.2.2.2.2.1++[Tgt.mk q3z.1 ((1:Int)+G7) q3z.2.2.1],q3z.2.1,q3z.2.2.2.2.2.2.2.2.1,q3z.2.2.2.2.2.2.2.1,q3z.2.2.2.2.2.2.1,q3z.2.2.2.2.2.1,q3z.2.2.2.2.1,q3z.2.2.2.1,())) (InI (Bc.1+1)/\y9d (Bc.1+1,q3z.2.2.2.2.2.2.2.2.2.1,q3z.2.1,q3z.2.2.2.2.2.2.2.2.1,q3z.2.2.2.2.2.2.2.1,q3z.2.2.2.2.2.2.1,q3z.2.2.2.2.2.1,q3z.2.2.2.2.1,q3z.2.2.2.1,()))) fun (y9f:ByteArray×Int×List ByteArray×List Prq×List Seg×List Flg×List Lay_×List Exper×List Val×List Tgt×Unit->Prop)=>Qb list y68 (4:Int) fun u04 y9g=>Cnd (u04=1) (y9f (ByteArray.mk (Array.mk [100,101,118,105,99,101]),y9g,Z4,Bc.2.2.2.2.2.2.2.2.1,Bc.2.2.2.2.2.2.2.1,Bc.2.2.2.2.2.2.1,Bc.2.2.2.2.2.1,Bc.2.2.2.2.1,Bc.2.2.2.1,Bc.2.1,())) (y9f (ByteArray.mk (Array.mk [117,115,101,114]),y9g,Z4,Bc.2.2.2.2.2.2.2.2.1,Bc.2.2.2.2.2.2.2.1,Bc.2.2.2.2.2.2.1,Bc.2.2.2.2.2.1,Bc.2.2.2.2.1,Bc.2.2.2.1,Bc.2.1,()))) (Jn1 (fun (G7:Int×List Rul×List ByteArray×List Prq×List Seg×List Flg×List Lay_×List Exper×List Val×List Tgt×Unit)=>z56 list G7.1 ((1:Int)+V6) fun Z4 y68=>Sml (G7.2.2.2.2.2.1++[Flg.mk y7 ((1:Int)+Qr) G7.2.2.2.2.2.2.2.2.1 (decide (Uq<5)) ((1:Int)+Q8) G7.2.2.2.1 G7.2.2.2.2.2.2.2.2.2.1 G7.2.1 Z4]).length/\InI (Ql.1+1)/\j4n (Ql.1+1,y68,G7.2.2.2.2.2.1++[Flg.mk y7 ((1:Int)+Qr) G7.2.2.2.2.2.2.2.2.1 (decide (Uq<5)) ((1:Int)+Q8) G7.2.2.2.1 G7.2.2.2.2.2.2.2.2.2.1 G7.2.1 Z4],G7.2.2.2.2.1,G7.2.2.2.2.2.2.1,G7.2.2.2.2.2.2.2.1,())) fun (y69:Int×List Rul×List ByteArray×List Prq×List Seg×List Flg×List Lay_×List Exper×List Val×List Tgt×Unit->Prop)=>LpH (fun (Z4:Int×Int×List Rul×List ByteArray×List Prq×List Seg×List Flg×List Lay_×List Exper×List Val×List Tgt×Unit) (u05:Int×Int×List Rul×List ByteArray×List Prq×List Seg×List Flg×List Lay_×List Exper×List Val×List Tgt×Unit->Prop)=>Qb list Z4.2.1 (5:Int) fun q3z y2v=>Cnd (Z4.1<q3z) (At Z4.2.2.2.1 Z4.1 fun y21=>H9 (Envt.mk (Sett.mk Zl w5n j98) v91 Z4.2.2.2.2.2.1 Z4.2.2.2.2.2.2.1 Z4.2.2.2.2.2.2.2.1 Z4.2.2.2.2.2.2.2.2.1) fun u06=>q4f list y2v u06 (3:Int) fun Ze u07=>z56 list u07 ((1:Int)+V6) fun z3g v9t=>Sml (Z4.2.2.1++[Rul.mk y21 (Ex.mk Ze.1 Ze.2 Ze.3 Ze.4 Ze.5) z3g]).length/\Z0 (Z4.2.2.1++[Rul.mk y21 (Ex.mk Ze.1 Ze.2 Ze.3 Ze.4 Ze.5) z3g]) fun y9h _ u08=>Cnd (u08=true) (Fits y9h->Cnd ((0:Int)<(↑y9h.length:Int)) ((Z4.2.2.1++[Rul.mk y21 (Ex.mk Ze.1 Ze.2 Ze.3 Ze.4 Ze.5) z3g]).length<=(9223372036854775807:Nat)->InI ((↑(Z4.2.2.1++[Rul.mk y21 (Ex.mk Ze.1 Ze.2 Ze.3 Ze.4 Ze.5) z3g]).length:Int) - 1)/\((0:Int)<=(↑(Z4.2.2.1++[Rul.mk y21 (Ex.mk Ze.1 Ze.2 Ze.3 Ze.4 Ze.5) z3g]).length:Int) - 1/\(↑(Z4.2.2.1++[Rul.mk y21 (Ex.mk Ze.1 Ze.2 Ze.3 Ze.4 Ze.5) z3g]).length:Int) - 1<=(↑(Z4.2.2.1++[Rul.mk y21 (Ex.mk Ze.1 Ze.2 Ze.3 Ze.4 Ze.5) z3g]).length:Int))/\y69 (v9t,List.take ((↑(Z4.2.2.1++[Rul.mk y21 (Ex.mk Ze.1 Ze.2 Ze.3 Ze.4 Ze.5) z3g]).length:Int) - 1).toNat (Z4.2.2.1++[Rul.mk y21 (Ex.mk Ze.1 Ze.2 Ze.3 Ze.4 Ze.5) z3g]),Z4.2.2.2.1,Z4.2.2.2.2.1,Z4.2.2.2.2.2.1,Z4.2.2.2.2.2.2.1,Z4.2.2.2.2.2.2.2.1,Z4.2.2.2.2.2.2.2.2.1,Z4.2.2.2.2.2.2.2.2.2.1,Z4.2.2.2.2.2.2.2.2.2.2.1,())) (InI (Z4.1+1)/\u05 (Z4.1+1,v9t,Z4.2.2.1++[Rul.mk y21 (Ex.mk Ze.1 Ze.2 Ze.3 Ze.4 Ze.5) z3g],Z4.2.2.2.1,Z4.2.2.2.2.1,Z4.2.2.2.2.2.1,Z4.2.2.2.2.2.2.1,Z4.2.2.2.2.2.2.2.1,Z4.2.2.2.2.2.2.2.2.1,Z4.2.2.2.2.2.2.2.2.2.1,Z4.2.2.2.2.2.2.2.2.2.2.1,()))) ((Z4.2.2.1++[Rul.mk y21 (Ex.mk Ze.1 Ze.2 Ze.3 Ze.4 Ze.5) z3g]).length<=(9223372036854775807:Nat)->InI ((↑(Z4.2.2.1++[Rul.mk y21 (Ex.mk Ze.1 Ze.2 Ze.3 Ze.4 Ze.5) z3g]).length:Int) - 1)/\((0:Int)<=(↑(Z4.2.2.1++[Rul.mk y21 (Ex.mk Ze.1 Ze.2 Ze.3 Ze.4 Ze.5) z3g]).length:Int) - 1/\(↑(Z4.2.2.1++[Rul.mk y21 (Ex.mk Ze.1 Ze.2 Ze.3 Ze.4 Ze.5) z3g]).length:Int) - 1<=(↑(Z4.2.2.1++[Rul.mk y21 (Ex.mk Ze.1 Ze.2 Ze.3 Ze.4 Ze.5) z3g]).length:Int))/\y69 (v9t,List.take ((↑(Z4.2.2.1++[Rul.mk y21 (Ex.mk Ze.1 Ze.2 Ze.3 Ze.4 Ze.5) z3g]).length:Int) - 1).toNat (Z4.2.2.1++[Rul.mk y21 (Ex.mk Ze.1 Ze.2 Ze.3 Ze.4 Ze.5) z3g]),Z4.2.2.2.1,Z4.2.2.2.2.1,Z4.2.2.2.2.2.1,Z4.2.2.2.2.2.2.1,Z4.2.2.2.2.2.2.2.1,Z4.2.2.2.2.2.2.2.2.1,Z4.2.2.2.2.2.2.2.2.2.1,Z4.2.2.2.2.2.2.2.2.2.2.1,()))) (y69 (y2v,Z4.2.2.1,Z4.2.2.2.1,Z4.2.2.2.2.1,Z4.2.2.2.2.2.1,Z4.2.2.2.2.2.2.1,Z4.2.2.2.2.2.2.2.1,Z4.2.2.2.2.2.2.2.2.1,Z4.2.2.2.2.2.2.2.2.2.1,Z4.2.2.2.2.2.2.2.2.2.2.1,()))) ((0:Int),y9e,[],[ByteArray.mk (Array.mk [102,105,114,115,116]),ByteArray.mk (Array.mk [115,101,99,111,110,100]),ByteArray.mk (Array.mk [116,104,105,114,100]),ByteArray.mk (Array.mk [102,111,117,114,116,104])],Bc.2.2.2.2.2.2.2.2.1,Bc.2.2.2.2.2.2.2.1,Bc.2.2.2.2.2.2.1,Bc.2.2.2.2.2.1,Bc.2.2.2.2.1,Bc.2.2.2.1,Bc.2.1,()))) ((0:Int),[],V5.2.2.1,V5.2.2.2.2.2.2.2.1,V5.2.2.2.2.2.2.1,V5.2.2.2.2.2.1,V5.2.2.2.2.1,V5.2.2.2.1,V5.2.1,()))) ((0:Int),[],w5m,Ur.2.2.2.2.2.2.1,Ur.2.2.2.2.2.1,Ur.2.2.2.2.1,Ur.2.2.2.1,Ur.2.2.1,()))) ((0:Int),z54,[],Ql.2.2.2.2.2.1,Ql.2.2.2.2.1,Ql.2.2.1,Ql.2.2.2.1,())) (Qb list Ql.2.1 (3:Int) fun Js z7p=>q2s Js [ByteArray.mk (Array.mk [108,97]),ByteArray.mk (Array.mk [108,98])] fun Wb=>LpH (fun (Qr:Int×Int×List Lay_×List Exper×List Seg×List Flg×Unit) (y60:Int×Int×List Lay_×List Exper×List Seg×List Flg×Unit->Prop)=>Fits Wb->CAt Wb Qr.1 (fun y11=>j2j list Qr.2.1 y11 fun Q8 w5m=>Sml (Qr.2.2.1++[Q8]).length/\InI (Qr.1+1)/\y60 (Qr.1+1,w5m,Qr.2.2.1++[Q8],Qr.2.2.2.1,Qr.2.2.2.2.1,Qr.2.2.2.2.2.1,())) (Qb list Qr.2.1 (4:Int) fun V6 z54=>q2s V6 [ByteArray.mk (Array.mk [120,97]),ByteArray.mk (Array.mk [120,98]),ByteArray.mk (Array.mk [120,99])] fun Ur=>LpH (fun (Q8:Int×Int×List Exper×List Flg×List Seg×List Lay_×Unit) (y9i:Int×Int×List Exper×List Flg×List Seg×List Lay_×Unit->Prop)=>Fits Ur->Cnd (Q8.1<(↑Ur.length:Int)) (Fits Q8.2.2.2.1->Cnd ((0:Int)<(↑Q8.2.2.2.1.length:Int)) (Fits Q8.2.2.2.2.2.1->Cnd ((0:Int)<(↑Q8.2.2.2.2.2.1.length:Int)) (At Ur Q8.1 fun y17=>Fits Q8.2.2.2.1->Qb list Q8.2.1 (↑Q8.2.2.2.1.length:Int) fun q3z y2v=>At Q8.2.2.2.1 q3z fun y21=>Fits Q8.2.2.2.2.2.1->Fits y21.3->Qb list y2v (↑Q8.2.2.2.2.2.1.length:Int) fun z3g v9t=>At Q8.2.2.2.2.2.1 z3g fun y26=>Wa list v9t fun w1a u09=>Qb list u09 (3:Int) fun y2w u1a=>InI ((1:Int)+y2w)/\q2t list u1a (↑y21.3.length:Int) fun y7a y9j=>Jn1 (fun (q5x:Int×Int×List Rng×List Exper×List Lay_×List Flg×List Seg×Unit)=>Jn1 (fun (Zd:Int×ByteArray×ByteArray×List Val×List Ex×Int×List Seg×List Flg×List Lay_×List Exper×List Rng×Unit)=>z7f (Envt.mk (Sett.mk Zl w5n j98) v91 Zd.2.2.2.2.2.2.1 Zd.2.2.2.2.2.2.2.1 Zd.2.2.2.2.2.2.2.2.1 Zd.2.2.2.2.2.2.2.2.2.1) y26.1 now fun (y7b:List Spn) (_:Int)=>Wm list Zd.2.2.2.2.2.1 (8000:Int) fun (y7c u1b:Int)=>Wm list u1b (8000:Int) fun (v01 y7d:Int)=>Gi y7b [Spn.mk y7c v01] fun (u1c:List Spn)=>Wm list y7d (7000:Int) fun (u1d y9k:Int)=>z3f u1c u1d fun (w1b:List Spn)=>Sml (Zd.2.2.2.2.2.2.2.2.2.1++[Exper.mk y17 y26.1 y21.1 w1a q5x.1 w1b Zd.2.2.2.2.2.2.2.2.2.2.1 (Ex.mk Zd.1 Zd.2.1 Zd.2.2.1 Zd.2.2.2.1 Zd.2.2.2.2.1)]).length/\q0t (Envt.mk (Sett.mk Zl w5n j98) v91 Zd.2.2.2.2.2.2.1 Zd.2.2.2.2.2.2.2.1 Zd.2.2.2.2.2.2.2.2.1 (Zd.2.2.2.2.2.2.2.2.2.1++[Exper.mk y17 y26.1 y21.1 w1a q5x.1 w1b Zd.2.2.2.2.2.2.2.2.2.2.1 (Ex.mk Zd.1 Zd.2.1 Zd.2.2.1 Zd.2.2.2.1 Zd.2.2.2.2.1)])) fun (u1e:Bool)=>Cnd (u1e=true) (InI (Q8.1+1)/\y9i (Q8.1+1,y9k,Zd.2.2.2.2.2.2.2.2.2.1++[Exper.mk y17 y26.1 y21.1 w1a q5x.1 w1b Zd.2.2.2.2.2.2.2.2.2.2.1 (Ex.mk Zd.1 Zd.2.1 Zd.2.2.1 Zd.2.2.2.1 Zd.2.2.2.2.1)],Zd.2.2.2.2.2.2.2.1,Zd.2.2.2.2.2.2.1,Zd.2.2.2.2.2.2.2.2.1,())) ((Zd.2.2.2.2.2.2.2.2.2.1++[Exper.mk y17 y26.1 y21.1 w1a q5x.1 w1b Zd.2.2.2.2.2.2.2.2.2.2.1 (Ex.mk Zd.1 Zd.2.1 Zd.2.2.1 Zd.2.2.2.1 Zd.2.2.2.2.1)]).length<=(9223372036854775807:Nat)->InI ((↑(Zd.2.2.2.2.2.2.2.2.2.1++[Exper.mk y17 y26.1 y21.1 w1a q5x.1 w1b Zd.2.2.2.2.2.2.2.2.2.2.1 (Ex.mk Zd.1 Zd.2.1 Zd.2.2.1 Zd.2.2.2.1 Zd.2.2.2.2.1)]).length:Int) - 1)/\((0:Int)<=(↑(Zd.2.2.2.2.2.2.2.2.2.1++[Exper.mk y17 y26.1 y21.1 w1a q5x.1 w1b Zd.2.2.2.2.2.2.2.2.2.2.1 (Ex.mk Zd.1 Zd.2.1 Zd.2.2.1 Zd.2.2.2.1 Zd.2.2.2.2.1)]).length:Int) - 1/\(↑(Zd.2.2.2.2.2.2.2.2.2.1++[Exper.mk y17 y26.1 y21.1 w1a q5x.1 w1b Zd.2.2.2.2.2.2.2.2.2.2.1 (Ex.mk Zd.1 Zd.2.1 Zd.2.2.1 Zd.2.2.2.1 Zd.2.2.2.2.1)]).length:Int) - 1<=(↑(Zd.2.2.2.2.2.2.2.2.2.1++[Exper.mk y17 y26.1 y21.1 w1a q5x.1 w1b Zd.2.2.2.2.2.2.2.2.2.2.1 (Ex.mk Zd.1 Zd.2.1 Zd.2.2.1 Zd.2.2.2.1 Zd.2.2.2.2.1)]).length:Int))/\InI (Q8.1+1)/\y9i (Q8.1+1,y9k,List.take ((↑(Zd.2.2.2.2.2.2.2.2.2.1++[Exper.mk y17 y26.1 y21.1 w1a q5x.1 w1b Zd.2.2.2.2.2.2.2.2.2.2.1 (Ex.mk Zd.1 Zd.2.1 Zd.2.2.1 Zd.2.2.2.1 Zd.2.2.2.2.1)]).length:Int) - 1).toNat (Zd.2.2.2.2.2.2.2.2.2.1++[Exper.mk y17 y26.1 y21.1 w1a q5x.1 w1b Zd.2.2.2.2.2.2.2.2.2.2.1 (Ex.mk Zd.1 Zd.2.1 Zd.2.2.1 Zd.2.2.2.1 Zd.2.2.2.2.1)]),Zd.2.2.2.2.2.2.2.1,Zd.2.2.2.2.2.2.1,Zd.2.2.2.2.2.2.2.2.1,()))) fun (y9l:Int×ByteArray×ByteArray×List Val×List Ex×Int×List Seg×List Flg×List Lay_×List Exper×List Rng×Unit->Prop)=>Qb list q5x.2.1 (2:Int) fun (y7b y9m:Int)=>Cnd (y7b=1) (H9 (Envt.mk (Sett.mk Zl w5n j98) v91 q5x.2.2.2.2.2.2.1 q5x.2.2.2.2.2.1 q5x.2.2.2.2.1 q5x.2.2.2.1) fun (y7c:List ByteArray)=>q4f list y9m y7c (2:Int) fun (v01:Ex) (y7d:Int)=>y9l (v01.1,v01.2,v01.3,v01.4,v01.5,y7d,q5x.2.2.2.2.2.2.1,q5x.2.2.2.2.2.1,q5x.2.2.2.2.1,q5x.2.2.2.1,q5x.2.2.1,())) (y9l ((1:Int),ByteArray.mk (Array.mk []),ByteArray.mk (Array.mk []),[],[],y9m,q5x.2.2.2.2.2.2.1,q5x.2.2.2.2.2.1,q5x.2.2.2.2.1,q5x.2.2.2.1,q5x.2.2.1,()))) fun (y7e:Int×Int×List Rng×List Exper×List Lay_×List Flg×List Seg×Unit->Prop)=>Cnd ((1:Int)+y2w=1) (Qb list y9j (2:Int) fun Zd y9n=>Cnd (Zd=0) (y7e ((2:Int),y9n,y7a,Q8.2.2.1,Q8.2.2.2.2.2.1,Q8.2.2.2.1,Q8.2.2.2.2.1,())) (y7e ((1:Int)+y2w,y9n,y7a,Q8.2.2.1,Q8.2.2.2.2.2.1,Q8.2.2.2.1,Q8.2.2.2.2.1,()))) (y7e ((1:Int)+y2w,y9j,y7a,Q8.2.2.1,Q8.2.2.2.2.2.1,Q8.2.2.2.1,Q8.2.2.2.2.1,()))) (q0t (Envt.mk (Sett.mk Zl w5n j98) v91 Q8.2.2.2.2.1 Q8.2.2.2.1 Q8.2.2.2.2.2.1 Q8.2.2.1) fun v9s=>Cnd (v9s=true) (K (Envt.mk (Sett.mk Zl w5n j98) v91 Q8.2.2.2.2.1 Q8.2.2.2.1 Q8.2.2.2.2.2.1 Q8.2.2.1) Q8.2.1) (Q2 fun G7=>K (Envt.mk (Sett.mk (ByteArray.mk (Array.mk [])) (ByteArray.mk (Array.mk [])) (0:Int)) G7 [] [] [] []) Q8.2.1))) (q0t (Envt.mk (Sett.mk Zl w5n j98) v91 Q8.2.2.2.2.1 Q8.2.2.2.1 Q8.2.2.2.2.2.1 Q8.2.2.1) fun Bc=>Cnd (Bc=true) (K (Envt.mk (Sett.mk Zl w5n j98) v91 Q8.2.2.2.2.1 Q8.2.2.2.1 Q8.2.2.2.2.2.1 Q8.2.2.1) Q8.2.1) (Q2 fun v9s=>K (Envt.mk (Sett.mk (ByteArray.mk (Array.mk [])) (ByteArray.mk (Array.mk [])) (0:Int)) v9s [] [] [] []) Q8.2.1))) (q0t (Envt.mk (Sett.mk Zl w5n j98) v91 Q8.2.2.2.2.1 Q8.2.2.2.1 Q8.2.2.2.2.2.1 Q8.2.2.1) fun w8e=>Cnd (w8e=true) (K (Envt.mk (Sett.mk Zl w5n j98) v91 Q8.2.2.2.2.1 Q8.2.2.2.1 Q8.2.2.2.2.2.1 Q8.2.2.1) Q8.2.1) (Q2 fun Bc=>K (Envt.mk (Sett.mk (ByteArray.mk (Array.mk [])) (ByteArray.mk (Array.mk [])) (0:Int)) Bc [] [] [] []) Q8.2.1))) ((0:Int),z54,Qr.2.2.2.1,Qr.2.2.2.2.2.1,Qr.2.2.2.2.1,Qr.2.2.1,()))) ((0:Int),z7p,Ql.2.2.2.2.1,Ql.2.2.2.2.2.1,Ql.2.2.2.1,Ql.2.2.1,()))) ((0:Int),H7,u12,u11,u13,u14,())) fun j6w=>Qb list at_ (2:Int) fun Qf Zl=>Cnd (Qf=1) (Wa list Zl fun Qi H7=>Wm list H7 (2500:Int) fun Qe Jr=>j6w (Qi,ByteArray.mk (Array.mk [117,115,101,114]),Qe,Jr,Qa,())) (j6w (ByteArray.mk (Array.mk []),ByteArray.mk (Array.mk []),(0:Int),Zl,Qa,()))
def q1q:Hu:=q74 Us q8z J2 j6k Bg j0j j0n q09 j0m Uh j0s z1o z4b z6m z6h q7s z1u q0g
abbrev Rk:Type:=Int->(Bool->Prop)->Prop
def U1:Rk:=fun op K=>Cnd ((6:Int)<=op) (K (decide (op<=15))) (K false)
abbrev Za:Type:=List (ByteArray)->List (ByteArray)->(Bool->Prop)->Prop
def Zn:Za:=fun s1 s2 K=>Fits s1->Fits s2->Cnd ((↑s1.length:Int)=(↑s2.length:Int)) (Fits s1->Lp1 (fun Qi z92=>CAt s1 Qi (fun y4=>At s2 Qi fun y6=>Cnd (y4=y6) (InI (Qi+1)/\z92 (Qi+1)) (K false)) (K true)) (0:Int)) (K false)
abbrev q42:Type:=Val->Val->(Bool->Prop)->Prop
def z4o(Qp:Za):q42:=fun a b K=>Cnd (a.1=b.1) (Cnd (a.2=b.2) (Cnd (a.3=b.3) (Qp a.4 b.4 fun Qa=>K Qa) (K false)) (K false)) (K false)
def q01:q42:=z4o Zn
abbrev Hw:Type:=Ex->Ex->(Bool->Prop)->Prop
def z81(q9v:q42)(X:Hw):Hw:=fun a b K=>Cnd (a.1=b.1) (Cnd (a.2=b.2) (Cnd (a.3=b.3) (Fits a.4->Fits b.4->Cnd ((↑a.4.length:Int)=(↑b.4.length:Int)) (Fits a.4->Lp1 (fun Qi z92=>CAt a.4 Qi (fun y4=>At b.4 Qi fun y6=>q9v y4 y6 fun Wb=>Cnd (Wb=true) (InI (Qi+1)/\z92 (Qi+1)) (K false)) (Fits a.5->Fits b.5->Cnd ((↑a.5.length:Int)=(↑b.5.length:Int)) (Fits a.5->Lp1 (fun Js y61=>CAt a.5 Js (fun y8=>At b.5 Js fun y10=>X (Ex.mk y8.1 y8.2 y8.3 y8.4 y8.5) (Ex.mk y10.1 y10.2 y10.3 y10.4 y10.5) fun Ur=>Cnd (Ur=true) (InI (Js+1)/\y61 (Js+1)) (K false)) (K true)) (0:Int)) (K false))) (0:Int)) (K false)) (K false)) (K false)) (K false)
def q0h:Hw:=fun a b K=> ∀X:Hw,(∀a b K,z81 q01 X a b K->X a b K)->X a b K
abbrev Wv:Type:=List (Ex)->Ex->(List (Ex)->Prop)->Prop
def q94(Wo:Rk)(q8u:Hw)(X:Wv):Wv:=fun l e K=>Jn1 (fun Qa=>Fits e.5->Lp2 (fun Qf Zl q7b=>CAt e.5 Zl (fun y3=>X Qf (Ex.mk y3.1 y3.2 y3.3 y3.4 y3.5) fun Ql=>InI (Zl+1)/\q7b Ql (Zl+1)) (K Qf)) Qa (0:Int)) fun q4g=>Wo e.1 fun Qc=>Cnd (Qc=true) (Fits l->Lp1 (fun Qi z92=>CAt l Qi (fun y4=>q8u (Ex.mk y4.1 y4.2 y4.3 y4.4 y4.5) (Ex.mk e.1 e.2 e.3 e.4 e.5) fun Zp=>Cnd (Zp=true) (Cnd ((0:Int)<=Qi) (q4g l) (Sml (l++[Ex.mk e.1 e.2 e.3 e.4 e.5]).length/\q4g (l++[Ex.mk e.1 e.2 e.3 e.4 e.5]))) (InI (Qi+1)/\z92 (Qi+1))) (Cnd ((0:Int)<=(-1:Int)) (q4g l) (Sml (l++[Ex.mk e.1 e.2 e.3 e.4 e.5]).length/\q4g (l++[Ex.mk e.1 e.2 e.3 e.4 e.5])))) (0:Int)) (Cnd (e.1=5) (Fits l->Lp1 (fun Qi z92=>CAt l Qi (fun y4=>q8u (Ex.mk y4.1 y4.2 y4.3 y4.4 y4.5) (Ex.mk e.1 e.2 e.3 e.4 e.5) fun Zp=>Cnd (Zp=true) (Cnd ((0:Int)<=Qi) (q4g l) (Sml (l++[Ex.mk e.1 e.2 e.3 e.4 e.5]).length/\q4g (l++[Ex.mk e.1 e.2 e.3 e.4 e.5]))) (InI (Qi+1)/\z92 (Qi+1))) (Cnd ((0:Int)<=(-1:Int)) (q4g l) (Sml (l++[Ex.mk e.1 e.2 e.3 e.4 e.5]).length/\q4g (l++[Ex.mk e.1 e.2 e.3 e.4 e.5])))) (0:Int)) (q4g l))
def q36:Wv:=fun l e K=> ∀X:Wv,(∀l e K,q94 U1 q0h X l e K->X l e K)->X l e K
abbrev J5:Type:=Val->(Val->Prop)->Prop
def Jj:J5:=fun v K=> ∀n0,(n0=true->v.4=[])->Cnd (n0=true) (K (Val.mk v.1 v.2 v.3 [])) (Sml ([]++v.4).length/\K (Val.mk v.1 v.2 v.3 ([]++v.4)))
abbrev Uu:Type:=Ex->(Ex->Prop)->Prop
def z4p(Q5:J5)(X:Uu):Uu:=fun e K=>Fits e.4->((0:Int)<=(0:Int)/\(0:Int)<=(↑e.4.length:Int)/\Sml (↑e.4.length:Int).toNat)/\(Fits e.4->Lp2 (fun Qf Zl q7b=>CAt e.4 Zl (fun y3=>Q5 y3 fun Ql=>Sml (Qf++[Ql]).length/\InI (Zl+1)/\q7b (Qf++[Ql]) (Zl+1)) (Fits e.5->((0:Int)<=(0:Int)/\(0:Int)<=(↑e.5.length:Int)/\Sml (↑e.5.length:Int).toNat)/\(Fits e.5->Lp2 (fun Ql q7c v90=>CAt e.5 q7c (fun y6=>X (Ex.mk y6.1 y6.2 y6.3 y6.4 y6.5) fun Wb=>Sml (Ql++[Ex.mk Wb.1 Wb.2 Wb.3 Wb.4 Wb.5]).length/\InI (q7c+1)/\v90 (Ql++[Ex.mk Wb.1 Wb.2 Wb.3 Wb.4 Wb.5]) (q7c+1)) (K (Ex.mk e.1 e.2 e.3 Qf Ql))) (List.replicate (Int.toNat (0:Int)) (Ex.mk (0:Int) (ByteArray.mk (Array.mk [])) (ByteArray.mk (Array.mk [])) [] [])) (0:Int)))) (List.replicate (Int.toNat (0:Int)) (Val.mk (0:Int) (0:Int) (ByteArray.mk (Array.mk [])) [])) (0:Int))
def q88:Uu:=fun e K=> ∀X:Uu,(∀e K,z4p Jj X e K->X e K)->X e K
abbrev Bk:Type:=Ex->(List (Ex)->Prop)->Prop
def q95(q4l:Wv)(q9w:Uu):Bk:=fun e K=>q4l [] (Ex.mk e.1 e.2 e.3 e.4 e.5) fun Qa=>Fits Qa->((0:Int)<=(0:Int)/\(0:Int)<=(↑Qa.length:Int)/\Sml (↑Qa.length:Int).toNat)/\(Fits Qa->Lp2 (fun Qi H7 w09=>CAt Qa H7 (fun y4=>q9w (Ex.mk y4.1 y4.2 y4.3 y4.4 y4.5) fun Zp=>Sml (Qi++[Ex.mk Zp.1 Zp.2 Zp.3 Zp.4 Zp.5]).length/\InI (H7+1)/\w09 (Qi++[Ex.mk Zp.1 Zp.2 Zp.3 Zp.4 Zp.5]) (H7+1)) (K Qi)) (List.replicate (Int.toNat (0:Int)) (Ex.mk (0:Int) (ByteArray.mk (Array.mk [])) (ByteArray.mk (Array.mk [])) [] [])) (0:Int))
def q96:Bk:=q95 q36 q88
abbrev Zs:Type:=List (ByteArray)->(List (ByteArray)->Prop)->Prop
def Jh(x:List (ByteArray))(K:List (ByteArray)->Prop):Prop:=K (srt x)
abbrev Jy:Type:=List (ByteArray)->(List (ByteArray)->Prop)->Prop
def Jz(s:List (ByteArray))(K:List (ByteArray)->Prop):Prop:=K (cpt s)
abbrev Gu:Type:=Ex->(List (ByteArray)->Prop)->Prop
def q5j(q4m:Bk)(Qs:Zs)(Z1:Jy):Gu:=fun e K=>q4m (Ex.mk e.1 e.2 e.3 e.4 e.5) fun Qa=>Fits Qa->Lp2 (fun Qf Zl q7b=>CAt Qa Zl (fun y3=>Cnd (y3.1=5) (Sml (Qf++[y3.3]).length/\InI (Zl+1)/\q7b (Qf++[y3.3]) (Zl+1)) (InI (Zl+1)/\q7b Qf (Zl+1))) (Qs Qf fun Qi=>Z1 Qi fun Qe=>K Qe)) [] (0:Int)
def By:Gu:=q5j q96 Jh Jz
abbrev z14:Type:=List (ByteArray)->List (Edg)->(List (ByteArray)->Int->Prop)->Prop
def P_graph_Order(nodes:List (ByteArray))(edges:List (Edg))(K:List (ByteArray)->Int->Prop):Prop:=Go.Fl.P_graph_Order nodes (edges.map fun e=>(e.1,e.2)) K
abbrev Hx:Type:=List (Seg)->(List (ByteArray)->Int->Prop)->Prop
def q75(B8:Gu)(q6v:z14):Hx:=fun l K=>Fits l->Lp3 (fun Qc Z5 z52 v9p=>CAt l z52 (fun y2=>Sml (Qc++[y2.1]).length/\B8 (Ex.mk y2.5.1 y2.5.2 y2.5.3 y2.5.4 y2.5.5) fun Qe=>Fits Qe->Lp2 (fun Zp z0m v9y=>CAt Qe z0m (fun y7=>Sml (Zp++[Edg.mk y2.1 y7]).length/\InI (z0m+1)/\v9y (Zp++[Edg.mk y2.1 y7]) (z0m+1)) (InI (z52+1)/\v9p (Qc++[y2.1]) Zp (z52+1))) Z5 (0:Int)) (q6v Qc Z5 fun Qf Zl=>K Qf Zl)) [] [] (0:Int)
def q1r:Hx:=q75 By P_graph_Order
abbrev Uj:Type:=Subj->ByteArray->(Int->Prop)->Prop
def Hy:Uj:=fun s kind K=>Fits s.1->Lp1 (fun Qc Ry=>CAt s.1 Qc (fun y2=>Cnd (y2.1=kind) (K Qc) (InI (Qc+1)/\Ry (Qc+1))) (K (-1:Int))) (0:Int)
abbrev Uk:Type:=Attr->(Attr->Prop)->Prop
def q3d(Q5:J5):Uk:=fun a K=>Q5 (Val.mk a.2.1 a.2.2 a.2.3 a.2.4) fun Qa=>K (Attr.mk a.1 Qa)
def Rl:Uk:=q3d Jj
abbrev Hz:Type:=Ctxt->(Ctxt->Prop)->Prop
def q76(R2:Uk):Hz:=fun c K=>Fits c.3->((0:Int)<=(0:Int)/\(0:Int)<=(↑c.3.length:Int)/\Sml (↑c.3.length:Int).toNat)/\(Fits c.3->Lp2 (fun Qf Zl q7b=>CAt c.3 Zl (fun y3=>R2 (Attr.mk y3.1 (Val.mk y3.2.1 y3.2.2 y3.2.3 y3.2.4)) fun Ql=>Sml (Qf++[Attr.mk Ql.1 (Val.mk Ql.2.1 Ql.2.2 Ql.2.3 Ql.2.4)]).length/\InI (Zl+1)/\q7b (Qf++[Attr.mk Ql.1 (Val.mk Ql.2.1 Ql.2.2 Ql.2.3 Ql.2.4)]) (Zl+1)) (K (Ctxt.mk c.1 c.2 Qf))) (List.replicate (Int.toNat (0:Int)) (Attr.mk (ByteArray.mk (Array.mk [])) (Val.mk (0:Int) (0:Int) (ByteArray.mk (Array.mk [])) []))) (0:Int))
def q1s:Hz:=q76 Rl
abbrev Zo:Type:=Subj->ByteArray->(Ctxt->Bool->Prop)->Prop
def q97(Jo:Uj)(q21:Hz):Zo:=fun s kind K=>Jo (Subj.mk s.1) kind fun Qa=>Cnd (Qa<0) (K (Ctxt.mk (ByteArray.mk (Array.mk [])) (ByteArray.mk (Array.mk [])) []) false) (At s.1 Qa fun y1=>q21 y1 fun Qi=>K Qi true)
def Ww:Zo:=q97 Hy q1s
abbrev Wg:Type:=Subj->ByteArray->ByteArray->(Val->Bool->Prop)->Prop
def q5k(Jo:Uj)(Q5:J5):Wg:=fun s kind name K=>Jo (Subj.mk s.1) kind fun Qa=>Cnd (Qa<0) (K (Val.mk (0:Int) (0:Int) (ByteArray.mk (Array.mk [])) []) false) (At s.1 Qa fun y1=>Cnd (name=ByteArray.mk (Array.mk [107,101,121])) (K (Val.mk (3:Int) (0:Int) y1.2 []) true) (Fits y1.3->Lp5 (fun Qe Jr j2b v9z (u0v:List ByteArray) y9t=>CAt y1.3 Qe (fun y5=>Cnd (y5.1=name) (Q5 (Val.mk y5.2.1 y5.2.2 y5.2.3 y5.2.4) fun Js=>K Js true) (InI (Qe+1)/\y9t (Qe+1) Jr j2b v9z u0v)) (K (Val.mk (0:Int) (0:Int) (ByteArray.mk (Array.mk [])) []) false)) (0:Int) (0:Int) (0:Int) (ByteArray.mk (Array.mk [])) []))
def Gv:Wg:=q5k Hy Jj
abbrev q1t:Type:=Val->Val->(Bool->Prop)->Prop
def z15(Qp:Za):q1t:=fun a b K=>Cnd (a.1=b.1) (Cnd (a.2=b.2) (Cnd (a.3=b.3) (Qp a.4 b.4 fun Qa=>K Qa) (K false)) (K false)) (K false)
def q1u:q1t:=z15 Zn
abbrev Zz:Type:=ByteArray->ByteArray->(Bool->Prop)->Prop
def Jk:Zz:=fun s prefix_ K=>Cnd ((↑prefix_.size:Int)<=(↑s.size:Int)) (((0:Int)<=(0:Int)/\(0:Int)<=(↑prefix_.size:Int)/\(↑prefix_.size:Int)<=(↑s.size:Int))/\K (decide (s.extract (Int.toNat (0:Int)) (↑prefix_.size:Int).toNat=prefix_))) (K false)
abbrev W8:Type:=ByteArray->ByteArray->(Bool->Prop)->Prop
def q0i(Q6:Zz):W8:=fun s prefix_ K=>Q6 s prefix_ fun Qa=>K Qa
def U2:W8:=q0i Jk
abbrev Wk:Type:=ByteArray->ByteArray->(Bool->Prop)->Prop
def U3:Wk:=fun s suffix K=>Cnd ((↑suffix.size:Int)<=(↑s.size:Int)) (InI ((↑s.size:Int) - (↑suffix.size:Int))/\((0:Int)<=(↑s.size:Int) - (↑suffix.size:Int)/\(↑s.size:Int) - (↑suffix.size:Int)<=(↑s.size:Int)/\(↑s.size:Int)<=(↑s.size:Int))/\K (decide (s.extract ((↑s.size:Int) - (↑suffix.size:Int)).toNat (↑s.size:Int).toNat=suffix))) (K false)
abbrev W9:Type:=ByteArray->ByteArray->(Bool->Prop)->Prop
def q0j(Wp:Wk):W9:=fun s suffix K=>Wp s suffix fun Qa=>K Qa
def U4:W9:=q0j U3
abbrev q1v:Type:=ByteArray->ByteArray->(Bool->Prop)->Prop
def q1w(s:ByteArray)(substr:ByteArray)(K:Bool->Prop):Prop:=s.size<4294967281/\K (Go.Lib.contains s.data.toList substr.data.toList)
abbrev q6a:Type:=Val->(Bool->Prop)->Prop
def q6b:q6a:=fun v K=>Jn1 (fun Qa=>Cnd (Qa=true) (Cnd (v.3=ByteArray.mk (Array.mk [])) (Fits v.4->K (decide ((↑v.4.length:Int)=0))) (K false)) (Jn1 (fun Qc=>Cnd (Qc=true) (Cnd (v.2=0) (Fits v.4->K (decide ((↑v.4.length:Int)=0))) (K false)) (Cnd (v.2=0) (K (decide (v.3=ByteArray.mk (Array.mk [])))) (K false))) fun j6w=>Cnd (v.1=3) (j6w (decide (v.1=3))) (j6w (decide (v.1=4))))) fun q4g=>Cnd (v.1=1) (q4g (decide (v.1=1))) (q4g (decide (v.1=2)))
abbrev q43:Type:=ByteArray->(Bool->Prop)->Prop
def z4q(Zu:Vo):q43:=fun s K=>Cnd ((200:Int)<(↑s.size:Int)) (K false) (Zu s fun Qa=>Cnd (Qa=true) (Lp1 (fun (Qc:ByteArray×Nat) Ry=>Cnd (Qc.2<Qc.1.size) (Cnd ((↑(Go.Utf8.decode Qc.1 Qc.2).1:Int)<(32:Int)) (K false) (Cnd ((↑(Go.Utf8.decode Qc.1 Qc.2).1:Int)=(127:Int)) (K false) (Ry (Qc.1,Qc.2+(Go.Utf8.decode Qc.1 Qc.2).2)))) (K true)) (s,(0:Nat))) (K false))
def q89:q43:=z4q Vp
abbrev q77:Type:=ByteArray->ByteArray->(List (ByteArray)->Prop)->Prop
def q78(s:ByteArray)(sep:ByteArray)(K:List (ByteArray)->Prop):Prop:=sep.size=1/\s.size<4294967281/\K (q0v s sep)
abbrev Jl:Type:=ByteArray->ByteArray->(ByteArray->Bool->Prop)->Prop
def U5(Q6:Zz):Jl:=fun s prefix_ K=>Q6 s prefix_ fun Qa=>Cnd (Qa=true) (((0:Int)<=(↑prefix_.size:Int)/\(↑prefix_.size:Int)<=(↑s.size:Int)/\(↑s.size:Int)<=(↑s.size:Int))/\K (s.extract (↑prefix_.size:Int).toNat (↑s.size:Int).toNat) true) (K s false)
def U6:Jl:=U5 Jk
abbrev Va:Type:=ByteArray->ByteArray->(ByteArray->Bool->Prop)->Prop
def q0k(Wq:Jl):Va:=fun s prefix_ K=>Wq s prefix_ fun Qa Qz=>K Qa Qz
def U7:Va:=q0k U6
abbrev q98:Type:=ByteArray->(Int->Bool->Prop)->Prop
def q37(s:ByteArray)(K:Int->Bool->Prop):Prop:=s.size<=281474976710656/\y1i s K
abbrev Vs:Type:=ByteArray->(Int->Int->Prop)->Prop
def q1x(Gj:Va)(Bq:q98):Vs:=fun s K=>Gj s (ByteArray.mk (Array.mk [45])) fun Qa Qz=>Cnd (Qa=ByteArray.mk (Array.mk [])) (K (0:Int) (1:Int)) (((0:Int)<=(0:Int)/\(0:Int)<(↑Qa.size:Int))/\ ∀b1,Qa[Int.toNat (0:Int)]? =some b1->Cnd ((↑b1.toNat:Int)=48) (Cnd ((1:Int)<(↑Qa.size:Int)) (K (0:Int) (1:Int)) (Cnd (Qz=true) (K (0:Int) (1:Int)) (Lp1 (fun (Qi:ByteArray×Nat) z92=>Cnd (Qi.2<Qi.1.size) (Cnd ((↑(Go.Utf8.decode Qi.1 Qi.2).1:Int)<(48:Int)) (K (0:Int) (1:Int)) (Cnd ((57:Int)<(↑(Go.Utf8.decode Qi.1 Qi.2).1:Int)) (K (0:Int) (1:Int)) (z92 (Qi.1,Qi.2+(Go.Utf8.decode Qi.1 Qi.2).2)))) (Bq s fun Qe Jr=>Cnd ((match (Qe,Jr,()).2.1 with|true=>false|false=>true)=true) (K (0:Int) (3:Int)) (Cnd (Qe<(-1099511627776:Int)) (K (0:Int) (3:Int)) (Cnd ((1099511627776:Int)<Qe) (K (0:Int) (3:Int)) (K Qe (0:Int)))))) (Qa,(0:Nat))))) (Lp1 (fun (Qi:ByteArray×Nat) z92=>Cnd (Qi.2<Qi.1.size) (Cnd ((↑(Go.Utf8.decode Qi.1 Qi.2).1:Int)<(48:Int)) (K (0:Int) (1:Int)) (Cnd ((57:Int)<(↑(Go.Utf8.decode Qi.1 Qi.2).1:Int)) (K (0:Int) (1:Int)) (z92 (Qi.1,Qi.2+(Go.Utf8.decode Qi.1 Qi.2).2)))) (Bq s fun Qe Jr=>Cnd ((match (Qe,Jr,()).2.1 with|true=>false|false=>true)=true) (K (0:Int) (3:Int)) (Cnd (Qe<(-1099511627776:Int)) (K (0:Int) (3:Int)) (Cnd ((1099511627776:Int)<Qe) (K (0:Int) (3:Int)) (K Qe (0:Int)))))) (Qa,(0:Nat))))
def Ha:Vs:=q1x U7 q37
abbrev U8:Type:=ByteArray->(A3->Bool->Prop)->Prop
def z16(q22:q77)(Hh:Vs):U8:=fun s K=>q22 s (ByteArray.mk (Array.mk [46])) fun Qa=>Fits Qa->Cnd ((↑Qa.length:Int)=3) (Fits Qa->LpH (fun (Qi:Int×Int×Int×Int×Int×Int×Int×Unit) z92=>CAt Qa Qi.1 (fun y4=>Hh y4 fun Zp z0m=>Cnd (z0m=0) (Cnd (Zp<0) (K ((0:Int),(0:Int),(0:Int)) false) (Cnd ((999999:Int)<Zp) (K ((0:Int),(0:Int),(0:Int)) false) (((0:Int)<=Qi.1/\Qi.1<(↑(3:Nat):Int))/\((True/\(Qi.1=(↑(nat_lit 0):Int)->InI (Qi.1+1)/\z92 (Qi.1+1,Zp,Qi.2.2.1,Qi.2.2.2.1,Qi.2.2.2.2.1,Qi.2.2.2.2.2.1,Qi.2.2.2.2.2.2.1,())))/\(Qi.1=(↑(nat_lit 1):Int)->InI (Qi.1+1)/\z92 (Qi.1+1,Qi.2.1,Zp,Qi.2.2.2.1,Qi.2.2.2.2.1,Qi.2.2.2.2.2.1,Qi.2.2.2.2.2.2.1,())))/\(Qi.1=(↑(nat_lit 2):Int)->InI (Qi.1+1)/\z92 (Qi.1+1,Qi.2.1,Qi.2.2.1,Zp,Qi.2.2.2.2.1,Qi.2.2.2.2.2.1,Qi.2.2.2.2.2.2.1,()))))) (K ((0:Int),(0:Int),(0:Int)) false)) (K (Qi.2.1,Qi.2.2.1,Qi.2.2.2.1) true)) ((0:Int),(0:Int),(0:Int),(0:Int),(0:Int),(0:Int),(0:Int),())) (K ((0:Int),(0:Int),(0:Int)) false)
def q1y:U8:=z16 q78 Ha
abbrev q1z:Type:=Val->(Int->Prop)->Prop
def z17(q6w:q6a)(q5d:q43)(J6:U8):q1z:=fun v K=>Cnd (v.1<1) (K (7:Int)) (Cnd ((5:Int)<v.1) (K (7:Int)) (q6w v fun Qa=>Cnd (Qa=true) (Cnd (v.1=1) (Cnd (v.2=0) (K (0:Int)) (Cnd (v.2=1) (K (0:Int)) (K (3:Int)))) (Cnd (v.1=2) (Cnd (v.2<(-1099511627776:Int)) (K (3:Int)) (Cnd ((1099511627776:Int)<v.2) (K (3:Int)) (K (0:Int)))) (Cnd (v.1=3) (q5d v.3 fun Qc=>Cnd (Qc=true) (K (0:Int)) (K (2:Int))) (Cnd (v.1=4) (J6 v.3 fun (_:Int×Int×Int) Z5=>Cnd (Z5=true) (K (0:Int)) (K (1:Int))) (Cnd (v.1=5) (Fits v.4->Cnd ((20:Int)<(↑v.4.length:Int)) (K (5:Int)) (Fits v.4->Lp1 (fun Qi z92=>CAt v.4 Qi (fun y4=>q5d y4 fun Zp=>Cnd (Zp=true) (InI (Qi+1)/\z92 (Qi+1)) (K (2:Int))) (Fits v.4->Lp1 (fun Ql j4n=>Cnd (Ql<(↑v.4.length:Int)) (Cnd ((0:Int)<Ql) (InI (Ql - 1)/\((0:Int)<=Ql - 1/\Ql - 1<(↑v.4.length:Int))/\ ∀y6,v.4[(Ql - 1).toNat]? =some y6->At v.4 Ql fun y8=>Cnd (Lk.blt y6 y8) (InI (Ql+1)/\j4n (Ql+1)) (K (9:Int))) (InI (Ql+1)/\j4n (Ql+1))) (K (0:Int))) (0:Int))) (0:Int))) (K (0:Int))))))) (K (15:Int))))
def q6c:q1z:=z17 q6b q89 q1y
abbrev H0:Type:=Val->Val->(Int->Int->Prop)->Prop
def q79(q23:q1z)(J6:U8):H0:=fun a b K=>q23 a fun Qa=>Cnd (Qa=0) (q23 b fun Qc=>Cnd (Qc=0) (Cnd (a.1=b.1) (Cnd (a.1=1) (K (0:Int) (8:Int)) (Cnd (a.1=5) (K (0:Int) (8:Int)) (Cnd (a.1=2) (Cnd (a.2=a.2) (Cnd (b.2=b.2) (Cnd (a.2<b.2) (K (-1:Int) (0:Int)) (Cnd (b.2<a.2) (K (1:Int) (0:Int)) (K (0:Int) (0:Int)))) (K (1:Int) (0:Int))) (Cnd (b.2=b.2) (K (-1:Int) (0:Int)) (K (0:Int) (0:Int)))) (Cnd (a.1=3) (Cnd (a.3=a.3) (Cnd (b.3=b.3) (Cnd (Lk.blt a.3 b.3) (K (-1:Int) (0:Int)) (Cnd (Lk.blt b.3 a.3) (K (1:Int) (0:Int)) (K (0:Int) (0:Int)))) (K (1:Int) (0:Int))) (Cnd (b.3=b.3) (K (-1:Int) (0:Int)) (K (0:Int) (0:Int)))) (J6 a.3 fun (Qf:Int×Int×Int) _=>J6 b.3 fun (Qi:Int×Int×Int) _=>([Qf.1,Qf.2.1,Qf.2.2].length<=(9223372036854775807:Nat)->Lp1 (fun Ql j4n=>Cnd (Ql<(↑[Qf.1,Qf.2.1,Qf.2.2].length:Int)) (((0:Int)<=Ql/\Ql<(↑[Qf.1,Qf.2.1,Qf.2.2].length:Int))/\ ∀y6,[Qf.1,Qf.2.1,Qf.2.2][Ql.toNat]? =some y6->[Qi.1,Qi.2.1,Qi.2.2].length<=(9223372036854775807:Nat)->Cnd ((↑[Qi.1,Qi.2.1,Qi.2.2].length:Int)<=Ql) (K (1:Int) (0:Int)) (((0:Int)<=Ql/\Ql<(↑[Qi.1,Qi.2.1,Qi.2.2].length:Int))/\ ∀y9,[Qi.1,Qi.2.1,Qi.2.2][Ql.toNat]? =some y9->Cnd (y6=y6) (Cnd (y9=y9) (Cnd (y6<y9) (Cnd ((-1:Int)=(0:Int)) (InI (Ql+1)/\j4n (Ql+1)) (K (-1:Int) (0:Int))) (Cnd (y9<y6) (Cnd ((1:Int)=(0:Int)) (InI (Ql+1)/\j4n (Ql+1)) (K (1:Int) (0:Int))) (Cnd ((0:Int)=(0:Int)) (InI (Ql+1)/\j4n (Ql+1)) (K (0:Int) (0:Int))))) (Cnd ((1:Int)=(0:Int)) (InI (Ql+1)/\j4n (Ql+1)) (K (1:Int) (0:Int)))) (Cnd (y9=y9) (Cnd ((-1:Int)=(0:Int)) (InI (Ql+1)/\j4n (Ql+1)) (K (-1:Int) (0:Int))) (Cnd ((0:Int)=(0:Int)) (InI (Ql+1)/\j4n (Ql+1)) (K (0:Int) (0:Int)))))) ([Qf.1,Qf.2.1,Qf.2.2].length<=(9223372036854775807:Nat)->[Qi.1,Qi.2.1,Qi.2.2].length<=(9223372036854775807:Nat)->Cnd ((↑[Qf.1,Qf.2.1,Qf.2.2].length:Int)<(↑[Qi.1,Qi.2.1,Qi.2.2].length:Int)) (K (-1:Int) (0:Int)) (K (0:Int) (0:Int)))) (0:Int))/\([Qf.1,Qf.2.1,Qf.2.2].length<=(9223372036854775807:Nat)->Lp1 (fun Ql j4n=>Cnd (Ql<(↑[Qf.1,Qf.2.1,Qf.2.2].length:Int)) (((0:Int)<=Ql/\Ql<(↑[Qf.1,Qf.2.1,Qf.2.2].length:Int))/\ ∀y6,[Qf.1,Qf.2.1,Qf.2.2][Ql.toNat]? =some y6->[Qi.1,Qi.2.1,Qi.2.2].length<=(9223372036854775807:Nat)->Cnd ((↑[Qi.1,Qi.2.1,Qi.2.2].length:Int)<=Ql) (K (1:Int) (0:Int)) (((0:Int)<=Ql/\Ql<(↑[Qi.1,Qi.2.1,Qi.2.2].length:Int))/\ ∀y9,[Qi.1,Qi.2.1,Qi.2.2][Ql.toNat]? =some y9->Cnd (y6=y6) (Cnd (y9=y9) (Cnd (y6<y9) (Cnd ((-1:Int)=(0:Int)) (InI (Ql+1)/\j4n (Ql+1)) (K (-1:Int) (0:Int))) (Cnd (y9<y6) (Cnd ((1:Int)=(0:Int)) (InI (Ql+1)/\j4n (Ql+1)) (K (1:Int) (0:Int))) (Cnd ((0:Int)=(0:Int)) (InI (Ql+1)/\j4n (Ql+1)) (K (0:Int) (0:Int))))) (Cnd ((1:Int)=(0:Int)) (InI (Ql+1)/\j4n (Ql+1)) (K (1:Int) (0:Int)))) (Cnd (y9=y9) (Cnd ((-1:Int)=(0:Int)) (InI (Ql+1)/\j4n (Ql+1)) (K (-1:Int) (0:Int))) (Cnd ((0:Int)=(0:Int)) (InI (Ql+1)/\j4n (Ql+1)) (K (0:Int) (0:Int)))))) ([Qf.1,Qf.2.1,Qf.2.2].length<=(9223372036854775807:Nat)->[Qi.1,Qi.2.1,Qi.2.2].length<=(9223372036854775807:Nat)->Cnd ((↑[Qf.1,Qf.2.1,Qf.2.2].length:Int)<(↑[Qi.1,Qi.2.1,Qi.2.2].length:Int)) (K (-1:Int) (0:Int)) (K (0:Int) (0:Int)))) (0:Int))))))) (K (0:Int) (8:Int))) (K (0:Int) Qc)) (K (0:Int) Qa)
def H1:H0:=q79 q6c q1y
abbrev q13:Type:=Subj->Ex->(Bool->Prop)->Prop
def z18(Jd:Wg)(Wo:Rk)(R3:q1t)(Gk:W8)(Gl:W9)(Hi:q1v)(Ra:H0):q13:=fun s e K=>Jd (Subj.mk s.1) e.2 e.3 fun Qa Qz=>Cnd (Qz=true) (Wo e.1 fun Qc=>Cnd (Qc=true) (Cnd (e.1=6) (K true) (Cnd (e.1=8) (Fits e.4->Lp1 (fun Qi z92=>CAt e.4 Qi (fun y4=>R3 Qa y4 fun Zp=>Cnd (Zp=true) (K (decide ((0:Int)<=Qi))) (InI (Qi+1)/\z92 (Qi+1))) (K (decide ((0:Int)<=(-1:Int))))) (0:Int)) (Fits e.4->Cnd ((↑e.4.length:Int)=0) (K false) (((0:Int)<=(0:Int)/\(0:Int)<(↑e.4.length:Int))/\ ∀y3,e.4[Int.toNat (0:Int)]? =some y3->Cnd (Qa.1=3) (Cnd (e.1=7) (R3 Qa y3 fun Ql=>K Ql) (Cnd (e.1=9) (Cnd (y3.1=3) (Gk Qa.3 y3.3 fun Ql=>K Ql) (K false)) (Cnd (e.1=10) (Cnd (y3.1=3) (Gl Qa.3 y3.3 fun Ql=>K Ql) (K false)) (Cnd (e.1=11) (Cnd (y3.1=3) (Hi Qa.3 y3.3 fun Ql=>Cnd (Ql=true) (K true) (Cnd (y3.1=3) (Cnd (Qa.1=5) (Fits Qa.4->Lp1 (fun Js y61=>CAt Qa.4 Js (fun y8=>Cnd (y3.3=y8) (K (decide ((0:Int)<=Js))) (InI (Js+1)/\y61 (Js+1))) (K (decide ((0:Int)<=(-1:Int))))) (0:Int)) (K false)) (K false))) (Cnd (y3.1=3) (Cnd (Qa.1=5) (Fits Qa.4->Lp1 (fun Zp v5d=>CAt Qa.4 Zp (fun y7=>Cnd (y3.3=y7) (K (decide ((0:Int)<=Zp))) (InI (Zp+1)/\v5d (Zp+1))) (K (decide ((0:Int)<=(-1:Int))))) (0:Int)) (K false)) (K false))) (Ra Qa y3 fun Ql q7c=>Cnd (q7c=0) (Cnd (e.1=12) (K (decide (Ql<0))) (Cnd (e.1=13) (K (decide (Ql<=0))) (Cnd (e.1=14) (K (decide ((0:Int)<Ql))) (K (decide ((0:Int)<=Ql)))))) (K false)))))) (Cnd (e.1=7) (R3 Qa y3 fun Ql=>K Ql) (Cnd (e.1=9) (K false) (Cnd (e.1=10) (K false) (Cnd (e.1=11) (Cnd (y3.1=3) (Cnd (Qa.1=5) (Fits Qa.4->Lp1 (fun Zp v5d=>CAt Qa.4 Zp (fun y7=>Cnd (y3.3=y7) (K (decide ((0:Int)<=Zp))) (InI (Zp+1)/\v5d (Zp+1))) (K (decide ((0:Int)<=(-1:Int))))) (0:Int)) (K false)) (K false)) (Ra Qa y3 fun Ql q7c=>Cnd (q7c=0) (Cnd (e.1=12) (K (decide (Ql<0))) (Cnd (e.1=13) (K (decide (Ql<=0))) (Cnd (e.1=14) (K (decide ((0:Int)<Ql))) (K (decide ((0:Int)<=Ql)))))) (K false)))))))))) (K false)) (K false)
def Rm:q13:=z18 Gv U1 q1u U2 U4 q1w H1
abbrev Jc:Type:=Subj->List (ByteArray)->Ex->(Bool->Prop)->Prop
def z19(q6x:q13)(X:Jc):Jc:=fun s in_ e K=>Cnd (e.1=1) (K true) (Cnd (e.1=2) (Fits e.5->Lp1 (fun Qc Ry=>CAt e.5 Qc (fun y2=>X (Subj.mk s.1) in_ (Ex.mk y2.1 y2.2 y2.3 y2.4 y2.5) fun Qe=>Cnd (Qe=true) (InI (Qc+1)/\Ry (Qc+1)) (K (match decide ((0:Int)<=Qc) with|true=>false|false=>true))) (K true)) (0:Int)) (Cnd (e.1=3) (Fits e.5->Lp1 (fun Qc Ry=>CAt e.5 Qc (fun y2=>X (Subj.mk s.1) in_ (Ex.mk y2.1 y2.2 y2.3 y2.4 y2.5) fun Qe=>Cnd (Qe=true) (K (decide ((0:Int)<=Qc))) (InI (Qc+1)/\Ry (Qc+1))) (K (decide ((0:Int)<=(-1:Int))))) (0:Int)) (Cnd (e.1=4) (Fits e.5->Cnd ((0:Int)<(↑e.5.length:Int)) (((0:Int)<=(0:Int)/\(0:Int)<(↑e.5.length:Int))/\ ∀y1,e.5[Int.toNat (0:Int)]? =some y1->X (Subj.mk s.1) in_ (Ex.mk y1.1 y1.2 y1.3 y1.4 y1.5) fun Qi=>K (match decide ((Qi,()).1=true) with|true=>false|false=>true)) (K false)) (Cnd (e.1=5) (Fits in_->Lp1 (fun Qc Ry=>CAt in_ Qc (fun y2=>Cnd (e.3=y2) (K (decide ((0:Int)<=Qc))) (InI (Qc+1)/\Ry (Qc+1))) (K (decide ((0:Int)<=(-1:Int))))) (0:Int)) (q6x (Subj.mk s.1) (Ex.mk e.1 e.2 e.3 e.4 e.5) fun Qa=>K Qa)))))
def Vt:Jc:=fun s in_ e K=> ∀X:Jc,(∀s in_ e K,z19 Rm X s in_ e K->X s in_ e K)->X s in_ e K
abbrev Vu:Type:=Seg->Subj->List (ByteArray)->(Bool->Prop)->Prop
def q14(Qn:Zo)(Zc:Jc):Vu:=fun g s in_ K=>Qn (Subj.mk s.1) g.2 fun Qa Qz=>Cnd (Qz=true) (Fits g.4->Lp1 (fun Qf j19=>CAt g.4 Qf (fun y3=>Cnd (Qa.2=y3) (Cnd ((0:Int)<=Qf) (K false) (Fits g.3->Lp1 (fun Zp v5d=>CAt g.3 Zp (fun y7=>Cnd (Qa.2=y7) (Cnd ((0:Int)<=Zp) (K true) (Cnd (g.5.1=0) (K false) (Zc (Subj.mk s.1) in_ (Ex.mk g.5.1 g.5.2 g.5.3 g.5.4 g.5.5) fun Qr=>K Qr))) (InI (Zp+1)/\v5d (Zp+1))) (Cnd ((0:Int)<=(-1:Int)) (K true) (Cnd (g.5.1=0) (K false) (Zc (Subj.mk s.1) in_ (Ex.mk g.5.1 g.5.2 g.5.3 g.5.4 g.5.5) fun Js=>K Js)))) (0:Int))) (InI (Qf+1)/\j19 (Qf+1))) (Cnd ((0:Int)<=(-1:Int)) (K false) (Fits g.3->Lp1 (fun Qe w8i=>CAt g.3 Qe (fun y5=>Cnd (Qa.2=y5) (Cnd ((0:Int)<=Qe) (K true) (Cnd (g.5.1=0) (K false) (Zc (Subj.mk s.1) in_ (Ex.mk g.5.1 g.5.2 g.5.3 g.5.4 g.5.5) fun Js=>K Js))) (InI (Qe+1)/\w8i (Qe+1))) (Cnd ((0:Int)<=(-1:Int)) (K true) (Cnd (g.5.1=0) (K false) (Zc (Subj.mk s.1) in_ (Ex.mk g.5.1 g.5.2 g.5.3 g.5.4 g.5.5) fun Ql=>K Ql)))) (0:Int)))) (0:Int)) (K false)
def Hb:Vu:=q14 Ww Vt
abbrev J0:Type:=List (Seg)->Subj->(List (ByteArray)->Prop)->Prop
def q3e(q24:Hx)(Hj:Vu)(Qs:Zs):J0:=fun l s K=>q24 l fun Qa Qz=>Cnd (Qz=0) (Fits l->Lp2 (fun Qf j19 q7b=>CAt l Qf (fun y3=>InI (Qf+1)/\q7b (Qf+1) (put j19 y3.1 (Seg.mk y3.1 y3.2 y3.3 y3.4 (Ex.mk y3.5.1 y3.5.2 y3.5.3 y3.5.4 y3.5.5)))) (Fits Qa->Lp2 (fun Qe Jr w8h=>CAt Qa Jr (fun y5=>Hj (Seg.mk ((j19 y5).getD (Seg.mk (ByteArray.mk (Array.mk [])) (ByteArray.mk (Array.mk [])) [] [] (Ex.mk (0:Int) (ByteArray.mk (Array.mk [])) (ByteArray.mk (Array.mk [])) [] []))).1 ((j19 y5).getD (Seg.mk (ByteArray.mk (Array.mk [])) (ByteArray.mk (Array.mk [])) [] [] (Ex.mk (0:Int) (ByteArray.mk (Array.mk [])) (ByteArray.mk (Array.mk [])) [] []))).2 ((j19 y5).getD (Seg.mk (ByteArray.mk (Array.mk [])) (ByteArray.mk (Array.mk [])) [] [] (Ex.mk (0:Int) (ByteArray.mk (Array.mk [])) (ByteArray.mk (Array.mk [])) [] []))).3 ((j19 y5).getD (Seg.mk (ByteArray.mk (Array.mk [])) (ByteArray.mk (Array.mk [])) [] [] (Ex.mk (0:Int) (ByteArray.mk (Array.mk [])) (ByteArray.mk (Array.mk [])) [] []))).4 (Ex.mk ((j19 y5).getD (Seg.mk (ByteArray.mk (Array.mk [])) (ByteArray.mk (Array.mk [])) [] [] (Ex.mk (0:Int) (ByteArray.mk (Array.mk [])) (ByteArray.mk (Array.mk [])) [] []))).5.1 ((j19 y5).getD (Seg.mk (ByteArray.mk (Array.mk [])) (ByteArray.mk (Array.mk [])) [] [] (Ex.mk (0:Int) (ByteArray.mk (Array.mk [])) (ByteArray.mk (Array.mk [])) [] []))).5.2 ((j19 y5).getD (Seg.mk (ByteArray.mk (Array.mk [])) (ByteArray.mk (Array.mk [])) [] [] (Ex.mk (0:Int) (ByteArray.mk (Array.mk [])) (ByteArray.mk (Array.mk [])) [] []))).5.3 ((j19 y5).getD (Seg.mk (ByteArray.mk (Array.mk [])) (ByteArray.mk (Array.mk [])) [] [] (Ex.mk (0:Int) (ByteArray.mk (Array.mk [])) (ByteArray.mk (Array.mk [])) [] []))).5.4 ((j19 y5).getD (Seg.mk (ByteArray.mk (Array.mk [])) (ByteArray.mk (Array.mk [])) [] [] (Ex.mk (0:Int) (ByteArray.mk (Array.mk [])) (ByteArray.mk (Array.mk [])) [] []))).5.5)) (Subj.mk s.1) Qe fun Js=>Cnd (Js=true) (Sml (Qe++[y5]).length/\InI (Jr+1)/\w8h (Qe++[y5]) (Jr+1)) (InI (Jr+1)/\w8h Qe (Jr+1))) (Qs Qe fun Ql=>K Ql)) [] (0:Int))) (0:Int) fun _=>none) (K [])
def Wz:J0:=q3e q1r Hb Jh
abbrev Gw:Type:=Envt->Subj->List (Frc)->(ByteArray->ByteArray->Int->List (Decl)->List (Seg)->List (Flg)->List (Lay_)->List (Exper)->List (Ctxt)->List (Frc)->List (ByteArray)->(ByteArray->Option (Dcs))->(ByteArray->Option (Bool))->Prop)->Prop
def q5l(Q9:J0):Gw:=fun v s forced K=>(Q9 v.3 (Subj.mk s.1) fun Qa=>(K v.1.1 v.1.2 v.1.3 v.2 v.3 v.4 v.5 v.6 s.1 forced Qa (fun _=>none) fun _=>none)/\K v.1.1 v.1.2 v.1.3 v.2 v.3 v.4 v.5 v.6 s.1 forced Qa (fun _=>none) fun _=>none)/\((Q9 v.3 (Subj.mk s.1) fun Qa=>K v.1.1 v.1.2 v.1.3 v.2 v.3 v.4 v.5 v.6 s.1 forced Qa (fun _=>none) fun _=>none)/\Q9 v.3 (Subj.mk s.1) fun Qa=>K v.1.1 v.1.2 v.1.3 v.2 v.3 v.4 v.5 v.6 s.1 forced Qa (fun _=>none) fun _=>none)/\(Q9 v.3 (Subj.mk s.1) fun Qa=>K v.1.1 v.1.2 v.1.3 v.2 v.3 v.4 v.5 v.6 s.1 forced Qa (fun _=>none) fun _=>none)/\Q9 v.3 (Subj.mk s.1) fun Qa=>K v.1.1 v.1.2 v.1.3 v.2 v.3 v.4 v.5 v.6 s.1 forced Qa (fun _=>none) fun _=>none
def Bz:Gw:=q5l Wz
abbrev J9:Type:=ByteArray->ByteArray->Int->List (Decl)->List (Seg)->List (Flg)->List (Lay_)->List (Exper)->List (Ctxt)->List (Frc)->List (ByteArray)->(ByteArray->Option (Dcs))->(ByteArray->Option (Bool))->ByteArray->(Flg->Bool->(ByteArray->Option (Dcs))->(ByteArray->Option (Bool))->Prop)->Prop
def Jm:J9:=fun _ _ _ _ _ flags _ _ _ _ _ done opn key K=>Fits flags->Lp1 (fun Qc Ry=>CAt flags Qc (fun y2=>Cnd (y2.1=key) (Cnd (Qc<0) (K (Flg.mk (ByteArray.mk (Array.mk [])) (0:Int) [] false (0:Int) [] [] [] (Srv.mk (0:Int) (ByteArray.mk (Array.mk [])) (ByteArray.mk (Array.mk [])) (ByteArray.mk (Array.mk [])) [])) false done opn) (At flags Qc fun y4=>K (Flg.mk y4.1 y4.2 y4.3 y4.4 y4.5 y4.6 y4.7 y4.8 (Srv.mk y4.9.1 y4.9.2 y4.9.3 y4.9.4 y4.9.5)) true done opn)) (InI (Qc+1)/\Ry (Qc+1))) (Cnd ((-1:Int)<(0:Int)) (K (Flg.mk (ByteArray.mk (Array.mk [])) (0:Int) [] false (0:Int) [] [] [] (Srv.mk (0:Int) (ByteArray.mk (Array.mk [])) (ByteArray.mk (Array.mk [])) (ByteArray.mk (Array.mk [])) [])) false done opn) (At flags (-1:Int) fun y2=>K (Flg.mk y2.1 y2.2 y2.3 y2.4 y2.5 y2.6 y2.7 y2.8 (Srv.mk y2.9.1 y2.9.2 y2.9.3 y2.9.4 y2.9.5)) true done opn))) (0:Int)
abbrev Ul:Type:=Flg->Subj->(Int->Prop)->Prop
def q3f(Qn:Zo):Ul:=fun f s K=>Fits f.7->Lp1 (fun Qc Ry=>CAt f.7 Qc (fun y2=>Qn (Subj.mk s.1) y2.1 fun Qe Jr=>Cnd (Jr=true) (Fits y2.3->Lp1 (fun Zp v5d=>CAt y2.3 Zp (fun y7=>Cnd (Qe.2=y7) (Cnd ((0:Int)<=Zp) (InI (Qc+1)/\K (Qc+1)) (InI (Qc+1)/\Ry (Qc+1))) (InI (Zp+1)/\v5d (Zp+1))) (Cnd ((0:Int)<=(-1:Int)) (InI (Qc+1)/\K (Qc+1)) (InI (Qc+1)/\Ry (Qc+1)))) (0:Int)) (InI (Qc+1)/\Ry (Qc+1))) (K (0:Int))) (0:Int)
def W0:Ul:=q3f Ww
abbrev q38:Type:=List (List Int)->(List (Int)->Prop)->Prop
def q39:q38:=fun fields K=>Fits fields->Lp2 (fun Qc Z5 z7q=>CAt fields Z5 (fun y2=>Lp2 (fun Qe Jr w8h=>Cnd ((0:Int)<=Jr) (Fits y2->InI ((8:Int)*Jr)/\(0:Int)<=(8:Int)*Jr/\Sml (Qe++[Go.IntKind.u8.wrap ((Go.IntKind.u64.wrap (↑y2.length:Int)).fdiv ((2:Int) ^ Min.min ((8:Int)*Jr).toNat (64:Nat)))]).length/\InI (Jr - 1)/\w8h (Qe++[Go.IntKind.u8.wrap ((Go.IntKind.u64.wrap (↑y2.length:Int)).fdiv ((2:Int) ^ Min.min ((8:Int)*Jr).toNat (64:Nat)))]) (Jr - 1)) (Sml (Qe++y2).length/\InI (Z5+1)/\z7q (Qe++y2) (Z5+1))) Qc (7:Int)) (K Qc)) [] (0:Int)
abbrev U9:Type:=Int->Int->(Int->Prop)->Prop
def Ga:U9:=fun x k K=>(0:Int)<=Go.IntKind.u64.wrap (↑(BitVec.ofInt (64:Nat) (Go.IntKind.u64.wrap k) &&& BitVec.ofInt (64:Nat) (63:Int)).toNat:Int)/\(0:Int)<=Go.IntKind.u64.wrap ((64:Int) - Go.IntKind.u64.wrap (↑(BitVec.ofInt (64:Nat) (Go.IntKind.u64.wrap k) &&& BitVec.ofInt (64:Nat) (63:Int)).toNat:Int))/\K (Go.IntKind.u64.wrap (↑(BitVec.ofInt (64:Nat) (Go.IntKind.u64.wrap (x*2 ^ Min.min (Go.IntKind.u64.wrap (↑(BitVec.ofInt (64:Nat) (Go.IntKind.u64.wrap k) &&& BitVec.ofInt (64:Nat) (63:Int)).toNat:Int)).toNat (64:Nat)))|||BitVec.ofInt (64:Nat) (x.fdiv ((2:Int) ^ Min.min (Go.IntKind.u64.wrap ((64:Int) - Go.IntKind.u64.wrap (↑(BitVec.ofInt (64:Nat) (Go.IntKind.u64.wrap k) &&& BitVec.ofInt (64:Nat) (63:Int)).toNat:Int))).toNat (64:Nat)))).toNat:Int))
abbrev Z6:Type:=Int->Int->Int->Int->Int->(Int->Int->Int->Int->Prop)->Prop
def R7(Zm:U9):Z6:=fun v0 v1 v2 v3 n K=>Lp5 (fun Qa Qz z8f q5w j99 y7j=>Cnd (Qa<n) (Zm z8f (13:Int) fun Qc=>Zm (Go.IntKind.u64.wrap (Qz+z8f)) (32:Int) fun Qf=>Zm j99 (16:Int) fun Qi=>Zm (Go.IntKind.u64.wrap (↑(BitVec.ofInt (64:Nat) Qi ^^^ BitVec.ofInt (64:Nat) (Go.IntKind.u64.wrap (q5w+j99))).toNat:Int)) (21:Int) fun Qe=>Zm (Go.IntKind.u64.wrap (↑(BitVec.ofInt (64:Nat) Qc ^^^ BitVec.ofInt (64:Nat) (Go.IntKind.u64.wrap (Qz+z8f))).toNat:Int)) (17:Int) fun Ql=>Zm (Go.IntKind.u64.wrap (Go.IntKind.u64.wrap (q5w+j99)+Go.IntKind.u64.wrap (↑(BitVec.ofInt (64:Nat) Qc ^^^ BitVec.ofInt (64:Nat) (Go.IntKind.u64.wrap (Qz+z8f))).toNat:Int))) (32:Int) fun Zp=>InI (Qa+1)/\y7j (Qa+1) (Go.IntKind.u64.wrap (Qf+Go.IntKind.u64.wrap (↑(BitVec.ofInt (64:Nat) Qi ^^^ BitVec.ofInt (64:Nat) (Go.IntKind.u64.wrap (q5w+j99))).toNat:Int))) (Go.IntKind.u64.wrap (↑(BitVec.ofInt (64:Nat) Ql ^^^ BitVec.ofInt (64:Nat) (Go.IntKind.u64.wrap (Go.IntKind.u64.wrap (q5w+j99)+Go.IntKind.u64.wrap (↑(BitVec.ofInt (64:Nat) Qc ^^^ BitVec.ofInt (64:Nat) (Go.IntKind.u64.wrap (Qz+z8f))).toNat:Int)))).toNat:Int)) Zp (Go.IntKind.u64.wrap (↑(BitVec.ofInt (64:Nat) Qe ^^^ BitVec.ofInt (64:Nat) (Go.IntKind.u64.wrap (Qf+Go.IntKind.u64.wrap (↑(BitVec.ofInt (64:Nat) Qi ^^^ BitVec.ofInt (64:Nat) (Go.IntKind.u64.wrap (q5w+j99))).toNat:Int)))).toNat:Int))) (K Qz z8f q5w j99)) (0:Int) v0 v1 v2 v3
def Zq:Z6:=R7 Ga
abbrev Vv:Type:=Int->Int->Int->Int->Int->(Int->Int->Int->Int->Prop)->Prop
def q15(Zh:Z6):Vv:=fun v0 v1 v2 v3 m K=>Zh v0 v1 v2 (Go.IntKind.u64.wrap (↑(BitVec.ofInt (64:Nat) v3 ^^^ BitVec.ofInt (64:Nat) m).toNat:Int)) (2:Int) fun Qa Qz z8f q5w=>K (Go.IntKind.u64.wrap (↑(BitVec.ofInt (64:Nat) Qa ^^^ BitVec.ofInt (64:Nat) m).toNat:Int)) Qz z8f q5w
def Hc:Vv:=q15 Zq
abbrev q44:Type:=Int->Int->List (Int)->(Int->Prop)->Prop
def z4r(V1:Vv)(Zh:Z6):q44:=fun k0 k1 b K=>Fits b->(0:Int)<=(56:Int)/\Lp5 (fun Qc Z5 z52 z91 y7g y9a=>InI (Qc+8)/\(Fits b->Cnd (Qc+8<=(↑b.length:Int)) (Lp2 (fun Qi H7 w09=>Cnd (H7<8) (InI (Qc+H7)/\At b (Qc+H7) fun y4=>InI ((8:Int)*H7)/\(0:Int)<=(8:Int)*H7/\InI (H7+1)/\w09 (Go.IntKind.u64.wrap (↑(BitVec.ofInt (64:Nat) Qi|||BitVec.ofInt (64:Nat) (Go.IntKind.u64.wrap (Go.IntKind.u64.wrap y4*2 ^ Min.min ((8:Int)*H7).toNat (64:Nat)))).toNat:Int)) (H7+1)) (V1 Z5 z52 z91 y7g Qi fun Qe Jr j2b v9z=>InI (Qc+8)/\y9a (Qc+8) Qe Jr j2b v9z)) (0:Int) (0:Int)) (Fits b->(8:Int)≠(0:Int)/\Lp2 (fun Qe Jr w8h=>Cnd (Jr<(↑b.length:Int).tmod (8:Int)) (Fits b->Fits b->(8:Int)≠(0:Int)/\InI ((↑b.length:Int) - (↑b.length:Int).tmod (8:Int))/\InI ((↑b.length:Int) - (↑b.length:Int).tmod (8:Int)+Jr)/\((0:Int)<=(↑b.length:Int) - (↑b.length:Int).tmod (8:Int)+Jr/\(↑b.length:Int) - (↑b.length:Int).tmod (8:Int)+Jr<(↑b.length:Int))/\ ∀y7,b[((↑b.length:Int) - (↑b.length:Int).tmod (8:Int)+Jr).toNat]? =some y7->InI ((8:Int)*Jr)/\(0:Int)<=(8:Int)*Jr/\InI (Jr+1)/\w8h (Go.IntKind.u64.wrap (↑(BitVec.ofInt (64:Nat) Qe|||BitVec.ofInt (64:Nat) (Go.IntKind.u64.wrap (Go.IntKind.u64.wrap y7*2 ^ Min.min ((8:Int)*Jr).toNat (64:Nat)))).toNat:Int)) (Jr+1)) (V1 Z5 z52 z91 y7g Qe fun Ql q7c u0w u15=>Zh Ql q7c (Go.IntKind.u64.wrap (↑(BitVec.ofInt (64:Nat) u0w ^^^ BitVec.ofInt (64:Nat) (255:Int)).toNat:Int)) u15 (4:Int) fun Zp z0m w2q w5l=>K (Go.IntKind.u64.wrap (↑(BitVec.ofInt (64:Nat) (Go.IntKind.u64.wrap (↑(BitVec.ofInt (64:Nat) (Go.IntKind.u64.wrap (↑(BitVec.ofInt (64:Nat) Zp ^^^ BitVec.ofInt (64:Nat) z0m).toNat:Int)) ^^^ BitVec.ofInt (64:Nat) w2q).toNat:Int)) ^^^ BitVec.ofInt (64:Nat) w5l).toNat:Int)))) (Go.IntKind.u64.wrap (Go.IntKind.u64.wrap (↑b.length:Int)*2 ^ Min.min (Int.toNat (56:Int)) (64:Nat))) (0:Int)))) (0:Int) (Go.IntKind.u64.wrap (↑(BitVec.ofInt (64:Nat) k0 ^^^ BitVec.ofInt (64:Nat) (8317987319222330741:Int)).toNat:Int)) (Go.IntKind.u64.wrap (↑(BitVec.ofInt (64:Nat) k1 ^^^ BitVec.ofInt (64:Nat) (7237128888997146477:Int)).toNat:Int)) (Go.IntKind.u64.wrap (↑(BitVec.ofInt (64:Nat) k0 ^^^ BitVec.ofInt (64:Nat) (7816392313619706465:Int)).toNat:Int)) (Go.IntKind.u64.wrap (↑(BitVec.ofInt (64:Nat) k1 ^^^ BitVec.ofInt (64:Nat) (8387220255154660723:Int)).toNat:Int))
def q9a:q44:=z4r Hc Zq
abbrev q16:Type:=Int->List (List Int)->(Int->Prop)->Prop
def z2a(q4n:q38)(q9x:q44):q16:=fun domain fields K=>q4n fields fun Qa=>q9x domain (0:Int) Qa fun Qc=>K Qc
def q6d:q16:=z2a q39 q9a
abbrev Vb:Type:=ByteArray->ByteArray->(Int->Prop)->Prop
def z82(q6y:q16):Vb:=fun salt key K=>Sml salt.size/\Sml key.size/\q6y (1:Int) [List.map (fun b=>(↑b.toNat:Int)) (salt,key,()).1.data.toList,List.map (fun b=>(↑b.toNat:Int)) (salt,key,()).2.1.data.toList] fun Qa=>(10000:Int)≠(0:Int)/\InI (Qa.tmod (10000:Int))/\K (Qa.tmod (10000:Int))
def Gb:Vb:=z82 q6d
abbrev q17:Type:=List (Frc)->ByteArray->(Frc->Bool->Prop)->Prop
def q18:q17:=fun l layer K=>Fits l->Lp4 (fun Qc Z5 z52 z91 u16=>CAt l Qc (fun y2=>Cnd (y2.1=layer) (K y2 true) (InI (Qc+1)/\u16 (Qc+1) Z5 z52 z91)) (K (Frc.mk (ByteArray.mk (Array.mk [])) (ByteArray.mk (Array.mk [])) (0:Int)) false)) (0:Int) (ByteArray.mk (Array.mk [])) (ByteArray.mk (Array.mk [])) (0:Int)
abbrev q6e:Type:=Envt->Frc->(Bool->Prop)->Prop
def q6f:q6e:=fun v f K=>Fits v.6->Lp1 (fun Qc Ry=>CAt v.6 Qc (fun y2=>Cnd (y2.1=f.2) (Cnd (y2.2=f.1) (Cnd (y2.5=2) (Fits y2.7->Lp1 (fun Ql j4n=>CAt y2.7 Ql (fun y6=>Cnd (y6.3=f.3) (Cnd ((0:Int)<=Ql) (K (decide ((0:Int)<=Qc))) (InI (Qc+1)/\Ry (Qc+1))) (InI (Ql+1)/\j4n (Ql+1))) (Cnd ((0:Int)<=(-1:Int)) (K (decide ((0:Int)<=Qc))) (InI (Qc+1)/\Ry (Qc+1)))) (0:Int)) (InI (Qc+1)/\Ry (Qc+1))) (InI (Qc+1)/\Ry (Qc+1))) (InI (Qc+1)/\Ry (Qc+1))) (K (decide ((0:Int)<=(-1:Int))))) (0:Int)
abbrev q19:Type:=Envt->Subj->(Bool->Prop)->Prop
def z2b(Qn:Zo)(Zk:Vb):q19:=fun v s K=>Cnd (v.1.3<=0) (K false) (Qn (Subj.mk s.1) v.1.2 fun Qa Qz=>Cnd (Qz=true) (Zk v.1.1 Qa.2 fun Qc=>K (decide (Qc<v.1.3))) (K false))
def q6g:q19:=z2b Ww Gb
abbrev Um:Type:=Envt->Subj->ByteArray->(Bool->Prop)->Prop
def q3g(Q9:J0)(Zc:Jc):Um:=fun v s experiment K=>Fits v.6->Lp1 (fun Qc Ry=>CAt v.6 Qc (fun y2=>Cnd (y2.1=experiment) (Q9 v.3 (Subj.mk s.1) fun Qe=>Zc (Subj.mk s.1) Qe (Ex.mk y2.8.1 y2.8.2 y2.8.3 y2.8.4 y2.8.5) fun Ql=>K Ql) (InI (Qc+1)/\Ry (Qc+1))) (K false)) (0:Int)
def Rn:Um:=q3g Wz Vt
abbrev Rp:Type:=List (Rng)->Int->(Int->Prop)->Prop
def q2a:Rp:=fun l bucket K=>Fits l->Lp1 (fun Qc Ry=>CAt l Qc (fun y2=>Cnd (y2.1<=bucket) (Cnd (bucket<y2.2) (K y2.3) (InI (Qc+1)/\Ry (Qc+1))) (InI (Qc+1)/\Ry (Qc+1))) (K (0:Int))) (0:Int)
abbrev Bl:Type:=Envt->Subj->List (Frc)->ByteArray->(Asg->Int->Prop)->Prop
def q99(Qn:Zo)(q25:q17)(Zk:Vb)(Wr:Rp)(R4:Um)(q6z:q19)(q60:q6e):Bl:=fun v s forced key K=>Jn1 (fun Qa=>Cnd (Qa<0) (K (Asg.mk (ByteArray.mk (Array.mk [])) (ByteArray.mk (Array.mk [])) (0:Int) (0:Int) false) (11:Int)) (At v.5 Qa fun y1=>Qn (Subj.mk s.1) y1.2 fun Qi H7=>Jn1 (fun Qe=>q25 forced key fun Ql q7c=>Jn1 (fun Zp=>Cnd (Zp=true) (Cnd (Ql.2=ByteArray.mk (Array.mk [])) (K (Asg.mk key (ByteArray.mk (Array.mk [])) Qe (0:Int) false) (0:Int)) (K (Asg.mk key Ql.2 Qe Ql.3 false) (0:Int))) (Jn1 (fun Js=>Cnd (Js=true) (K (Asg.mk key (ByteArray.mk (Array.mk [])) Qe (0:Int) true) (0:Int)) (Cnd (H7=true) (Fits v.6->Lp3 (fun Qr z67 y6x u0u=>CAt v.6 Qr (fun y10=>Jn1 (fun Ur=>Jn1 (fun Q8=>Cnd (Q8=true) (Zk y10.4 Qi.2 fun V5=>Wr y10.7 V5 fun w8e=>K (Asg.mk key y10.1 Qe w8e false) (0:Int)) (InI (Qr+1)/\u0u (Qr+1) z67 y6x)) fun y2x=>Cnd (y10.2=key) (Cnd (y10.5=2) (Cnd (Ur=true) (R4 (Envt.mk (Sett.mk v.1.1 v.1.2 v.1.3) v.2 v.3 v.4 v.5 v.6) (Subj.mk s.1) y10.1 fun V5=>y2x V5) (y2x false)) (y2x false)) (y2x false)) fun v48=>Fits y10.6->Lp1 (fun V5 v9r=>CAt y10.6 V5 (fun y15=>Cnd (y15.1<=Qe) (Cnd (Qe<y15.2) (v48 (decide ((0:Int)<=V5))) (InI (V5+1)/\v9r (V5+1))) (InI (V5+1)/\v9r (V5+1))) (v48 (decide ((0:Int)<=(-1:Int))))) (0:Int)) (K (Asg.mk key z67 Qe y6x false) (0:Int))) (0:Int) (ByteArray.mk (Array.mk [])) (0:Int)) (K (Asg.mk key (ByteArray.mk (Array.mk [])) Qe (0:Int) false) (0:Int)))) fun v9w=>q6z (Envt.mk (Sett.mk v.1.1 v.1.2 v.1.3) v.2 v.3 v.4 v.5 v.6) (Subj.mk s.1) fun Wb=>Cnd (Wb=true) (v9w true) (Cnd (H7=true) (v9w (decide (Qe<y1.4))) (v9w false)))) fun j6v=>Cnd (q7c=true) (Cnd (Ql.2=ByteArray.mk (Array.mk [])) (j6v true) (q60 (Envt.mk (Sett.mk v.1.1 v.1.2 v.1.3) v.2 v.3 v.4 v.5 v.6) Ql fun Js=>j6v Js)) (j6v false)) fun v49=>Cnd (H7=true) (Zk y1.3 Qi.2 fun Ql=>v49 Ql) (v49 (-1:Int)))) fun q4g=>Fits v.5->Lp1 (fun Qf j19=>CAt v.5 Qf (fun y3=>Cnd (y3.1=key) (q4g Qf) (InI (Qf+1)/\j19 (Qf+1))) (q4g (-1:Int))) (0:Int)
def G5:Bl:=q99 Ww q18 Gb q2a Rn q6g q6f
abbrev Wi:Type:=ByteArray->ByteArray->Int->List (Decl)->List (Seg)->List (Flg)->List (Lay_)->List (Exper)->List (Ctxt)->List (Frc)->List (ByteArray)->(ByteArray->Option (Dcs))->(ByteArray->Option (Bool))->Exper->(Int->(ByteArray->Option (Dcs))->(ByteArray->Option (Bool))->Prop)->Prop
def R8(Qn:Zo)(Zk:Vb):Wi:=fun _ _ _ _ _ _ layers _ ctxs _ _ done opn x K=>Fits layers->Lp1 (fun Qc Ry=>CAt layers Qc (fun y2=>Cnd (y2.1=x.2) (Qn (Subj.mk ctxs) y2.2 fun Qe Jr=>Cnd (Jr=true) (Zk x.4 Qe.2 fun Ql=>K Ql done opn) (K (-1:Int) done opn)) (InI (Qc+1)/\Ry (Qc+1))) (K (-1:Int) done opn)) (0:Int)
def Jq:Wi:=R8 Ww Gb
abbrev z0a:Type:=Int->(ByteArray->Prop)->Prop
def z0b(i:Int)(K:ByteArray->Prop):Prop:=InI i/\K ⟨(Go.Lib.itoa i).toArray⟩
abbrev q2b:Type:=Int->(ByteArray->Prop)->Prop
def j01(q4o:z0a):q2b:=fun n K=>q4o n fun Qa=>K Qa
def q6h:q2b:=j01 z0b
abbrev q45:Type:=Val->(ByteArray->Bool->Prop)->Prop
def z4s(q61:q2b):q45:=fun v K=>Jn1 (fun Qa=>Cnd (Qa=true) (K v.3 true) (Cnd (v.1=2) (q61 v.2 fun Qc=>K Qc true) (Cnd (v.1=1) (Cnd (v.2=1) (K (ByteArray.mk (Array.mk [116,114,117,101])) true) (K (ByteArray.mk (Array.mk [102,97,108,115,101])) true)) (K (ByteArray.mk (Array.mk [])) false)))) fun q4g=>Cnd (v.1=3) (q4g (decide (v.1=3))) (q4g (decide (v.1=4)))
def q9b:q45:=z4s q6h
abbrev Gx:Type:=Subj->ByteArray->ByteArray->ByteArray->(Int->Bool->Prop)->Prop
def q5m(Jd:Wg)(q9y:q45)(Zk:Vb):Gx:=fun s kind by_ salt K=>Jd (Subj.mk s.1) kind by_ fun Qa Qz=>Cnd (Qz=true) (q9y Qa fun Qc Z5=>Cnd (Z5=true) (Zk salt Qc fun Qf=>K Qf true) (K (0:Int) false)) (K (0:Int) false)
def B0:Gx:=q5m Gv q9b Gb
abbrev Gy:Type:=Subj->Srv->(Int->Int->Bool->Prop)->Prop
def q5n(B9:Gx)(Wr:Rp):Gy:=fun s v K=>Cnd (v.1=0) (B9 (Subj.mk s.1) v.2 v.3 v.4 fun Qa Qz=>Cnd (Qz=true) (Wr v.5 Qa fun Qc=>K Qc Qa true) (K (0:Int) (-1:Int) false)) (K v.1 (-1:Int) true)
def B1:Gy:=q5n B0 q2a
abbrev Vc:Type:=ByteArray->ByteArray->Int->List (Decl)->List (Seg)->List (Flg)->List (Lay_)->List (Exper)->List (Ctxt)->List (Frc)->List (ByteArray)->(ByteArray->Option (Dcs))->(ByteArray->Option (Bool))->Flg->Srv->Rsn->(Int->Rsn->(ByteArray->Option (Dcs))->(ByteArray->Option (Bool))->Prop)->Prop
def q0l(q0a:Gy):Vc:=fun _ _ _ _ _ _ _ _ ctxs _ _ done opn f v reason K=>q0a (Subj.mk ctxs) v fun Qa Qz z8f=>Cnd (z8f=true) (K Qa (Rsn.mk reason.1 reason.2 reason.3 Qz) done opn) (K f.5 (Rsn.mk (7:Int) reason.2 (ByteArray.mk (Array.mk [])) (-1:Int)) done opn)
def J1:Vc:=q0l B1
abbrev Zr:Type:=ByteArray->ByteArray->Int->List (Decl)->List (Seg)->List (Flg)->List (Lay_)->List (Exper)->List (Ctxt)->List (Frc)->List (ByteArray)->(ByteArray->Option (Dcs))->(ByteArray->Option (Bool))->Flg->(Dcs->(ByteArray->Option (Dcs))->(ByteArray->Option (Bool))->Prop)->Prop
def R9(Q5:J5)(Zv:J9)(R5:Ul)(q4p:Bl)(Ub:Wi)(Zc:Jc)(Ve:Vc)(X:Zr):Zr:=fun salt hkind hold attrs segs flags layers expers ctxs fs inn done opn f K=>Jn1 (fun (Qa:ByteArray×Int×Int×Int×ByteArray×List ByteArray×Int×Int×ByteArray×Int×Int×(ByteArray->Option Dcs)×(ByteArray->Option Bool)×Unit)=>Q5 (Val.mk Qa.2.2.1 Qa.2.2.2.1 Qa.2.2.2.2.1 Qa.2.2.2.2.2.1) fun Qc=>K (Dcs.mk Qa.1 Qa.2.1 Qc (Rsn.mk Qa.2.2.2.2.2.2.1 Qa.2.2.2.2.2.2.2.1 Qa.2.2.2.2.2.2.2.2.1 Qa.2.2.2.2.2.2.2.2.2.1) Qa.2.2.2.2.2.2.2.2.2.2.1) Qa.2.2.2.2.2.2.2.2.2.2.2.1 Qa.2.2.2.2.2.2.2.2.2.2.2.2.1) fun (q4g:ByteArray×Int×Int×Int×ByteArray×List ByteArray×Int×Int×ByteArray×Int×Int×(ByteArray->Option Dcs)×(ByteArray->Option Bool)×Unit->Prop)=>Cnd ((done f.1).isSome=true) (q4g (((done f.1).getD (Dcs.mk (ByteArray.mk (Array.mk [])) (0:Int) (Val.mk (0:Int) (0:Int) (ByteArray.mk (Array.mk [])) []) (Rsn.mk (0:Int) (0:Int) (ByteArray.mk (Array.mk [])) (0:Int)) (0:Int))).1,((done f.1).getD (Dcs.mk (ByteArray.mk (Array.mk [])) (0:Int) (Val.mk (0:Int) (0:Int) (ByteArray.mk (Array.mk [])) []) (Rsn.mk (0:Int) (0:Int) (ByteArray.mk (Array.mk [])) (0:Int)) (0:Int))).2,((done f.1).getD (Dcs.mk (ByteArray.mk (Array.mk [])) (0:Int) (Val.mk (0:Int) (0:Int) (ByteArray.mk (Array.mk [])) []) (Rsn.mk (0:Int) (0:Int) (ByteArray.mk (Array.mk [])) (0:Int)) (0:Int))).3.1,((done f.1).getD (Dcs.mk (ByteArray.mk (Array.mk [])) (0:Int) (Val.mk (0:Int) (0:Int) (ByteArray.mk (Array.mk [])) []) (Rsn.mk (0:Int) (0:Int) (ByteArray.mk (Array.mk [])) (0:Int)) (0:Int))).3.2,((done f.1).getD (Dcs.mk (ByteArray.mk (Array.mk [])) (0:Int) (Val.mk (0:Int) (0:Int) (ByteArray.mk (Array.mk [])) []) (Rsn.mk (0:Int) (0:Int) (ByteArray.mk (Array.mk [])) (0:Int)) (0:Int))).3.3,((done f.1).getD (Dcs.mk (ByteArray.mk (Array.mk [])) (0:Int) (Val.mk (0:Int) (0:Int) (ByteArray.mk (Array.mk [])) []) (Rsn.mk (0:Int) (0:Int) (ByteArray.mk (Array.mk [])) (0:Int)) (0:Int))).3.4,((done f.1).getD (Dcs.mk (ByteArray.mk (Array.mk [])) (0:Int) (Val.mk (0:Int) (0:Int) (ByteArray.mk (Array.mk [])) []) (Rsn.mk (0:Int) (0:Int) (ByteArray.mk (Array.mk [])) (0:Int)) (0:Int))).4.1,((done f.1).getD (Dcs.mk (ByteArray.mk (Array.mk [])) (0:Int) (Val.mk (0:Int) (0:Int) (ByteArray.mk (Array.mk [])) []) (Rsn.mk (0:Int) (0:Int) (ByteArray.mk (Array.mk [])) (0:Int)) (0:Int))).4.2,((done f.1).getD (Dcs.mk (ByteArray.mk (Array.mk [])) (0:Int) (Val.mk (0:Int) (0:Int) (ByteArray.mk (Array.mk [])) []) (Rsn.mk (0:Int) (0:Int) (ByteArray.mk (Array.mk [])) (0:Int)) (0:Int))).4.3,((done f.1).getD (Dcs.mk (ByteArray.mk (Array.mk [])) (0:Int) (Val.mk (0:Int) (0:Int) (ByteArray.mk (Array.mk [])) []) (Rsn.mk (0:Int) (0:Int) (ByteArray.mk (Array.mk [])) (0:Int)) (0:Int))).4.4,((done f.1).getD (Dcs.mk (ByteArray.mk (Array.mk [])) (0:Int) (Val.mk (0:Int) (0:Int) (ByteArray.mk (Array.mk [])) []) (Rsn.mk (0:Int) (0:Int) (ByteArray.mk (Array.mk [])) (0:Int)) (0:Int))).5,done,opn,())) (Cnd (f.4=true) (Fits f.6->LpH (fun (Qf:Int×Int×Int×ByteArray×Int×(ByteArray->Option Bool)×(ByteArray->Option Dcs)×Unit) (j19:Int×Int×Int×ByteArray×Int×(ByteArray->Option Bool)×(ByteArray->Option Dcs)×Unit->Prop)=>CAt f.6 Qf.1 (fun y3=>Zv salt hkind hold attrs segs flags layers expers ctxs fs inn Qf.2.2.2.2.2.2.1 Qf.2.2.2.2.2.1 y3.1 fun Ql q7c v90 y6y=>Cnd (q7c=true) (Cnd (Ql.4=true) (Cnd ((y6y Ql.1).getD false=true) (Jn4 (fun Zp z0m w2q w5l=>q4g (f.1,f.5,Zp,z0m,w2q,w5l,(2:Int),(0:Int),y3.1,(-1:Int),(0:Int),put v90 f.1 (Dcs.mk f.1 f.5 (Val.mk Zp z0m w2q w5l) (Rsn.mk (2:Int) (0:Int) y3.1 (-1:Int)) (0:Int)),dlt y6y f.1,())) fun j6v=>Cnd ((1:Int)<=f.5) (Fits f.3->Cnd (f.5<=(↑f.3.length:Int)) (InI (f.5 - 1)/\((0:Int)<=f.5 - 1/\f.5 - 1<(↑f.3.length:Int))/\ ∀y8,f.3[(f.5 - 1).toNat]? =some y8->j6v y8.1 y8.2 y8.3 y8.4) (j6v (0:Int) (0:Int) (ByteArray.mk (Array.mk [])) [])) (j6v (0:Int) (0:Int) (ByteArray.mk (Array.mk [])) [])) (X salt hkind hold attrs segs flags layers expers ctxs fs inn v90 y6y (Flg.mk Ql.1 Ql.2 Ql.3 Ql.4 Ql.5 Ql.6 Ql.7 Ql.8 (Srv.mk Ql.9.1 Ql.9.2 Ql.9.3 Ql.9.4 Ql.9.5)) fun Zp v5d v9y=>Cnd (Zp.2=y3.2) (InI (Qf.1+1)/\j19 (Qf.1+1,Qf.2.1,Qf.2.2.1,Qf.2.2.2.1,Qf.2.2.2.2.1,v9y,v5d,())) (Jn4 (fun Js z7p u1n y2u=>q4g (f.1,f.5,Js,z7p,u1n,y2u,(2:Int),(0:Int),y3.1,(-1:Int),(0:Int),put v5d f.1 (Dcs.mk f.1 f.5 (Val.mk Js z7p u1n y2u) (Rsn.mk (2:Int) (0:Int) y3.1 (-1:Int)) (0:Int)),dlt v9y f.1,())) fun v9w=>Cnd ((1:Int)<=f.5) (Fits f.3->Cnd (f.5<=(↑f.3.length:Int)) (InI (f.5 - 1)/\((0:Int)<=f.5 - 1/\f.5 - 1<(↑f.3.length:Int))/\ ∀y9,f.3[(f.5 - 1).toNat]? =some y9->v9w y9.1 y9.2 y9.3 y9.4) (v9w (0:Int) (0:Int) (ByteArray.mk (Array.mk [])) [])) (v9w (0:Int) (0:Int) (ByteArray.mk (Array.mk [])) [])))) (Jn4 (fun Zp z0m w2q w5l=>q4g (f.1,f.5,Zp,z0m,w2q,w5l,(2:Int),(0:Int),y3.1,(-1:Int),(0:Int),put v90 f.1 (Dcs.mk f.1 f.5 (Val.mk Zp z0m w2q w5l) (Rsn.mk (2:Int) (0:Int) y3.1 (-1:Int)) (0:Int)),dlt y6y f.1,())) fun j6v=>Cnd ((1:Int)<=f.5) (Fits f.3->Cnd (f.5<=(↑f.3.length:Int)) (InI (f.5 - 1)/\((0:Int)<=f.5 - 1/\f.5 - 1<(↑f.3.length:Int))/\ ∀y8,f.3[(f.5 - 1).toNat]? =some y8->j6v y8.1 y8.2 y8.3 y8.4) (j6v (0:Int) (0:Int) (ByteArray.mk (Array.mk [])) [])) (j6v (0:Int) (0:Int) (ByteArray.mk (Array.mk [])) []))) (Jn4 (fun Zp z0m w2q w5l=>q4g (f.1,f.5,Zp,z0m,w2q,w5l,(2:Int),(0:Int),y3.1,(-1:Int),(0:Int),put v90 f.1 (Dcs.mk f.1 f.5 (Val.mk Zp z0m w2q w5l) (Rsn.mk (2:Int) (0:Int) y3.1 (-1:Int)) (0:Int)),dlt y6y f.1,())) fun j6v=>Cnd ((1:Int)<=f.5) (Fits f.3->Cnd (f.5<=(↑f.3.length:Int)) (InI (f.5 - 1)/\((0:Int)<=f.5 - 1/\f.5 - 1<(↑f.3.length:Int))/\ ∀y8,f.3[(f.5 - 1).toNat]? =some y8->j6v y8.1 y8.2 y8.3 y8.4) (j6v (0:Int) (0:Int) (ByteArray.mk (Array.mk [])) [])) (j6v (0:Int) (0:Int) (ByteArray.mk (Array.mk [])) []))) (R5 (Flg.mk f.1 f.2 f.3 f.4 f.5 f.6 f.7 f.8 (Srv.mk f.9.1 f.9.2 f.9.3 f.9.4 f.9.5)) (Subj.mk ctxs) fun Qi=>Cnd ((0:Int)<Qi) (InI (Qi - 1)/\((0:Int)<=Qi - 1/\Qi - 1<(↑f.7.length:Int))/\ ∀y4,f.7[(Qi - 1).toNat]? =some y4->Jn4 (fun Zp z0m w2q w5l=>q4g (f.1,y4.2,Zp,z0m,w2q,w5l,(3:Int),Qi,ByteArray.mk (Array.mk []),(-1:Int),(0:Int),put Qf.2.2.2.2.2.2.1 f.1 (Dcs.mk f.1 y4.2 (Val.mk Zp z0m w2q w5l) (Rsn.mk (3:Int) Qi (ByteArray.mk (Array.mk [])) (-1:Int)) (0:Int)),dlt Qf.2.2.2.2.2.1 f.1,())) fun j6v=>Cnd ((1:Int)<=y4.2) (Fits f.3->Cnd (y4.2<=(↑f.3.length:Int)) (InI (y4.2 - 1)/\((0:Int)<=y4.2 - 1/\y4.2 - 1<(↑f.3.length:Int))/\ ∀y8,f.3[(y4.2 - 1).toNat]? =some y8->j6v y8.1 y8.2 y8.3 y8.4) (j6v (0:Int) (0:Int) (ByteArray.mk (Array.mk [])) [])) (j6v (0:Int) (0:Int) (ByteArray.mk (Array.mk [])) [])) (Fits expers->LpH (fun (Ql:Int×Int×Int×ByteArray×Int×(ByteArray->Option Dcs)×(ByteArray->Option Bool)×Unit) (j4n:Int×Int×Int×ByteArray×Int×(ByteArray->Option Dcs)×(ByteArray->Option Bool)×Unit->Prop)=>CAt expers Ql.1 (fun y6=>Cnd (y6.3=f.1) (Cnd (y6.5=2) (q4p (Envt.mk (Sett.mk salt hkind hold) attrs segs flags layers expers) (Subj.mk ctxs) fs y6.2 fun Wb w8g=>Cnd (w8g=0) (Cnd (Wb.2=y6.1) (Ub salt hkind hold attrs segs flags layers expers ctxs fs inn Ql.2.2.2.2.2.1 Ql.2.2.2.2.2.2.1 (Exper.mk y6.1 y6.2 y6.3 y6.4 y6.5 y6.6 y6.7 (Ex.mk y6.8.1 y6.8.2 y6.8.3 y6.8.4 y6.8.5)) fun Qr y60 y6z=>Jn4 (fun Uq Bo v00 y9o=>q4g (f.1,Wb.4,Uq,Bo,v00,y9o,(4:Int),(0:Int),y6.1,Qr,(0:Int),put y60 f.1 (Dcs.mk f.1 Wb.4 (Val.mk Uq Bo v00 y9o) (Rsn.mk (4:Int) (0:Int) y6.1 Qr) (0:Int)),dlt y6z f.1,())) fun y7f=>Cnd ((1:Int)<=Wb.4) (Fits f.3->Cnd (Wb.4<=(↑f.3.length:Int)) (InI (Wb.4 - 1)/\((0:Int)<=Wb.4 - 1/\Wb.4 - 1<(↑f.3.length:Int))/\ ∀y12,f.3[(Wb.4 - 1).toNat]? =some y12->y7f y12.1 y12.2 y12.3 y12.4) (y7f (0:Int) (0:Int) (ByteArray.mk (Array.mk [])) [])) (y7f (0:Int) (0:Int) (ByteArray.mk (Array.mk [])) [])) (InI (Ql.1+1)/\j4n (Ql.1+1,Ql.2.1,Ql.2.2.1,Ql.2.2.2.1,Ql.2.2.2.2.1,Ql.2.2.2.2.2.1,Ql.2.2.2.2.2.2.1,()))) (InI (Ql.1+1)/\j4n (Ql.1+1,Ql.2.1,Ql.2.2.1,Ql.2.2.2.1,Ql.2.2.2.2.1,Ql.2.2.2.2.2.1,Ql.2.2.2.2.2.2.1,()))) (InI (Ql.1+1)/\j4n (Ql.1+1,Ql.2.1,Ql.2.2.1,Ql.2.2.2.1,Ql.2.2.2.2.1,Ql.2.2.2.2.2.1,Ql.2.2.2.2.2.2.1,()))) (InI (Ql.1+1)/\j4n (Ql.1+1,Ql.2.1,Ql.2.2.1,Ql.2.2.2.1,Ql.2.2.2.2.1,Ql.2.2.2.2.2.1,Ql.2.2.2.2.2.2.1,()))) (Fits f.8->LpH (fun (Js:Int×Int×Int×ByteArray×Int×(ByteArray->Option Bool)×(ByteArray->Option Dcs)×Unit) (y61:Int×Int×Int×ByteArray×Int×(ByteArray->Option Bool)×(ByteArray->Option Dcs)×Unit->Prop)=>CAt f.8 Js.1 (fun y8=>Zc (Subj.mk ctxs) inn (Ex.mk y8.2.1 y8.2.2 y8.2.3 y8.2.4 y8.2.5) fun Uq=>Cnd (Uq=true) (InI (Js.1+1)/\Ve salt hkind hold attrs segs flags layers expers ctxs fs inn Js.2.2.2.2.2.2.1 Js.2.2.2.2.2.1 (Flg.mk f.1 f.2 f.3 f.4 f.5 f.6 f.7 f.8 (Srv.mk f.9.1 f.9.2 f.9.3 f.9.4 f.9.5)) (Srv.mk y8.3.1 y8.3.2 y8.3.3 y8.3.4 y8.3.5) (Rsn.mk (5:Int) (Js.1+1) y8.1 (0:Int)) fun V6 z54 u1f u1g=>Jn4 (fun Ur v5a y9p y9q=>q4g (f.1,V6,Ur,v5a,y9p,y9q,z54.1,z54.2,z54.3,z54.4,(0:Int),put u1f f.1 (Dcs.mk f.1 V6 (Val.mk Ur v5a y9p y9q) z54 (0:Int)),dlt u1g f.1,())) fun v48=>Cnd ((1:Int)<=V6) (Fits f.3->Cnd (V6<=(↑f.3.length:Int)) (InI (V6 - 1)/\((0:Int)<=V6 - 1/\V6 - 1<(↑f.3.length:Int))/\ ∀y14,f.3[(V6 - 1).toNat]? =some y14->v48 y14.1 y14.2 y14.3 y14.4) (v48 (0:Int) (0:Int) (ByteArray.mk (Array.mk [])) [])) (v48 (0:Int) (0:Int) (ByteArray.mk (Array.mk [])) [])) (InI (Js.1+1)/\y61 (Js.1+1,Js.2.1,Js.2.2.1,Js.2.2.2.1,Js.2.2.2.2.1,Js.2.2.2.2.2.1,Js.2.2.2.2.2.2.1,()))) (Ve salt hkind hold attrs segs flags layers expers ctxs fs inn Js.2.2.2.2.2.2.1 Js.2.2.2.2.2.1 (Flg.mk f.1 f.2 f.3 f.4 f.5 f.6 f.7 f.8 (Srv.mk f.9.1 f.9.2 f.9.3 f.9.4 f.9.5)) (Srv.mk f.9.1 f.9.2 f.9.3 f.9.4 f.9.5) (Rsn.mk (6:Int) (0:Int) (ByteArray.mk (Array.mk [])) (0:Int)) fun Wb w8g y9u u0x=>Jn4 (fun Qr z67 y6x y32=>q4g (f.1,Wb,Qr,z67,y6x,y32,w8g.1,w8g.2,w8g.3,w8g.4,(0:Int),put y9u f.1 (Dcs.mk f.1 Wb (Val.mk Qr z67 y6x y32) w8g (0:Int)),dlt u0x f.1,())) fun y2t=>Cnd ((1:Int)<=Wb) (Fits f.3->Cnd (Wb<=(↑f.3.length:Int)) (InI (Wb - 1)/\((0:Int)<=Wb - 1/\Wb - 1<(↑f.3.length:Int))/\ ∀y11,f.3[(Wb - 1).toNat]? =some y11->y2t y11.1 y11.2 y11.3 y11.4) (y2t (0:Int) (0:Int) (ByteArray.mk (Array.mk [])) [])) (y2t (0:Int) (0:Int) (ByteArray.mk (Array.mk [])) []))) ((0:Int),Ql.2.1,Ql.2.2.1,Ql.2.2.2.1,Ql.2.2.2.2.1,Ql.2.2.2.2.2.2.1,Ql.2.2.2.2.2.1,()))) ((0:Int),Qf.2.1,Qf.2.2.1,Qf.2.2.2.1,Qf.2.2.2.2.1,Qf.2.2.2.2.2.2.1,Qf.2.2.2.2.2.1,())))) ((0:Int),(0:Int),(0:Int),ByteArray.mk (Array.mk []),(0:Int),put opn f.1 true,done,())) (Jn4 (fun Qc Z5 z52 z91=>q4g (f.1,f.5,Qc,Z5,z52,z91,(1:Int),(0:Int),ByteArray.mk (Array.mk []),(-1:Int),(0:Int),put done f.1 (Dcs.mk f.1 f.5 (Val.mk Qc Z5 z52 z91) (Rsn.mk (1:Int) (0:Int) (ByteArray.mk (Array.mk [])) (-1:Int)) (0:Int)),dlt (put opn f.1 true) f.1,())) fun j6w=>Cnd ((1:Int)<=f.5) (Fits f.3->Cnd (f.5<=(↑f.3.length:Int)) (InI (f.5 - 1)/\((0:Int)<=f.5 - 1/\f.5 - 1<(↑f.3.length:Int))/\ ∀y3,f.3[(f.5 - 1).toNat]? =some y3->j6w y3.1 y3.2 y3.3 y3.4) (j6w (0:Int) (0:Int) (ByteArray.mk (Array.mk [])) [])) (j6w (0:Int) (0:Int) (ByteArray.mk (Array.mk [])) [])))
def V8:Zr:=fun salt hkind hold attrs segs flags layers expers ctxs fs inn done opn f K=> ∀X:Zr,(∀salt hkind hold attrs segs flags layers expers ctxs fs inn done opn f K,R9 Jj Jm W0 G5 Jq Vt J1 X salt hkind hold attrs segs flags layers expers ctxs fs inn done opn f K->X salt hkind hold attrs segs flags layers expers ctxs fs inn done opn f K)->X salt hkind hold attrs segs flags layers expers ctxs fs inn done opn f K
abbrev Vd:Type:=Envt->Subj->List (Frc)->ByteArray->(Dcs->Int->Prop)->Prop
def q8a(q0b:Gw)(Zv:J9)(Uc:Zr):Vd:=fun v s forced key K=>q0b (Envt.mk (Sett.mk v.1.1 v.1.2 v.1.3) v.2 v.3 v.4 v.5 v.6) (Subj.mk s.1) forced fun Qa Qz z8f q5w j99 u1o u1p u1q u1r u1s y9r u1h u1i=>Zv Qa Qz z8f q5w j99 u1o u1p u1q u1r u1s y9r u1h u1i key fun Qc Z5 z7q v9p=>Cnd (Z5=true) (Uc Qa Qz z8f q5w j99 u1o u1p u1q u1r u1s y9r z7q v9p (Flg.mk Qc.1 Qc.2 Qc.3 Qc.4 Qc.5 Qc.6 Qc.7 Qc.8 (Srv.mk Qc.9.1 Qc.9.2 Qc.9.3 Qc.9.4 Qc.9.5)) fun Qf _ _=>K (Dcs.mk Qf.1 Qf.2 (Val.mk Qf.3.1 Qf.3.2 Qf.3.3 Qf.3.4) (Rsn.mk Qf.4.1 Qf.4.2 Qf.4.3 Qf.4.4) Qf.5) (0:Int)) (K (Dcs.mk (ByteArray.mk (Array.mk [])) (0:Int) (Val.mk (0:Int) (0:Int) (ByteArray.mk (Array.mk [])) []) (Rsn.mk (0:Int) (0:Int) (ByteArray.mk (Array.mk [])) (0:Int)) (0:Int)) (11:Int))
def H2:Vd:=q8a Bz Jm V8
abbrev q2c:Type:=(Bool->Prop)->Prop
def z2c(Z9:Vd):q2c:=fun K=>Z9 (Envt.mk (Sett.mk (ByteArray.mk (Array.mk [])) (ByteArray.mk (Array.mk [])) (0:Int)) [] [] [Flg.mk (ByteArray.mk (Array.mk [102])) (1:Int) [Val.mk (1:Int) (0:Int) (ByteArray.mk (Array.mk [])) [],Val.mk (1:Int) (1:Int) (ByteArray.mk (Array.mk [])) []] true (1:Int) [] [] [] (Srv.mk (2:Int) (ByteArray.mk (Array.mk [])) (ByteArray.mk (Array.mk [])) (ByteArray.mk (Array.mk [])) [])] [] []) (Subj.mk []) [] (ByteArray.mk (Array.mk [102])) fun Qa Qz=>Cnd (Qz=0) (Cnd (Qa.1=ByteArray.mk (Array.mk [102])) (Cnd (Qa.2=2) (Cnd (Qa.3.2=1) (K (decide (Qa.4.1=6/\Qa.4.2=0/\Qa.4.3=ByteArray.mk (Array.mk [])/\Qa.4.4=(-1:Int)))) (K false)) (K false)) (K false)) (K false)
def q6i:q2c:=z2c H2
abbrev w3q:Type:=List (Int)->Int->(List (Int)->Int->Prop)->Prop
def w3r:w3q:=fun list_ most K=>Jn1 (fun Qa=>K Qa (0:Int)) fun q4g=>Fits list_->Cnd (most<(↑list_.length:Int)) (((0:Int)<=(0:Int)/\(0:Int)<=most/\most<=(↑list_.length:Int))/\q4g (List.drop (Int.toNat (0:Int)) (List.take most.toNat list_))) (q4g list_)
abbrev q8b:Type:=List (Int)->Int->ByteArray->(Ctxt->Int->Prop)->Prop
def z83(z29:z8n)(Q2:Ws)(Qb:Zf)(Z8:q07):q8b:=fun list at_ kind K=>z29 list at_ fun Qa Qz=>Q2 fun Qc=>Lp3 (fun Qf Zl w5n y89=>Fits Qc->CAt Qc Qf (fun y4=>Cnd (y4.1=kind) (Qb list w5n (4:Int) fun Zp z0m=>Cnd ((0:Int)<Zp) (At Qc Qf fun y7=>At Qc Qf fun y9=>Z8 list z0m y9.3 fun V6 z54=>Sml (Zl++[Attr.mk y7.2 V6]).length/\InI (Qf+1)/\y89 (Qf+1) (Zl++[Attr.mk y7.2 V6]) z54) (InI (Qf+1)/\y89 (Qf+1) Zl z0m)) (InI (Qf+1)/\y89 (Qf+1) Zl w5n)) (K (Ctxt.mk kind Qa Zl) w5n)) (0:Int) [] Qz
def q8c:q8b:=z83 j7v Us J2 Bg
abbrev q8d:Type:=List (Int)->Int->(Subj->Int->Prop)->Prop
def z84(Qb:Zf)(q0u:q8b):q8d:=fun list at_ K=>Qb list at_ (6:Int) fun Qa Qz=>Jn2 (fun Qc Z5=>Cnd (Qa=1) (K (Subj.mk Z5) Qc) (Cnd (Qa=5) (K (Subj.mk Z5) Qc) (q0u list Qc (ByteArray.mk (Array.mk [117,115,101,114])) fun Qf Zl=>Sml (Z5++[Qf]).length/\K (Subj.mk (Z5++[Qf])) Zl))) fun j6w=>Cnd (Qa=1) (q0u list Qz (ByteArray.mk (Array.mk [100,101,118,105,99,101])) fun Qf Zl=>Sml ([]++[Qf]).length/\j6w Zl ([]++[Qf])) (Cnd (Qa=2) (q0u list Qz (ByteArray.mk (Array.mk [100,101,118,105,99,101])) fun Qf Zl=>Sml ([]++[Qf]).length/\j6w Zl ([]++[Qf])) (Cnd (Qa=4) (q0u list Qz (ByteArray.mk (Array.mk [100,101,118,105,99,101])) fun Qf Zl=>Sml ([]++[Qf]).length/\j6w Zl ([]++[Qf])) (j6w Qz [])))
def z2d:q8d:=z84 J2 q8c
abbrev w6s:Type:=Subj->ByteArray->(Ctxt->Bool->Prop)->Prop
def j74:w6s:=fun s kind K=>Lp4 (fun Qa Qz z8f (q5w:List Attr) u17=>Fits s.1->CAt s.1 Qa (fun y2=>Cnd (y2.1=kind) (At s.1 Qa fun y4=>K y4 true) (InI (Qa+1)/\u17 (Qa+1) Qz z8f q5w)) (K (Ctxt.mk (ByteArray.mk (Array.mk [])) (ByteArray.mk (Array.mk [])) []) false)) (0:Int) (ByteArray.mk (Array.mk [])) (ByteArray.mk (Array.mk [])) []
abbrev z86:Type:=Subj->ByteArray->ByteArray->(Val->Bool->Prop)->Prop
def j75(v9u:w6s):z86:=fun s kind name K=>v9u (Subj.mk s.1) kind fun Qa Qz=>Cnd (Qz=true) (Cnd (name=ByteArray.mk (Array.mk [107,101,121])) (K (Val.mk (3:Int) (0:Int) Qa.2 []) true) (Lp5 (fun Qc Z5 z52 z91 (y7g:List ByteArray) y9a=>Fits Qa.3->CAt Qa.3 Qc (fun y3=>Cnd (y3.1=name) (At Qa.3 Qc fun y5=>K (Val.mk y5.2.1 y5.2.2 y5.2.3 y5.2.4) true) (InI (Qc+1)/\y9a (Qc+1) Z5 z52 z91 y7g)) (K (Val.mk (0:Int) (0:Int) (ByteArray.mk (Array.mk [])) []) false)) (0:Int) (0:Int) (0:Int) (ByteArray.mk (Array.mk [])) [])) (K (Val.mk (0:Int) (0:Int) (ByteArray.mk (Array.mk [])) []) false)
def z87:z86:=j75 j74
abbrev w1v:Type:=List (List Int)->(List (Int)->Prop)->Prop
def j29:w1v:=fun fields K=>Lp2 (fun Qa Qz q27=>Fits fields->CAt fields Qz (fun y2=>Fits y2->Lp2 (fun Ql q7c v90=>Cnd ((0:Int)<=q7c) ((0:Int)<=Go.IntKind.u64.wrap q7c/\Sml (Ql++[Go.IntKind.u8.wrap ((Go.IntKind.u64.wrap (↑y2.length:Int)).fdiv ((2:Int) ^ Min.min (Go.IntKind.u64.wrap q7c).toNat (64:Nat)))]).length/\InI (q7c - 8)/\v90 (Ql++[Go.IntKind.u8.wrap ((Go.IntKind.u64.wrap (↑y2.length:Int)).fdiv ((2:Int) ^ Min.min (Go.IntKind.u64.wrap q7c).toNat (64:Nat)))]) (q7c - 8)) (At fields Qz fun y6=>Sml (Ql++y6).length/\InI (Qz+1)/\q27 (Ql++y6) (Qz+1))) Qa (56:Int)) (K Qa)) [] (0:Int)
abbrev j76:Type:=Int->Int->(Int->Prop)->Prop
def z88:j76:=fun x n K=>(0:Int)<=n/\(0:Int)<=Go.IntKind.u64.wrap ((64:Int) - n)/\K (Go.IntKind.u64.wrap (↑(BitVec.ofInt (64:Nat) (Go.IntKind.u64.wrap (x*2 ^ Min.min n.toNat (64:Nat)))|||BitVec.ofInt (64:Nat) (x.fdiv ((2:Int) ^ Min.min (Go.IntKind.u64.wrap ((64:Int) - n)).toNat (64:Nat)))).toNat:Int))
abbrev q5o:Type:=Sip->Int->(Sip->Prop)->Prop
def z3m(q30:j76):q5o:=fun v n K=>Lp5 (fun Qa Qz z8f q5w j99 y7j=>Cnd (Qa<n) (q30 z8f (13:Int) fun Qc=>q30 (Go.IntKind.u64.wrap (Qz+z8f)) (32:Int) fun Qf=>q30 j99 (16:Int) fun Qi=>q30 (Go.IntKind.u64.wrap (↑(BitVec.ofInt (64:Nat) Qi ^^^ BitVec.ofInt (64:Nat) (Go.IntKind.u64.wrap (q5w+j99))).toNat:Int)) (21:Int) fun Qe=>q30 (Go.IntKind.u64.wrap (↑(BitVec.ofInt (64:Nat) Qc ^^^ BitVec.ofInt (64:Nat) (Go.IntKind.u64.wrap (Qz+z8f))).toNat:Int)) (17:Int) fun Ql=>q30 (Go.IntKind.u64.wrap (Go.IntKind.u64.wrap (q5w+j99)+Go.IntKind.u64.wrap (↑(BitVec.ofInt (64:Nat) Qc ^^^ BitVec.ofInt (64:Nat) (Go.IntKind.u64.wrap (Qz+z8f))).toNat:Int))) (32:Int) fun Zp=>InI (Qa+1)/\y7j (Qa+1) (Go.IntKind.u64.wrap (Qf+Go.IntKind.u64.wrap (↑(BitVec.ofInt (64:Nat) Qi ^^^ BitVec.ofInt (64:Nat) (Go.IntKind.u64.wrap (q5w+j99))).toNat:Int))) (Go.IntKind.u64.wrap (↑(BitVec.ofInt (64:Nat) Ql ^^^ BitVec.ofInt (64:Nat) (Go.IntKind.u64.wrap (Go.IntKind.u64.wrap (q5w+j99)+Go.IntKind.u64.wrap (↑(BitVec.ofInt (64:Nat) Qc ^^^ BitVec.ofInt (64:Nat) (Go.IntKind.u64.wrap (Qz+z8f))).toNat:Int)))).toNat:Int)) Zp (Go.IntKind.u64.wrap (↑(BitVec.ofInt (64:Nat) Qe ^^^ BitVec.ofInt (64:Nat) (Go.IntKind.u64.wrap (Qf+Go.IntKind.u64.wrap (↑(BitVec.ofInt (64:Nat) Qi ^^^ BitVec.ofInt (64:Nat) (Go.IntKind.u64.wrap (q5w+j99))).toNat:Int)))).toNat:Int))) (K (Sip.mk Qz z8f q5w j99))) (0:Int) v.1 v.2 v.3 v.4
def Jt:q5o:=z3m z88
abbrev w3s:Type:=Int->Int->List (Int)->(Int->Prop)->Prop
def v1y(q5y:q5o):w3s:=fun k0 k1 b K=>Lp5 (fun Qa Qz z8f q5w j99 y7j=>Fits b->(8:Int)≠(0:Int)/\InI ((↑b.length:Int).tdiv (8:Int))/\Cnd (Qa<=(↑b.length:Int).tdiv (8:Int)) (Lp2 (fun Qf Zl q7b=>Cnd (Zl<8) (InI ((8:Int)*Qa)/\InI ((8:Int)*Qa+Zl)/\(Fits b->Cnd ((8:Int)*Qa+Zl<(↑b.length:Int)) (InI ((8:Int)*Qa)/\InI ((8:Int)*Qa+Zl)/\((0:Int)<=(8:Int)*Qa+Zl/\(8:Int)*Qa+Zl<(↑b.length:Int))/\ ∀y4,b[((8:Int)*Qa+Zl).toNat]? =some y4->InI ((8:Int)*Zl)/\(0:Int)<=Go.IntKind.u64.wrap ((8:Int)*Zl)/\InI (Zl+1)/\q7b (Go.IntKind.u64.wrap (↑(BitVec.ofInt (64:Nat) Qf|||BitVec.ofInt (64:Nat) (Go.IntKind.u64.wrap (Go.IntKind.u64.wrap y4*2 ^ Min.min (Go.IntKind.u64.wrap ((8:Int)*Zl)).toNat (64:Nat)))).toNat:Int)) (Zl+1)) (Jn1 (fun Qe=>q5y (Sip.mk Qz z8f q5w (Go.IntKind.u64.wrap (↑(BitVec.ofInt (64:Nat) j99 ^^^ BitVec.ofInt (64:Nat) Qe).toNat:Int))) (2:Int) fun Ql=>InI (Qa+1)/\y7j (Qa+1) (Go.IntKind.u64.wrap (↑(BitVec.ofInt (64:Nat) Ql.1 ^^^ BitVec.ofInt (64:Nat) Qe).toNat:Int)) Ql.2 Ql.3 Ql.4) fun v49=>Fits b->(8:Int)≠(0:Int)/\InI ((↑b.length:Int).tdiv (8:Int))/\Cnd (Qa=(↑b.length:Int).tdiv (8:Int)) (Fits b->(256:Int)≠(0:Int)/\(0:Int)<=(56:Int)/\v49 (Go.IntKind.u64.wrap (↑(BitVec.ofInt (64:Nat) Qf|||BitVec.ofInt (64:Nat) (Go.IntKind.u64.wrap (Go.IntKind.u64.wrap ((↑b.length:Int).tmod (256:Int))*(2:Int) ^ Min.min (Int.toNat (56:Int)) (64:Nat)))).toNat:Int))) (v49 Qf)))) (Jn1 (fun Qi=>q5y (Sip.mk Qz z8f q5w (Go.IntKind.u64.wrap (↑(BitVec.ofInt (64:Nat) j99 ^^^ BitVec.ofInt (64:Nat) Qi).toNat:Int))) (2:Int) fun Qe=>InI (Qa+1)/\y7j (Qa+1) (Go.IntKind.u64.wrap (↑(BitVec.ofInt (64:Nat) Qe.1 ^^^ BitVec.ofInt (64:Nat) Qi).toNat:Int)) Qe.2 Qe.3 Qe.4) fun v9q=>Fits b->(8:Int)≠(0:Int)/\InI ((↑b.length:Int).tdiv (8:Int))/\Cnd (Qa=(↑b.length:Int).tdiv (8:Int)) (Fits b->(256:Int)≠(0:Int)/\(0:Int)<=(56:Int)/\v9q (Go.IntKind.u64.wrap (↑(BitVec.ofInt (64:Nat) Qf|||BitVec.ofInt (64:Nat) (Go.IntKind.u64.wrap (Go.IntKind.u64.wrap ((↑b.length:Int).tmod (256:Int))*(2:Int) ^ Min.min (Int.toNat (56:Int)) (64:Nat)))).toNat:Int))) (v9q Qf))) (0:Int) (0:Int)) (q5y (Sip.mk Qz z8f (Go.IntKind.u64.wrap (↑(BitVec.ofInt (64:Nat) q5w ^^^ BitVec.ofInt (64:Nat) (255:Int)).toNat:Int)) j99) (4:Int) fun Qf=>K (Go.IntKind.u64.wrap (↑(BitVec.ofInt (64:Nat) (Go.IntKind.u64.wrap (↑(BitVec.ofInt (64:Nat) (Go.IntKind.u64.wrap (↑(BitVec.ofInt (64:Nat) Qf.1 ^^^ BitVec.ofInt (64:Nat) Qf.2).toNat:Int)) ^^^ BitVec.ofInt (64:Nat) Qf.3).toNat:Int)) ^^^ BitVec.ofInt (64:Nat) Qf.4).toNat:Int)))) (0:Int) (Go.IntKind.u64.wrap (↑(BitVec.ofInt (64:Nat) k0 ^^^ BitVec.ofInt (64:Nat) (8317987319222330741:Int)).toNat:Int)) (Go.IntKind.u64.wrap (↑(BitVec.ofInt (64:Nat) k1 ^^^ BitVec.ofInt (64:Nat) (7237128888997146477:Int)).toNat:Int)) (Go.IntKind.u64.wrap (↑(BitVec.ofInt (64:Nat) k0 ^^^ BitVec.ofInt (64:Nat) (7816392313619706465:Int)).toNat:Int)) (Go.IntKind.u64.wrap (↑(BitVec.ofInt (64:Nat) k1 ^^^ BitVec.ofInt (64:Nat) (8387220255154660723:Int)).toNat:Int))
def w3t:w3s:=v1y Jt
abbrev j77:Type:=Int->List (List Int)->(Int->Prop)->Prop
def w6t(v5b:w1v)(y2y:w3s):j77:=fun domain fields K=>v5b fields fun Qa=>y2y domain (0:Int) Qa fun Qc=>K Qc
def j78:j77:=w6t j29 w3t
abbrev v1z:Type:=ByteArray->ByteArray->(Int->Prop)->Prop
def v10(v9v:j77):v1z:=fun salt key K=>Sml salt.size/\Sml key.size/\v9v (1:Int) [List.map (fun b=>(↑b.toNat:Int)) (salt,key,()).1.data.toList,List.map (fun b=>(↑b.toNat:Int)) (salt,key,()).2.1.data.toList] fun Qa=>(10000:Int)≠(0:Int)/\InI (Qa.tmod (10000:Int))/\K (Qa.tmod (10000:Int))
def w3u:v1z:=v10 j78
abbrev z09:Type:=List (Int)->Int->Envt->(List (Frc)->Int->Prop)->Prop
def j3a(Qb:Zf):z09:=fun list at_ v K=>Lp3 (fun Qa Qz z8f u18=>Qb list z8f (3:Int) fun Qc Z5=>Cnd (Qz<Qc) (Qb list Z5 (4:Int) fun Qf Zl=>InI ((1:Int)+Qf)/\Jn2 (fun Qi H7=>Jn4 (fun Qe Jr j2b v9z=>Sml (Qa++[Frc.mk Qe Jr j2b]).length/\InI (Qz+1)/\u18 (Qa++[Frc.mk Qe Jr j2b]) (Qz+1) v9z) fun v49=>Qb list H7 (4:Int) fun Ql q7c=>Fits v.6->CAt v.6 Ql (fun y7=>Jn2 (fun Qr z67=>At v.6 Ql fun y10=>Qb list z67 (4:Int) fun Ur v5a=>Cnd ((0:Int)<Ur) (Fits y10.7->Cnd ((0:Int)<(↑y10.7.length:Int)) (Fits y10.7->Qb list v5a (↑y10.7.length:Int) fun w8e u1j=>At y10.7 w8e fun y16=>v49 Qr y7.1 y16.3 u1j) (v49 Qr y7.1 ((1:Int)+Qf) v5a)) (v49 Qr y7.1 ((1:Int)+Qf) v5a)) fun y2t=>Qb list q7c (4:Int) fun Uq Bo=>Cnd ((0:Int)<Uq) (At v.6 Ql fun y11=>y2t y11.2 Bo) (y2t Qi Bo)) (v49 Qi (ByteArray.mk (Array.mk [])) ((1:Int)+Qf) q7c)) fun v9q=>Qb list Zl (3:Int) fun Qe Jr=>Cnd (Qe=1) (v9q (ByteArray.mk (Array.mk [108,98])) Jr) (v9q (ByteArray.mk (Array.mk [108,97])) Jr)) (K Qa Z5)) [] (0:Int) at_
def z6y:z09:=j3a J2
abbrev q2d:Type:=List (Int)->List (Int)->(Envt->Subj->List (Frc)->Prop)->Prop
def z2e(j96:w3q)(q26:Hu)(z3h:q8d)(z7g:z09):q2d:=fun codes who K=>j96 codes (400:Int) fun Qa Qz=>q26 Qa Qz (10:Int) fun Qc _=>j96 who (80:Int) fun Qf Zl=>z3h Qf Zl fun Qi H7=>z7g Qf H7 (Envt.mk (Sett.mk Qc.1.1 Qc.1.2 Qc.1.3) Qc.2 Qc.3 Qc.4 Qc.5 Qc.6) fun Qe _=>K (Envt.mk (Sett.mk Qc.1.1 Qc.1.2 Qc.1.3) Qc.2 Qc.3 Qc.4 Qc.5 Qc.6) (Subj.mk Qi.1) Qe
def q2e:q2d:=z2e w3r q1q z2d z6y
abbrev z4t:Type:=ByteArray->ByteArray->Int->(Bool->Prop)->Prop
def q9c:z4t:=fun s t i K=>Cnd ((0:Int)<=i) (InI (i+(↑t.size:Int))/\Cnd (i+(↑t.size:Int)<=(↑s.size:Int)) (InI (i+(↑t.size:Int))/\((0:Int)<=i/\i<=i+(↑t.size:Int)/\i+(↑t.size:Int)<=(↑s.size:Int))/\K (decide (s.extract i.toNat (i+(↑t.size:Int)).toNat=t))) (K false)) (K false)
abbrev z0c:Type:=Val->Val->(Bool->Prop)->Prop
def z7z(Vg:q33)(q9z:z4t):z0c:=fun v w K=>Cnd (w.1=3) (Cnd (v.1=5) (Vg v.4 w.3 fun Qa=>K Qa) (Lp1 (fun Qa q5c=>Cnd (v.1=3) (InI (Qa+(↑w.3.size:Int))/\Cnd (Qa+(↑w.3.size:Int)<=(↑v.3.size:Int)) (q9z v.3 w.3 Qa fun Qc=>Cnd (Qc=true) (K true) (InI (Qa+1)/\q5c (Qa+1))) (K false)) (K false)) (0:Int))) (K false)
def z0d:z0c:=z7z q34 q9c
abbrev w6u:Type:=Bool->Bool->(Int->Prop)->Prop
def z4u:w6u:=fun less greater K=>Cnd (less=true) (K (-1:Int)) (Cnd (greater=true) (K (1:Int)) (K (0:Int)))
abbrev z4v:Type:=Val->Val->(Int->Int->Prop)->Prop
def j4q(Jg:q0x)(Qd:w6u)(q3y:q67):z4v:=fun a b K=>Jg a fun Qa=>Cnd (Qa=0) (Jg b fun Qc=>Cnd (Qc=0) (Cnd (a.1=b.1) (Cnd (a.1=1) (K (0:Int) (8:Int)) (Cnd (a.1=5) (K (0:Int) (8:Int)) (Cnd (a.1=2) (Qd (decide (a.2<b.2)) (decide (b.2<a.2)) fun Qf=>K Qf (0:Int)) (Cnd (a.1=3) (Qd (decide (Lk.blt a.3 b.3)) (decide (Lk.blt b.3 a.3)) fun Qf=>K Qf (0:Int)) (q3y a.3 fun (Qf:Int×Int×Int) _=>q3y b.3 fun (Qi:Int×Int×Int) _=>Lp1 (fun Qe w8i=>Cnd (Qe<3) (((0:Int)<=Qe/\Qe<(↑(3:Nat):Int))/\((True/\(Qe=(↑(nat_lit 0):Int)->((0:Int)<=Qe/\Qe<(↑(3:Nat):Int))/\((True/\(Qe=(↑(nat_lit 0):Int)->Cnd (Qf.1=Qi.1) (InI (Qe+1)/\w8i (Qe+1)) (((0:Int)<=Qe/\Qe<(↑(3:Nat):Int))/\((True/\(Qe=(↑(nat_lit 0):Int)->((0:Int)<=Qe/\Qe<(↑(3:Nat):Int))/\((True/\(Qe=(↑(nat_lit 0):Int)->Qd (decide (Qf.1<Qi.1)) true fun Qr=>K Qr (0:Int)))/\(Qe=(↑(nat_lit 1):Int)->Qd (decide (Qf.1<Qi.2.1)) true fun Qr=>K Qr (0:Int)))/\(Qe=(↑(nat_lit 2):Int)->Qd (decide (Qf.1<Qi.2.2)) true fun Qr=>K Qr (0:Int))))/\(Qe=(↑(nat_lit 1):Int)->((0:Int)<=Qe/\Qe<(↑(3:Nat):Int))/\((True/\(Qe=(↑(nat_lit 0):Int)->Qd (decide (Qf.2.1<Qi.1)) true fun Qr=>K Qr (0:Int)))/\(Qe=(↑(nat_lit 1):Int)->Qd (decide (Qf.2.1<Qi.2.1)) true fun Qr=>K Qr (0:Int)))/\(Qe=(↑(nat_lit 2):Int)->Qd (decide (Qf.2.1<Qi.2.2)) true fun Qr=>K Qr (0:Int))))/\(Qe=(↑(nat_lit 2):Int)->((0:Int)<=Qe/\Qe<(↑(3:Nat):Int))/\((True/\(Qe=(↑(nat_lit 0):Int)->Qd (decide (Qf.2.2<Qi.1)) true fun Qr=>K Qr (0:Int)))/\(Qe=(↑(nat_lit 1):Int)->Qd (decide (Qf.2.2<Qi.2.1)) true fun Qr=>K Qr (0:Int)))/\(Qe=(↑(nat_lit 2):Int)->Qd (decide (Qf.2.2<Qi.2.2)) true fun Qr=>K Qr (0:Int))))))/\(Qe=(↑(nat_lit 1):Int)->Cnd (Qf.1=Qi.2.1) (InI (Qe+1)/\w8i (Qe+1)) (((0:Int)<=Qe/\Qe<(↑(3:Nat):Int))/\((True/\(Qe=(↑(nat_lit 0):Int)->((0:Int)<=Qe/\Qe<(↑(3:Nat):Int))/\((True/\(Qe=(↑(nat_lit 0):Int)->Qd (decide (Qf.1<Qi.1)) true fun Qr=>K Qr (0:Int)))/\(Qe=(↑(nat_lit 1):Int)->Qd (decide (Qf.1<Qi.2.1)) true fun Qr=>K Qr (0:Int)))/\(Qe=(↑(nat_lit 2):Int)->Qd (decide (Qf.1<Qi.2.2)) true fun Qr=>K Qr (0:Int))))/\(Qe=(↑(nat_lit 1):Int)->((0:Int)<=Qe/\Qe<(↑(3:Nat):Int))/\((True/\(Qe=(↑(nat_lit 0):Int)->Qd (decide (Qf.2.1<Qi.1)) true fun Qr=>K Qr (0:Int)))/\(Qe=(↑(nat_lit 1):Int)->Qd (decide (Qf.2.1<Qi.2.1)) true fun Qr=>K Qr (0:Int)))/\(Qe=(↑(nat_lit 2):Int)->Qd (decide (Qf.2.1<Qi.2.2)) true fun Qr=>K Qr (0:Int))))/\(Qe=(↑(nat_lit 2):Int)->((0:Int)<=Qe/\Qe<(↑(3:Nat):Int))/\((True/\(Qe=(↑(nat_lit 0):Int)->Qd (decide (Qf.2.2<Qi.1)) true fun Qr=>K Qr (0:Int)))/\(Qe=(↑(nat_lit 1):Int)->Qd (decide (Qf.2.2<Qi.2.1)) true fun Qr=>K Qr (0:Int)))/\(Qe=(↑(nat_lit 2):Int)->Qd (decide (Qf.2.2<Qi.2.2)) true fun Qr=>K Qr (0:Int))))))/\(Qe=(↑(nat_lit 2):Int)->Cnd (Qf.1=Qi.2.2) (InI (Qe+1)/\w8i (Qe+1)) (((0:Int)<=Qe/\Qe<(↑(3:Nat):Int))/\((True/\(Qe=(↑(nat_lit 0):Int)->((0:Int)<=Qe/\Qe<(↑(3:Nat):Int))/\((True/\(Qe=(↑(nat_lit 0):Int)->Qd (decide (Qf.1<Qi.1)) true fun Qr=>K Qr (0:Int)))/\(Qe=(↑(nat_lit 1):Int)->Qd (decide (Qf.1<Qi.2.1)) true fun Qr=>K Qr (0:Int)))/\(Qe=(↑(nat_lit 2):Int)->Qd (decide (Qf.1<Qi.2.2)) true fun Qr=>K Qr (0:Int))))/\(Qe=(↑(nat_lit 1):Int)->((0:Int)<=Qe/\Qe<(↑(3:Nat):Int))/\((True/\(Qe=(↑(nat_lit 0):Int)->Qd (decide (Qf.2.1<Qi.1)) true fun Qr=>K Qr (0:Int)))/\(Qe=(↑(nat_lit 1):Int)->Qd (decide (Qf.2.1<Qi.2.1)) true fun Qr=>K Qr (0:Int)))/\(Qe=(↑(nat_lit 2):Int)->Qd (decide (Qf.2.1<Qi.2.2)) true fun Qr=>K Qr (0:Int))))/\(Qe=(↑(nat_lit 2):Int)->((0:Int)<=Qe/\Qe<(↑(3:Nat):Int))/\((True/\(Qe=(↑(nat_lit 0):Int)->Qd (decide (Qf.2.2<Qi.1)) true fun Qr=>K Qr (0:Int)))/\(Qe=(↑(nat_lit 1):Int)->Qd (decide (Qf.2.2<Qi.2.1)) true fun Qr=>K Qr (0:Int)))/\(Qe=(↑(nat_lit 2):Int)->Qd (decide (Qf.2.2<Qi.2.2)) true fun Qr=>K Qr (0:Int)))))))/\(Qe=(↑(nat_lit 1):Int)->((0:Int)<=Qe/\Qe<(↑(3:Nat):Int))/\((True/\(Qe=(↑(nat_lit 0):Int)->Cnd (Qf.2.1=Qi.1) (InI (Qe+1)/\w8i (Qe+1)) (((0:Int)<=Qe/\Qe<(↑(3:Nat):Int))/\((True/\(Qe=(↑(nat_lit 0):Int)->((0:Int)<=Qe/\Qe<(↑(3:Nat):Int))/\((True/\(Qe=(↑(nat_lit 0):Int)->Qd (decide (Qf.1<Qi.1)) true fun Qr=>K Qr (0:Int)))/\(Qe=(↑(nat_lit 1):Int)->Qd (decide (Qf.1<Qi.2.1)) true fun Qr=>K Qr (0:Int)))/\(Qe=(↑(nat_lit 2):Int)->Qd (decide (Qf.1<Qi.2.2)) true fun Qr=>K Qr (0:Int))))/\(Qe=(↑(nat_lit 1):Int)->((0:Int)<=Qe/\Qe<(↑(3:Nat):Int))/\((True/\(Qe=(↑(nat_lit 0):Int)->Qd (decide (Qf.2.1<Qi.1)) true fun Qr=>K Qr (0:Int)))/\(Qe=(↑(nat_lit 1):Int)->Qd (decide (Qf.2.1<Qi.2.1)) true fun Qr=>K Qr (0:Int)))/\(Qe=(↑(nat_lit 2):Int)->Qd (decide (Qf.2.1<Qi.2.2)) true fun Qr=>K Qr (0:Int))))/\(Qe=(↑(nat_lit 2):Int)->((0:Int)<=Qe/\Qe<(↑(3:Nat):Int))/\((True/\(Qe=(↑(nat_lit 0):Int)->Qd (decide (Qf.2.2<Qi.1)) true fun Qr=>K Qr (0:Int)))/\(Qe=(↑(nat_lit 1):Int)->Qd (decide (Qf.2.2<Qi.2.1)) true fun Qr=>K Qr (0:Int)))/\(Qe=(↑(nat_lit 2):Int)->Qd (decide (Qf.2.2<Qi.2.2)) true fun Qr=>K Qr (0:Int))))))/\(Qe=(↑(nat_lit 1):Int)->Cnd (Qf.2.1=Qi.2.1) (InI (Qe+1)/\w8i (Qe+1)) (((0:Int)<=Qe/\Qe<(↑(3:Nat):Int))/\((True/\(Qe=(↑(nat_lit 0):Int)->((0:Int)<=Qe/\Qe<(↑(3:Nat):Int))/\((True/\(Qe=(↑(nat_lit 0):Int)->Qd (decide (Qf.1<Qi.1)) true fun Qr=>K Qr (0:Int)))/\(Qe=(↑(nat_lit 1):Int)->Qd (decide (Qf.1<Qi.2.1)) true fun Qr=>K Qr (0:Int)))/\(Qe=(↑(nat_lit 2):Int)->Qd (decide (Qf.1<Qi.2.2)) true fun Qr=>K Qr (0:Int))))/\(Qe=(↑(nat_lit 1):Int)->((0:Int)<=Qe/\Qe<(↑(3:Nat):Int))/\((True/\(Qe=(↑(nat_lit 0):Int)->Qd (decide (Qf.2.1<Qi.1)) true fun Qr=>K Qr (0:Int)))/\(Qe=(↑(nat_lit 1):Int)->Qd (decide (Qf.2.1<Qi.2.1)) true fun Qr=>K Qr (0:Int)))/\(Qe=(↑(nat_lit 2):Int)->Qd (decide (Qf.2.1<Qi.2.2)) true fun Qr=>K Qr (0:Int))))/\(Qe=(↑(nat_lit 2):Int)->((0:Int)<=Qe/\Qe<(↑(3:Nat):Int))/\((True/\(Qe=(↑(nat_lit 0):Int)->Qd (decide (Qf.2.2<Qi.1)) true fun Qr=>K Qr (0:Int)))/\(Qe=(↑(nat_lit 1):Int)->Qd (decide (Qf.2.2<Qi.2.1)) true fun Qr=>K Qr (0:Int)))/\(Qe=(↑(nat_lit 2):Int)->Qd (decide (Qf.2.2<Qi.2.2)) true fun Qr=>K Qr (0:Int))))))/\(Qe=(↑(nat_lit 2):Int)->Cnd (Qf.2.1=Qi.2.2) (InI (Qe+1)/\w8i (Qe+1)) (((0:Int)<=Qe/\Qe<(↑(3:Nat):Int))/\((True/\(Qe=(↑(nat_lit 0):Int)->((0:Int)<=Qe/\Qe<(↑(3:Nat):Int))/\((True/\(Qe=(↑(nat_lit 0):Int)->Qd (decide (Qf.1<Qi.1)) true fun Qr=>K Qr (0:Int)))/\(Qe=(↑(nat_lit 1):Int)->Qd (decide (Qf.1<Qi.2.1)) true fun Qr=>K Qr (0:Int)))/\(Qe=(↑(nat_lit 2):Int)->Qd (decide (Qf.1<Qi.2.2)) true fun Qr=>K Qr (0:Int))))/\(Qe=(↑(nat_lit 1):Int)->((0:Int)<=Qe/\Qe<(↑(3:Nat):Int))/\((True/\(Qe=(↑(nat_lit 0):Int)->Qd (decide (Qf.2.1<Qi.1)) true fun Qr=>K Qr (0:Int)))/\(Qe=(↑(nat_lit 1):Int)->Qd (decide (Qf.2.1<Qi.2.1)) true fun Qr=>K Qr (0:Int)))/\(Qe=(↑(nat_lit 2):Int)->Qd (decide (Qf.2.1<Qi.2.2)) true fun Qr=>K Qr (0:Int))))/\(Qe=(↑(nat_lit 2):Int)->((0:Int)<=Qe/\Qe<(↑(3:Nat):Int))/\((True/\(Qe=(↑(nat_lit 0):Int)->Qd (decide (Qf.2.2<Qi.1)) true fun Qr=>K Qr (0:Int)))/\(Qe=(↑(nat_lit 1):Int)->Qd (decide (Qf.2.2<Qi.2.1)) true fun Qr=>K Qr (0:Int)))/\(Qe=(↑(nat_lit 2):Int)->Qd (decide (Qf.2.2<Qi.2.2)) true fun Qr=>K Qr (0:Int)))))))/\(Qe=(↑(nat_lit 2):Int)->((0:Int)<=Qe/\Qe<(↑(3:Nat):Int))/\((True/\(Qe=(↑(nat_lit 0):Int)->Cnd (Qf.2.2=Qi.1) (InI (Qe+1)/\w8i (Qe+1)) (((0:Int)<=Qe/\Qe<(↑(3:Nat):Int))/\((True/\(Qe=(↑(nat_lit 0):Int)->((0:Int)<=Qe/\Qe<(↑(3:Nat):Int))/\((True/\(Qe=(↑(nat_lit 0):Int)->Qd (decide (Qf.1<Qi.1)) true fun Qr=>K Qr (0:Int)))/\(Qe=(↑(nat_lit 1):Int)->Qd (decide (Qf.1<Qi.2.1)) true fun Qr=>K Qr (0:Int)))/\(Qe=(↑(nat_lit 2):Int)->Qd (decide (Qf.1<Qi.2.2)) true fun Qr=>K Qr (0:Int))))/\(Qe=(↑(nat_lit 1):Int)->((0:Int)<=Qe/\Qe<(↑(3:Nat):Int))/\((True/\(Qe=(↑(nat_lit 0):Int)->Qd (decide (Qf.2.1<Qi.1)) true fun Qr=>K Qr (0:Int)))/\(Qe=(↑(nat_lit 1):Int)->Qd (decide (Qf.2.1<Qi.2.1)) true fun Qr=>K Qr (0:Int)))/\(Qe=(↑(nat_lit 2):Int)->Qd (decide (Qf.2.1<Qi.2.2)) true fun Qr=>K Qr (0:Int))))/\(Qe=(↑(nat_lit 2):Int)->((0:Int)<=Qe/\Qe<(↑(3:Nat):Int))/\((True/\(Qe=(↑(nat_lit 0):Int)->Qd (decide (Qf.2.2<Qi.1)) true fun Qr=>K Qr (0:Int)))/\(Qe=(↑(nat_lit 1):Int)->Qd (decide (Qf.2.2<Qi.2.1)) true fun Qr=>K Qr (0:Int)))/\(Qe=(↑(nat_lit 2):Int)->Qd (decide (Qf.2.2<Qi.2.2)) true fun Qr=>K Qr (0:Int))))))/\(Qe=(↑(nat_lit 1):Int)->Cnd (Qf.2.2=Qi.2.1) (InI (Qe+1)/\w8i (Qe+1)) (((0:Int)<=Qe/\Qe<(↑(3:Nat):Int))/\((True/\(Qe=(↑(nat_lit 0):Int)->((0:Int)<=Qe/\Qe<(↑(3:Nat):Int))/\((True/\(Qe=(↑(nat_lit 0):Int)->Qd (decide (Qf.1<Qi.1)) true fun Qr=>K Qr (0:Int)))/\(Qe=(↑(nat_lit 1):Int)->Qd (decide (Qf.1<Qi.2.1)) true fun Qr=>K Qr (0:Int)))/\(Qe=(↑(nat_lit 2):Int)->Qd (decide (Qf.1<Qi.2.2)) true fun Qr=>K Qr (0:Int))))/\(Qe=(↑(nat_lit 1):Int)->((0:Int)<=Qe/\Qe<(↑(3:Nat):Int))/\((True/\(Qe=(↑(nat_lit 0):Int)->Qd (decide (Qf.2.1<Qi.1)) true fun Qr=>K Qr (0:Int)))/\(Qe=(↑(nat_lit 1):Int)->Qd (decide (Qf.2.1<Qi.2.1)) true fun Qr=>K Qr (0:Int)))/\(Qe=(↑(nat_lit 2):Int)->Qd (decide (Qf.2.1<Qi.2.2)) true fun Qr=>K Qr (0:Int))))/\(Qe=(↑(nat_lit 2):Int)->((0:Int)<=Qe/\Qe<(↑(3:Nat):Int))/\((True/\(Qe=(↑(nat_lit 0):Int)->Qd (decide (Qf.2.2<Qi.1)) true fun Qr=>K Qr (0:Int)))/\(Qe=(↑(nat_lit 1):Int)->Qd (decide (Qf.2.2<Qi.2.1)) true fun Qr=>K Qr (0:Int)))/\(Qe=(↑(nat_lit 2):Int)->Qd (decide (Qf.2.2<Qi.2.2)) true fun Qr=>K Qr (0:Int))))))/\(Qe=(↑(nat_lit 2):Int)->Cnd (Qf.2.2=Qi.2.2) (InI (Qe+1)/\w8i (Qe+1)) (((0:Int)<=Qe/\Qe<(↑(3:Nat):Int))/\((True/\(Qe=(↑(nat_lit 0):Int)->((0:Int)<=Qe/\Qe<(↑(3:Nat):Int))/\((True/\(Qe=(↑(nat_lit 0):Int)->Qd (decide (Qf.1<Qi.1)) true fun Qr=>K Qr (0:Int)))/\(Qe=(↑(nat_lit 1):Int)->Qd (decide (Qf.1<Qi.2.1)) true fun Qr=>K Qr (0:Int)))/\(Qe=(↑(nat_lit 2):Int)->Qd (decide (Qf.1<Qi.2.2)) true fun Qr=>K Qr (0:Int))))/\(Qe=(↑(nat_lit 1):Int)->((0:Int)<=Qe/\Qe<(↑(3:Nat):Int))/\((True/\(Qe=(↑(nat_lit 0):Int)->Qd (decide (Qf.2.1<Qi.1)) true fun Qr=>K Qr (0:Int)))/\(Qe=(↑(nat_lit 1):Int)->Qd (decide (Qf.2.1<Qi.2.1)) true fun Qr=>K Qr (0:Int)))/\(Qe=(↑(nat_lit 2):Int)->Qd (decide (Qf.2.1<Qi.2.2)) true fun Qr=>K Qr (0:Int))))/\(Qe=(↑(nat_lit 2):Int)->((0:Int)<=Qe/\Qe<(↑(3:Nat):Int))/\((True/\(Qe=(↑(nat_lit 0):Int)->Qd (decide (Qf.2.2<Qi.1)) true fun Qr=>K Qr (0:Int)))/\(Qe=(↑(nat_lit 1):Int)->Qd (decide (Qf.2.2<Qi.2.1)) true fun Qr=>K Qr (0:Int)))/\(Qe=(↑(nat_lit 2):Int)->Qd (decide (Qf.2.2<Qi.2.2)) true fun Qr=>K Qr (0:Int))))))) (K (0:Int) (0:Int))) (0:Int)))))) (K (0:Int) (8:Int))) (K (0:Int) Qc)) (K (0:Int) Qa)
def q9d:z4v:=j4q q0y z4u q3a
abbrev j3b:Type:=Subj->Ex->(Bool->Prop)->Prop
def w1w(v02:z86)(Q1:W6)(W2:q0w)(q9z:z4t)(z8g:z0c)(j48:z4v):j3b:=fun s e K=>v02 (Subj.mk s.1) e.2 e.3 fun Qa Qz=>Cnd (Qz=true) (Q1 e.1 fun Qc=>Cnd (Qc=true) (Cnd (e.1=6) (K true) (Cnd (e.1=8) (Lp1 (fun Qf j19=>Fits e.4->CAt e.4 Qf (fun y4=>W2 Qa y4 fun Zp=>Cnd (Zp=true) (K true) (InI (Qf+1)/\j19 (Qf+1))) (K false)) (0:Int)) (Fits e.4->Cnd ((↑e.4.length:Int)=0) (K false) (((0:Int)<=(0:Int)/\(0:Int)<(↑e.4.length:Int))/\ ∀y3,e.4[Int.toNat (0:Int)]? =some y3->Cnd (Qa.1=3) (Cnd (e.1=7) (W2 Qa y3 fun Ql=>K Ql) (Cnd (e.1=9) (Cnd (y3.1=3) (q9z Qa.3 y3.3 (0:Int) fun Ql=>K Ql) (K false)) (Cnd (e.1=10) (Cnd (y3.1=3) (InI ((↑Qa.3.size:Int) - (↑y3.3.size:Int))/\q9z Qa.3 y3.3 ((↑Qa.3.size:Int) - (↑y3.3.size:Int)) fun Ql=>K Ql) (K false)) (Cnd (e.1=11) (z8g Qa y3 fun Ql=>K Ql) (j48 Qa y3 fun Ql q7c=>Cnd (q7c=0) (Cnd (e.1=12) (K (decide (Ql<0))) (Cnd (e.1=13) (K (decide (Ql<=0))) (Cnd (e.1=14) (K (decide ((0:Int)<Ql))) (K (decide ((0:Int)<=Ql)))))) (K false)))))) (Cnd (e.1=7) (W2 Qa y3 fun Ql=>K Ql) (Cnd (e.1=9) (K false) (Cnd (e.1=10) (K false) (Cnd (e.1=11) (z8g Qa y3 fun Ql=>K Ql) (j48 Qa y3 fun Ql q7c=>Cnd (q7c=0) (Cnd (e.1=12) (K (decide (Ql<0))) (Cnd (e.1=13) (K (decide (Ql<=0))) (Cnd (e.1=14) (K (decide ((0:Int)<Ql))) (K (decide ((0:Int)<=Ql)))))) (K false)))))))))) (K false)) (K false)
def j3c:j3b:=w1w z87 Jw q28 q9c z0d q9d
abbrev z6z:Type:=Subj->List (ByteArray)->Ex->(Bool->Prop)->Prop
def w1x(Vg:q33)(v5c:j3b)(X:z6z):z6z:=fun s in_ e K=>Cnd (e.1=1) (K true) (Cnd (e.1=2) (Lp1 (fun Qa q5c=>Fits e.5->CAt e.5 Qa (fun y2=>X (Subj.mk s.1) in_ (Ex.mk y2.1 y2.2 y2.3 y2.4 y2.5) fun Qe=>Cnd (Qe=true) (InI (Qa+1)/\q5c (Qa+1)) (K false)) (K true)) (0:Int)) (Cnd (e.1=3) (Lp1 (fun Qa q5c=>Fits e.5->CAt e.5 Qa (fun y2=>X (Subj.mk s.1) in_ (Ex.mk y2.1 y2.2 y2.3 y2.4 y2.5) fun Qe=>Cnd (Qe=true) (K true) (InI (Qa+1)/\q5c (Qa+1))) (K false)) (0:Int)) (Cnd (e.1=4) (Fits e.5->Cnd ((0:Int)<(↑e.5.length:Int)) (((0:Int)<=(0:Int)/\(0:Int)<(↑e.5.length:Int))/\ ∀y1,e.5[Int.toNat (0:Int)]? =some y1->X (Subj.mk s.1) in_ (Ex.mk y1.1 y1.2 y1.3 y1.4 y1.5) fun Qi=>K (match decide ((Qi,()).1=true) with|true=>false|false=>true)) (K false)) (Cnd (e.1=5) (Vg in_ e.3 fun Qa=>K Qa) (v5c (Subj.mk s.1) (Ex.mk e.1 e.2 e.3 e.4 e.5) fun Qa=>K Qa)))))
def v3n:z6z:=fun s in_ e K=> ∀X:z6z,(∀s in_ e K,w1x q34 j3c X s in_ e K->X s in_ e K)->X s in_ e K
abbrev z1a:Type:=Dcs->Dcs->(Bool->Prop)->Prop
def j3d(W2:q0w):z1a:=fun a b K=>Cnd (a.1=b.1) (Cnd (a.2=b.2) (W2 (Val.mk a.3.1 a.3.2 a.3.3 a.3.4) (Val.mk b.3.1 b.3.2 b.3.3 b.3.4) fun Qa=>Cnd (Qa=true) (Cnd (a.4.1=b.4.1/\a.4.2=b.4.2/\a.4.3=b.4.3/\a.4.4=b.4.4) (K (decide (a.5=b.5))) (K false)) (K false)) (K false)) (K false)
def z60:z1a:=j3d q28
abbrev w3v:Type:=Int->Int->(Int->Prop)->Prop
def w3w:w3v:=fun x n K=>n≠(0:Int)/\Cnd (x.tmod n<0) (InI (x.tmod n+n)/\K (x.tmod n+n)) (K (x.tmod n))
abbrev H3:Type:=List (Int)->List (Int)->Int->Int->(Bool->Prop)->Prop
def H4(q62:q2c)(q63:q2d)(j97:w3v)(Z9:Vd)(z7h:z1a):H3:=fun codes who which n K=>q62 fun Qa=>Cnd (Qa=true) (q63 codes who fun Qc Z5 z52=>Fits Qc.4->Cnd ((↑Qc.4.length:Int)=0) (K true) (Fits Qc.4->j97 which (↑Qc.4.length:Int) fun Qe=>At Qc.4 Qe fun y5=>Z9 (Envt.mk (Sett.mk Qc.1.1 Qc.1.2 Qc.1.3) Qc.2 Qc.3 Qc.4 Qc.5 Qc.6) (Subj.mk Z5.1) z52 y5.1 fun Js z7p=>Sml ([]++Qc.2).length/\Sml ([]++Qc.3).length/\Sml ([]++Qc.4).length/\Sml ([]++Qc.5).length/\Sml ([]++Qc.6).length/\((0:Int)<=Qe/\Qe<(↑([]++Qc.4).length:Int))/\ ∀y8,([]++Qc.4)[Qe.toNat]? =some y8->((0:Int)<=Qe/\Qe<(↑(([]++Qc.4).set Qe.toNat (Flg.mk y8.1 y8.2 y8.3 y8.4 y8.5 y8.6 y8.7 [] (Srv.mk y8.9.1 y8.9.2 y8.9.3 y8.9.4 y8.9.5))).length:Int))/\ ∀y10,(([]++Qc.4).set Qe.toNat (Flg.mk y8.1 y8.2 y8.3 y8.4 y8.5 y8.6 y8.7 [] (Srv.mk y8.9.1 y8.9.2 y8.9.3 y8.9.4 y8.9.5)))[Qe.toNat]? =some y10->Fits y10.3->j97 n (↑y10.3.length:Int) fun Q8=>InI ((1:Int)+Q8)/\((0:Int)<=Qe/\Qe<(↑(([]++Qc.4).set Qe.toNat (Flg.mk y8.1 y8.2 y8.3 y8.4 y8.5 y8.6 y8.7 [] (Srv.mk y8.9.1 y8.9.2 y8.9.3 y8.9.4 y8.9.5))).length:Int))/\ ∀y14,(([]++Qc.4).set Qe.toNat (Flg.mk y8.1 y8.2 y8.3 y8.4 y8.5 y8.6 y8.7 [] (Srv.mk y8.9.1 y8.9.2 y8.9.3 y8.9.4 y8.9.5)))[Qe.toNat]? =some y14->At Qc.4 Qe fun y16=>Z9 (Envt.mk (Sett.mk Qc.1.1 Qc.1.2 Qc.1.3) ([]++Qc.2) ([]++Qc.3) ((([]++Qc.4).set Qe.toNat (Flg.mk y8.1 y8.2 y8.3 y8.4 y8.5 y8.6 y8.7 [] (Srv.mk y8.9.1 y8.9.2 y8.9.3 y8.9.4 y8.9.5))).set Qe.toNat (Flg.mk y14.1 y14.2 y14.3 y14.4 y14.5 y14.6 y14.7 y14.8 (Srv.mk ((1:Int)+Q8) (ByteArray.mk (Array.mk [])) (ByteArray.mk (Array.mk [])) (ByteArray.mk (Array.mk [])) []))) ([]++Qc.5) ([]++Qc.6)) (Subj.mk Z5.1) z52 y16.1 fun G7 y67=>Cnd (z7p=0) (Cnd (y67=0) (Cnd (Js.4.1<=4) (z7h (Dcs.mk Js.1 Js.2 (Val.mk Js.3.1 Js.3.2 Js.3.3 Js.3.4) (Rsn.mk Js.4.1 Js.4.2 Js.4.3 Js.4.4) Js.5) (Dcs.mk G7.1 G7.2 (Val.mk G7.3.1 G7.3.2 G7.3.3 G7.3.4) (Rsn.mk G7.4.1 G7.4.2 G7.4.3 G7.4.4) G7.5) fun Z4=>K Z4) (Cnd (G7.4.1=6/\G7.4.2=0/\G7.4.3=ByteArray.mk (Array.mk [])/\G7.4.4=(-1:Int)) (((0:Int)<=Qe/\Qe<(↑((([]++Qc.4).set Qe.toNat (Flg.mk y8.1 y8.2 y8.3 y8.4 y8.5 y8.6 y8.7 [] (Srv.mk y8.9.1 y8.9.2 y8.9.3 y8.9.4 y8.9.5))).set Qe.toNat (Flg.mk y14.1 y14.2 y14.3 y14.4 y14.5 y14.6 y14.7 y14.8 (Srv.mk ((1:Int)+Q8) (ByteArray.mk (Array.mk [])) (ByteArray.mk (Array.mk [])) (ByteArray.mk (Array.mk [])) []))).length:Int))/\ ∀y19,((([]++Qc.4).set Qe.toNat (Flg.mk y8.1 y8.2 y8.3 y8.4 y8.5 y8.6 y8.7 [] (Srv.mk y8.9.1 y8.9.2 y8.9.3 y8.9.4 y8.9.5))).set Qe.toNat (Flg.mk y14.1 y14.2 y14.3 y14.4 y14.5 y14.6 y14.7 y14.8 (Srv.mk ((1:Int)+Q8) (ByteArray.mk (Array.mk [])) (ByteArray.mk (Array.mk [])) (ByteArray.mk (Array.mk [])) [])))[Qe.toNat]? =some y19->K (decide (G7.2=y19.9.1))) (K false))) (K false)) (K false))) (K false)
def Zx:H3:=H4 q6i q2e w3w H2 z60
end Go.En
end
noncomputable section
set_option maxRecDepth 100000
namespace Go.Proofs
open Go.Shelf
def Tryz.laysM171_ren:Go.Shelf.Ren:=⟨fun|171=>164|243=>202|246=>260|283=>288|284=>289|285=>290|286=>291|129=>238|317=>304|318=>305|319=>306|320=>307|337=>319|338=>320|n=>n,fun|3=>3|9=>9|2=>2|4=>4|171=>365|0=>0|53=>221|37=>22|5=>5|173=>367|212=>375|51=>326|20=>20|213=>376|46=>273|232=>390|233=>391|n=>n,fun|17=>5|18=>7|19=>8|n=>n⟩
theorem Tryz.laysM171:Go.Proofs.LaysM.n171 Tryz.prog Tryz.laysM171_ren:={
 mixed:=by kernel_rfl
 f129:=Tryz.func238.trans (congrArg some (by kernel_rfl))
 f171:=Tryz.func164.trans (congrArg some (by kernel_rfl))
 f243:=Tryz.func202.trans (congrArg some (by kernel_rfl))
 f246:=Tryz.func260.trans (congrArg some (by kernel_rfl))
 f283:=Tryz.func288.trans (congrArg some (by kernel_rfl))
 f284:=Tryz.func289.trans (congrArg some (by kernel_rfl))
 f285:=Tryz.func290.trans (congrArg some (by kernel_rfl))
 f286:=Tryz.func291.trans (congrArg some (by kernel_rfl))
 f317:=Tryz.func304.trans (congrArg some (by kernel_rfl))
 f318:=Tryz.func305.trans (congrArg some (by kernel_rfl))
 f319:=Tryz.func306.trans (congrArg some (by kernel_rfl))
 f320:=Tryz.func307.trans (congrArg some (by kernel_rfl))
 f337:=Tryz.func319.trans (congrArg some (by kernel_rfl))
 f338:=Tryz.func320.trans (congrArg some (by kernel_rfl))
 t0:=Tryz.underlying0
 a0:=Tryz.isAgg0
 z0:=Tryz.sizeOf0
 v0:=Tryz.zeroValue0
 t2:=Tryz.underlying2
 a2:=Tryz.isAgg2
 z2:=Tryz.sizeOf2
 v2:=Tryz.zeroValue2
 t3:=Tryz.underlying3
 a3:=Tryz.isAgg3
 z3:=Tryz.sizeOf3
 v3:=Tryz.zeroValue3
 t4:=Tryz.underlying4
 a4:=Tryz.isAgg4
 z4:=Tryz.sizeOf4
 v4:=Tryz.zeroValue4
 t5:=Tryz.underlying5
 a5:=Tryz.isAgg5
 z5:=Tryz.sizeOf5
 v5:=Tryz.zeroValue5
 t9:=Tryz.underlying9
 a9:=Tryz.isAgg9
 z9:=Tryz.sizeOf9
 v9:=Tryz.zeroValue9
 t20:=Tryz.underlying20
 a20:=Tryz.isAgg20
 z20:=Tryz.sizeOf20
 v20:=Tryz.zeroValue20
 t37:=Tryz.underlying22
 a37:=Tryz.isAgg22
 z37:=Tryz.sizeOf22
 v37:=Tryz.zeroValue22
 t46:=Tryz.underlying273
 a46:=Tryz.isAgg273
 z46:=Tryz.sizeOf273
 v46:=Tryz.zeroValue273
 t51:=Tryz.underlying326
 a51:=Tryz.isAgg326
 z51:=Tryz.sizeOf326
 v51:=Tryz.zeroValue326
 t53:=Tryz.underlying221
 a53:=Tryz.isAgg221
 z53:=Tryz.sizeOf221
 v53:=Tryz.zeroValue221
 t171:=Tryz.underlying365
 a171:=Tryz.isAgg365
 z171:=Tryz.sizeOf365
 v171:=Tryz.zeroValue365
 t173:=Tryz.underlying367
 a173:=Tryz.isAgg367
 z173:=Tryz.sizeOf367
 v173:=Tryz.zeroValue367
 t212:=Tryz.underlying375
 a212:=Tryz.isAgg375
 z212:=Tryz.sizeOf375
 v212:=Tryz.zeroValue375
 t213:=Tryz.underlying376
 a213:=Tryz.isAgg376
 z213:=Tryz.sizeOf376
 t232:=Tryz.underlying390
 a232:=Tryz.isAgg390
 z232:=Tryz.sizeOf390
 v232:=Tryz.zeroValue390
 t233:=Tryz.underlying391
 a233:=Tryz.isAgg391
 z233:=Tryz.sizeOf391
 v233:=Tryz.zeroValue391
 g17:=by kernel_rfl
 g18:=by kernel_rfl
 g19:=by kernel_rfl
 i0:=by kernel_rfl
 i2:=by kernel_rfl
 i3:=by kernel_rfl
 i4:=by kernel_rfl
 i5:=by kernel_rfl
 i9:=by kernel_rfl
 i20:=by kernel_rfl
 i37:=by kernel_rfl
 i46:=by kernel_rfl
 i51:=by kernel_rfl
 i53:=by kernel_rfl
 i171:=by kernel_rfl
 i173:=by kernel_rfl
 i212:=by kernel_rfl
 i232:=by kernel_rfl
 i233:=by kernel_rfl
 m17:=by kernel_rfl
 m18:=by kernel_rfl
 m19:=by kernel_rfl}
open Go.RowKit Go.Sort Go.Lib in
theorem Tryz.strconv_Itoa (n:Int) (h0: -9223372036854775808<=n) (h1:n<=9223372036854775807) (w:World) (htab:Lib.TabIs Tryz.prog w "internal/strconv.uint64pow10" .u64 Lib.pow10Tab):
  Calls Tryz.prog 164 #[.int .i64 n] w fun e w'=>e= .returned (.string ⟨(Lib.itoa n).toArray⟩)/\ ∃k os,w'=grow (w.drewN k) os:=Any.strconv_Itoa Tryz.laysM171 n h0 h1 w htab
def Tryz.laysC172_ren:Go.Shelf.Ren:=⟨fun|172=>318|244=>326|245=>327|247=>331|279=>332|280=>333|281=>334|282=>335|287=>337|316=>338|171=>164|205=>339|321=>340|322=>341|243=>202|246=>260|283=>288|284=>289|285=>290|286=>291|129=>238|317=>304|318=>305|319=>306|320=>307|337=>319|338=>320|n=>n,fun|9=>9|3=>3|75=>383|76=>384|4=>4|5=>5|167=>395|37=>22|0=>0|85=>396|2=>2|168=>398|53=>221|175=>401|46=>273|210=>405|127=>408|145=>411|143=>409|21=>21|171=>365|173=>367|212=>375|51=>326|20=>20|213=>376|232=>390|233=>391|80=>95|n=>n,fun|15=>9|16=>10|17=>5|18=>7|19=>8|n=>n⟩
theorem Tryz.laysC172:Go.Proofs.LaysC.n172 Tryz.prog Tryz.laysC172_ren:={
 mixed:=by kernel_rfl
 f129:=Tryz.func238.trans (congrArg some (by kernel_rfl))
 f171:=Tryz.func164.trans (congrArg some (by kernel_rfl))
 f172:=Tryz.func318.trans (congrArg some (by kernel_rfl))
 f205:=Tryz.func339.trans (congrArg some (by kernel_rfl))
 f243:=Tryz.func202.trans (congrArg some (by kernel_rfl))
 f244:=Tryz.func326.trans (congrArg some (by kernel_rfl))
 f245:=Tryz.func327.trans (congrArg some (by kernel_rfl))
 f246:=Tryz.func260.trans (congrArg some (by kernel_rfl))
 f247:=Tryz.func331.trans (congrArg some (by kernel_rfl))
 f279:=Tryz.func332.trans (congrArg some (by kernel_rfl))
 f280:=Tryz.func333.trans (congrArg some (by kernel_rfl))
 f281:=Tryz.func334.trans (congrArg some (by kernel_rfl))
 f282:=Tryz.func335.trans (congrArg some (by kernel_rfl))
 f283:=Tryz.func288.trans (congrArg some (by kernel_rfl))
 f284:=Tryz.func289.trans (congrArg some (by kernel_rfl))
 f285:=Tryz.func290.trans (congrArg some (by kernel_rfl))
 f286:=Tryz.func291.trans (congrArg some (by kernel_rfl))
 f287:=Tryz.func337.trans (congrArg some (by kernel_rfl))
 f316:=Tryz.func338.trans (congrArg some (by kernel_rfl))
 f317:=Tryz.func304.trans (congrArg some (by kernel_rfl))
 f318:=Tryz.func305.trans (congrArg some (by kernel_rfl))
 f319:=Tryz.func306.trans (congrArg some (by kernel_rfl))
 f320:=Tryz.func307.trans (congrArg some (by kernel_rfl))
 f321:=Tryz.func340.trans (congrArg some (by kernel_rfl))
 f322:=Tryz.func341.trans (congrArg some (by kernel_rfl))
 f337:=Tryz.func319.trans (congrArg some (by kernel_rfl))
 f338:=Tryz.func320.trans (congrArg some (by kernel_rfl))
 t0:=Tryz.underlying0
 a0:=Tryz.isAgg0
 z0:=Tryz.sizeOf0
 v0:=Tryz.zeroValue0
 t2:=Tryz.underlying2
 a2:=Tryz.isAgg2
 z2:=Tryz.sizeOf2
 v2:=Tryz.zeroValue2
 t3:=Tryz.underlying3
 a3:=Tryz.isAgg3
 z3:=Tryz.sizeOf3
 v3:=Tryz.zeroValue3
 t4:=Tryz.underlying4
 a4:=Tryz.isAgg4
 z4:=Tryz.sizeOf4
 v4:=Tryz.zeroValue4
 t5:=Tryz.underlying5
 a5:=Tryz.isAgg5
 z5:=Tryz.sizeOf5
 v5:=Tryz.zeroValue5
 t9:=Tryz.underlying9
 a9:=Tryz.isAgg9
 z9:=Tryz.sizeOf9
 v9:=Tryz.zeroValue9
 t20:=Tryz.underlying20
 a20:=Tryz.isAgg20
 z20:=Tryz.sizeOf20
 v20:=Tryz.zeroValue20
 t21:=Tryz.underlying21
 a21:=Tryz.isAgg21
 z21:=Tryz.sizeOf21
 v21:=Tryz.zeroValue21
 t37:=Tryz.underlying22
 a37:=Tryz.isAgg22
 z37:=Tryz.sizeOf22
 v37:=Tryz.zeroValue22
 t46:=Tryz.underlying273
 a46:=Tryz.isAgg273
 z46:=Tryz.sizeOf273
 v46:=Tryz.zeroValue273
 t51:=Tryz.underlying326
 a51:=Tryz.isAgg326
 z51:=Tryz.sizeOf326
 v51:=Tryz.zeroValue326
 t53:=Tryz.underlying221
 a53:=Tryz.isAgg221
 z53:=Tryz.sizeOf221
 v53:=Tryz.zeroValue221
 t75:=Tryz.underlying383
 a75:=Tryz.isAgg383
 z75:=Tryz.sizeOf383
 v75:=Tryz.zeroValue383
 t76:=Tryz.underlying384
 a76:=Tryz.isAgg384
 z76:=Tryz.sizeOf384
 v76:=Tryz.zeroValue384
 t85:=Tryz.underlying396
 a85:=Tryz.isAgg396
 z85:=Tryz.sizeOf396
 v85:=Tryz.zeroValue396
 t127:=Tryz.underlying408
 a127:=Tryz.isAgg408
 z127:=Tryz.sizeOf408
 v127:=Tryz.zeroValue408
 t143:=Tryz.underlying409
 a143:=Tryz.isAgg409
 z143:=Tryz.sizeOf409
 v143:=Tryz.zeroValue409
 t145:=Tryz.underlying411
 a145:=Tryz.isAgg411
 z145:=Tryz.sizeOf411
 v145:=Tryz.zeroValue411
 t167:=Tryz.underlying395
 a167:=Tryz.isAgg395
 z167:=Tryz.sizeOf395
 v167:=Tryz.zeroValue395
 t168:=Tryz.underlying398
 a168:=Tryz.isAgg398
 z168:=Tryz.sizeOf398
 v168:=Tryz.zeroValue398
 t171:=Tryz.underlying365
 a171:=Tryz.isAgg365
 z171:=Tryz.sizeOf365
 v171:=Tryz.zeroValue365
 t173:=Tryz.underlying367
 a173:=Tryz.isAgg367
 z173:=Tryz.sizeOf367
 v173:=Tryz.zeroValue367
 t175:=Tryz.underlying401
 a175:=Tryz.isAgg401
 z175:=Tryz.sizeOf401
 v175:=Tryz.zeroValue401
 t210:=Tryz.underlying405
 a210:=Tryz.isAgg405
 z210:=Tryz.sizeOf405
 v210:=Tryz.zeroValue405
 t212:=Tryz.underlying375
 a212:=Tryz.isAgg375
 z212:=Tryz.sizeOf375
 v212:=Tryz.zeroValue375
 t213:=Tryz.underlying376
 a213:=Tryz.isAgg376
 z213:=Tryz.sizeOf376
 t232:=Tryz.underlying390
 a232:=Tryz.isAgg390
 z232:=Tryz.sizeOf390
 v232:=Tryz.zeroValue390
 t233:=Tryz.underlying391
 a233:=Tryz.isAgg391
 z233:=Tryz.sizeOf391
 v233:=Tryz.zeroValue391
 g15:=by kernel_rfl
 g16:=by kernel_rfl
 g17:=by kernel_rfl
 g18:=by kernel_rfl
 g19:=by kernel_rfl
 t80:=Tryz.underlying95
 a80:=Tryz.isAgg95
 z80:=Tryz.sizeOf95
 v80:=Tryz.zeroValue95
 i0:=by kernel_rfl
 i2:=by kernel_rfl
 i3:=by kernel_rfl
 i4:=by kernel_rfl
 i5:=by kernel_rfl
 i9:=by kernel_rfl
 i20:=by kernel_rfl
 i21:=by kernel_rfl
 i37:=by kernel_rfl
 i46:=by kernel_rfl
 i51:=by kernel_rfl
 i53:=by kernel_rfl
 i75:=by kernel_rfl
 i76:=by kernel_rfl
 i80:=by kernel_rfl
 i85:=by kernel_rfl
 i127:=by kernel_rfl
 i143:=by kernel_rfl
 i145:=by kernel_rfl
 i167:=by kernel_rfl
 i168:=by kernel_rfl
 i171:=by kernel_rfl
 i173:=by kernel_rfl
 i175:=by kernel_rfl
 i210:=by kernel_rfl
 i212:=by kernel_rfl
 i232:=by kernel_rfl
 i233:=by kernel_rfl
 m15:=by kernel_rfl
 m16:=by kernel_rfl
 m17:=by kernel_rfl
 m18:=by kernel_rfl
 m19:=by kernel_rfl
 c0:=by kernel_rfl
 c2:=by kernel_rfl
 c3:=by kernel_rfl
 c4:=by kernel_rfl
 c5:=by kernel_rfl
 c9:=by kernel_rfl
 c20:=by kernel_rfl
 c21:=by kernel_rfl
 c37:=by kernel_rfl
 c46:=by kernel_rfl
 c51:=by kernel_rfl
 c53:=by kernel_rfl
 c75:=by kernel_rfl
 c76:=by kernel_rfl
 c80:=by kernel_rfl
 c85:=by kernel_rfl
 c127:=by kernel_rfl
 c143:=by kernel_rfl
 c145:=by kernel_rfl
 c167:=by kernel_rfl
 c168:=by kernel_rfl
 c171:=by kernel_rfl
 c173:=by kernel_rfl
 c175:=by kernel_rfl
 c210:=by kernel_rfl
 c212:=by kernel_rfl
 c213:=by kernel_rfl
 c232:=by kernel_rfl
 c233:=by kernel_rfl}
open Go.RowKit in
theorem Tryz.strconv_Atoi_ok(s:ByteArray)(hmax:s.size<=9223372036854775806)(v:Int)(h:Lib.atoiAll s.data.toList= .ok v)(w:World):
  Calls Tryz.prog 318 #[.string s] w fun e w'=>e= .returned (.tuple #[.int .i64 v,.nilIface])/\(w'=w∨ ∃t,w'=Lib.bytesWorld w 5 t):=Any.strconv_Atoi_ok Tryz.laysC172 s hmax v h w
open Go.RowKit in
theorem Tryz.strconv_Atoi_syntax(s:ByteArray)(hlim:s.size<=281474976710656)(h:Lib.atoiAll s.data.toList=Go.Lib.NumEnd.syntax)(ev:Value)(w:World)(hv:w.cell? ⟨9,0,none⟩=some ev)(hev:ev= .nilIface∨ ∃te pe,ev= .iface te pe):
  Calls Tryz.prog 318 #[.string s] w fun e w'=> ∃N,e= .returned (.tuple #[.int .i64 (0),.iface 398 (.pointer (some ⟨N,0,none⟩))])/\w.heap.size<=N/\w'.heap[N]? =some (.cells #[.string ⟨#[65,116,111,105]⟩,.string s,ev] 405 (0,0))/\Below w.heap.size w w':=Any.strconv_Atoi_syntax Tryz.laysC172 s hlim h ev w hv hev
open Go.RowKit in
theorem Tryz.strconv_Atoi_range(s:ByteArray)(hlim:s.size<=281474976710656)(h:Lib.atoiAll s.data.toList= .range)(ev:Value)(w:World)(hv:w.cell? ⟨10,0,none⟩=some ev)(hev:ev= .nilIface∨ ∃te pe,ev= .iface te pe):
  Calls Tryz.prog 318 #[.string s] w fun e w'=> ∃N,e= .returned (.tuple #[.int .i64 (Lib.atoiSat s.data.toList),.iface 398 (.pointer (some ⟨N,0,none⟩))])/\w.heap.size<=N/\w'.heap[N]? =some (.cells #[.string ⟨#[65,116,111,105]⟩,.string s,ev] 405 (0,0))/\Below w.heap.size w w':=Any.strconv_Atoi_range Tryz.laysC172 s hlim h ev w hv hev
def Tryz.lays144_ren:Go.Shelf.Ren:=⟨fun|144=>251|143=>282|219=>298|217=>312|225=>313|224=>314|267=>315|266=>321|314=>322|n=>n,fun|9=>9|4=>4|3=>3|5=>5|46=>273|146=>386|51=>326|n=>n,fun|1=>6|n=>n⟩
theorem Tryz.lays144:Go.Proofs.Lays.n144 Tryz.prog Tryz.lays144_ren:={
 mixed:=by kernel_rfl
 f143:=Tryz.func282.trans (congrArg some (by kernel_rfl))
 f144:=Tryz.func251.trans (congrArg some (by kernel_rfl))
 f217:=Tryz.func312.trans (congrArg some (by kernel_rfl))
 f219:=Tryz.func298.trans (congrArg some (by kernel_rfl))
 f224:=Tryz.func314.trans (congrArg some (by kernel_rfl))
 f225:=Tryz.func313.trans (congrArg some (by kernel_rfl))
 f266:=Tryz.func321.trans (congrArg some (by kernel_rfl))
 f267:=Tryz.func315.trans (congrArg some (by kernel_rfl))
 f314:=Tryz.func322.trans (congrArg some (by kernel_rfl))
 t3:=Tryz.underlying3
 a3:=Tryz.isAgg3
 z3:=Tryz.sizeOf3
 v3:=Tryz.zeroValue3
 t4:=Tryz.underlying4
 a4:=Tryz.isAgg4
 z4:=Tryz.sizeOf4
 v4:=Tryz.zeroValue4
 t5:=Tryz.underlying5
 a5:=Tryz.isAgg5
 z5:=Tryz.sizeOf5
 v5:=Tryz.zeroValue5
 t9:=Tryz.underlying9
 a9:=Tryz.isAgg9
 z9:=Tryz.sizeOf9
 v9:=Tryz.zeroValue9
 t46:=Tryz.underlying273
 a46:=Tryz.isAgg273
 z46:=Tryz.sizeOf273
 v46:=Tryz.zeroValue273
 t51:=Tryz.underlying326
 a51:=Tryz.isAgg326
 z51:=Tryz.sizeOf326
 v51:=Tryz.zeroValue326
 t146:=Tryz.underlying386
 a146:=Tryz.isAgg386
 z146:=Tryz.sizeOf386
 v146:=Tryz.zeroValue386
 g1:=by kernel_rfl}
open Go.RowKit Go.Lib in
theorem Tryz.strings_Contains(s sub:ByteArray)(m:Int)(w:World)(hs:s.size<4294967281)(hm:w.cell? ⟨6,0,none⟩=some (.int .i64 m)):
  Calls Tryz.prog 251 #[.string s,.string sub] w fun e w'=>e= .returned (.bool (Lib.contains s.data.toList sub.data.toList))/\w'=w:=Any.strings_Contains Tryz.lays144 s sub m w hs hm
def Tryz.lays190_ren:Go.Shelf.Ren:=⟨fun|190=>137|125=>180|258=>179|128=>237|129=>238|302=>228|303=>229|304=>230|305=>231|306=>232|307=>233|308=>234|309=>235|310=>236|333=>270|329=>271|330=>272|334=>273|335=>274|336=>275|344=>297|n=>n,fun|31=>70|9=>9|3=>3|46=>273|0=>0|51=>326|53=>221|4=>4|183=>319|182=>318|131=>112|5=>5|218=>356|222=>353|228=>371|229=>341|n=>n,fun|n=>n⟩
theorem Tryz.lays190:Go.Proofs.Lays.n190 Tryz.prog Tryz.lays190_ren:={
 mixed:=by kernel_rfl
 f125:=Tryz.func180.trans (congrArg some (by kernel_rfl))
 f128:=Tryz.func237.trans (congrArg some (by kernel_rfl))
 f129:=Tryz.func238.trans (congrArg some (by kernel_rfl))
 f190:=Tryz.func137.trans (congrArg some (by kernel_rfl))
 f258:=Tryz.func179.trans (congrArg some (by kernel_rfl))
 f302:=Tryz.func228.trans (congrArg some (by kernel_rfl))
 f303:=Tryz.func229.trans (congrArg some (by kernel_rfl))
 f304:=Tryz.func230.trans (congrArg some (by kernel_rfl))
 f305:=Tryz.func231.trans (congrArg some (by kernel_rfl))
 f306:=Tryz.func232.trans (congrArg some (by kernel_rfl))
 f307:=Tryz.func233.trans (congrArg some (by kernel_rfl))
 f308:=Tryz.func234.trans (congrArg some (by kernel_rfl))
 f309:=Tryz.func235.trans (congrArg some (by kernel_rfl))
 f310:=Tryz.func236.trans (congrArg some (by kernel_rfl))
 f329:=Tryz.func271.trans (congrArg some (by kernel_rfl))
 f330:=Tryz.func272.trans (congrArg some (by kernel_rfl))
 f333:=Tryz.func270.trans (congrArg some (by kernel_rfl))
 f334:=Tryz.func273.trans (congrArg some (by kernel_rfl))
 f335:=Tryz.func274.trans (congrArg some (by kernel_rfl))
 f336:=Tryz.func275.trans (congrArg some (by kernel_rfl))
 f344:=Tryz.func297.trans (congrArg some (by kernel_rfl))
 t0:=Tryz.underlying0
 a0:=Tryz.isAgg0
 z0:=Tryz.sizeOf0
 v0:=Tryz.zeroValue0
 t3:=Tryz.underlying3
 a3:=Tryz.isAgg3
 z3:=Tryz.sizeOf3
 v3:=Tryz.zeroValue3
 t4:=Tryz.underlying4
 a4:=Tryz.isAgg4
 z4:=Tryz.sizeOf4
 v4:=Tryz.zeroValue4
 t5:=Tryz.underlying5
 a5:=Tryz.isAgg5
 z5:=Tryz.sizeOf5
 v5:=Tryz.zeroValue5
 t9:=Tryz.underlying9
 a9:=Tryz.isAgg9
 z9:=Tryz.sizeOf9
 v9:=Tryz.zeroValue9
 t31:=Tryz.underlying70
 a31:=Tryz.isAgg70
 z31:=Tryz.sizeOf70
 v31:=Tryz.zeroValue70
 t46:=Tryz.underlying273
 a46:=Tryz.isAgg273
 z46:=Tryz.sizeOf273
 v46:=Tryz.zeroValue273
 t51:=Tryz.underlying326
 a51:=Tryz.isAgg326
 z51:=Tryz.sizeOf326
 v51:=Tryz.zeroValue326
 t53:=Tryz.underlying221
 a53:=Tryz.isAgg221
 z53:=Tryz.sizeOf221
 v53:=Tryz.zeroValue221
 t131:=Tryz.underlying112
 a131:=Tryz.isAgg112
 z131:=Tryz.sizeOf112
 v131:=Tryz.zeroValue112
 t182:=Tryz.underlying318
 a182:=Tryz.isAgg318
 z182:=Tryz.sizeOf318
 v182:=Tryz.zeroValue318
 t183:=Tryz.underlying319
 a183:=Tryz.isAgg319
 z183:=Tryz.sizeOf319
 v183:=Tryz.zeroValue319
 t218:=Tryz.underlying356
 a218:=Tryz.isAgg356
 z218:=Tryz.sizeOf356
 v218:=Tryz.zeroValue356
 t222:=Tryz.underlying353
 a222:=Tryz.isAgg353
 z222:=Tryz.sizeOf353
 v222:=Tryz.zeroValue353
 t228:=Tryz.underlying371
 a228:=Tryz.isAgg371
 z228:=Tryz.sizeOf371
 v228:=Tryz.zeroValue371
 t229:=Tryz.underlying341
 a229:=Tryz.isAgg341
 z229:=Tryz.sizeOf341
 v229:=Tryz.zeroValue341}
open Go.Sort Go.RowKit in
theorem Tryz.slices_Sort_string(blk off cap:Nat)(ss:List (List UInt8))(w:World)(hH:Holds encStr w blk off ss.toArray)(hblk:blk<w.heap.size)(hsz:ss.length<4611686018427387904):
  Calls Tryz.prog 137 #[.slice (some ⟨blk,off,none⟩) ss.length cap] w fun e w'=>
   e= .returned (.tuple #[])/\ ∃n os,w'=grow (putRow encStr (Sort.ahead w n) blk off (ss.mergeSort fun x y=>decide (x<=y)).toArray) os:=Any.slices_Sort_string Tryz.lays190 blk off cap ss w hH hblk hsz
def Tryz.lays146_ren:Go.Shelf.Ren:=⟨fun|146=>302|221=>316|268=>323|138=>324|143=>282|195=>328|197=>329|218=>330|219=>298|260=>336|217=>312|225=>313|224=>314|267=>315|266=>321|314=>322|n=>n,fun|9=>9|31=>70|3=>3|4=>4|0=>0|105=>393|21=>21|5=>5|46=>273|119=>348|139=>351|138=>350|146=>386|51=>326|n=>n,fun|1=>6|3=>3|4=>4|n=>n⟩
theorem Tryz.lays146:Go.Proofs.Lays.n146 Tryz.prog Tryz.lays146_ren:={
 mixed:=by kernel_rfl
 f138:=Tryz.func324.trans (congrArg some (by kernel_rfl))
 f143:=Tryz.func282.trans (congrArg some (by kernel_rfl))
 f146:=Tryz.func302.trans (congrArg some (by kernel_rfl))
 f195:=Tryz.func328.trans (congrArg some (by kernel_rfl))
 f197:=Tryz.func329.trans (congrArg some (by kernel_rfl))
 f217:=Tryz.func312.trans (congrArg some (by kernel_rfl))
 f218:=Tryz.func330.trans (congrArg some (by kernel_rfl))
 f219:=Tryz.func298.trans (congrArg some (by kernel_rfl))
 f221:=Tryz.func316.trans (congrArg some (by kernel_rfl))
 f224:=Tryz.func314.trans (congrArg some (by kernel_rfl))
 f225:=Tryz.func313.trans (congrArg some (by kernel_rfl))
 f260:=Tryz.func336.trans (congrArg some (by kernel_rfl))
 f266:=Tryz.func321.trans (congrArg some (by kernel_rfl))
 f267:=Tryz.func315.trans (congrArg some (by kernel_rfl))
 f268:=Tryz.func323.trans (congrArg some (by kernel_rfl))
 f314:=Tryz.func322.trans (congrArg some (by kernel_rfl))
 t0:=Tryz.underlying0
 a0:=Tryz.isAgg0
 z0:=Tryz.sizeOf0
 v0:=Tryz.zeroValue0
 t3:=Tryz.underlying3
 a3:=Tryz.isAgg3
 z3:=Tryz.sizeOf3
 v3:=Tryz.zeroValue3
 t4:=Tryz.underlying4
 a4:=Tryz.isAgg4
 z4:=Tryz.sizeOf4
 v4:=Tryz.zeroValue4
 t5:=Tryz.underlying5
 a5:=Tryz.isAgg5
 z5:=Tryz.sizeOf5
 v5:=Tryz.zeroValue5
 t9:=Tryz.underlying9
 a9:=Tryz.isAgg9
 z9:=Tryz.sizeOf9
 v9:=Tryz.zeroValue9
 t21:=Tryz.underlying21
 a21:=Tryz.isAgg21
 z21:=Tryz.sizeOf21
 v21:=Tryz.zeroValue21
 t31:=Tryz.underlying70
 a31:=Tryz.isAgg70
 z31:=Tryz.sizeOf70
 v31:=Tryz.zeroValue70
 t46:=Tryz.underlying273
 a46:=Tryz.isAgg273
 z46:=Tryz.sizeOf273
 v46:=Tryz.zeroValue273
 t51:=Tryz.underlying326
 a51:=Tryz.isAgg326
 z51:=Tryz.sizeOf326
 v51:=Tryz.zeroValue326
 t105:=Tryz.underlying393
 a105:=Tryz.isAgg393
 z105:=Tryz.sizeOf393
 v105:=Tryz.zeroValue393
 t119:=Tryz.underlying348
 a119:=Tryz.isAgg348
 z119:=Tryz.sizeOf348
 t138:=Tryz.underlying350
 a138:=Tryz.isAgg350
 z138:=Tryz.sizeOf350
 v138:=Tryz.zeroValue350
 t139:=Tryz.underlying351
 a139:=Tryz.isAgg351
 z139:=Tryz.sizeOf351
 v139:=Tryz.zeroValue351
 t146:=Tryz.underlying386
 a146:=Tryz.isAgg386
 z146:=Tryz.sizeOf386
 v146:=Tryz.zeroValue386
 g1:=by kernel_rfl
 g3:=by kernel_rfl
 g4:=by kernel_rfl}
open Go.RowKit Go.Lib in
theorem Tryz.strings_Split(s sep:ByteArray)(m:Int)(w:World)(hs:s.size<4294967281)(hm:w.cell? ⟨6,0,none⟩=some (.int .i64 m))(h1:1<=sep.size):
  Calls Tryz.prog 302 #[.string s,.string sep] w fun e w'=>
   e= .returned (.slice (some ⟨w.heap.size,0,none⟩) (Lib.countB s sep+1) (Lib.countB s sep+1))/\w'=w.alloc (.cells ((Lib.splitB sep 0 (Lib.countB s sep) s).map Value.string).toArray 9):=Any.strings_Split Tryz.lays146 (by kernel_rfl) s sep m w hs hm h1
def Tryz.lays194_ren:Go.Shelf.Ren:=⟨fun|194=>220|n=>n,fun|31=>70|9=>9|3=>3|4=>4|0=>0|n=>n,fun|n=>n⟩
theorem Tryz.lays194:Go.Proofs.Lays.n194 Tryz.prog Tryz.lays194_ren:={
 mixed:=by kernel_rfl
 f194:=Tryz.func220.trans (congrArg some (by kernel_rfl))
 t0:=Tryz.underlying0
 a0:=Tryz.isAgg0
 z0:=Tryz.sizeOf0
 v0:=Tryz.zeroValue0
 t3:=Tryz.underlying3
 a3:=Tryz.isAgg3
 z3:=Tryz.sizeOf3
 v3:=Tryz.zeroValue3
 t4:=Tryz.underlying4
 a4:=Tryz.isAgg4
 z4:=Tryz.sizeOf4
 v4:=Tryz.zeroValue4
 t9:=Tryz.underlying9
 a9:=Tryz.isAgg9
 z9:=Tryz.sizeOf9
 v9:=Tryz.zeroValue9
 t31:=Tryz.underlying70
 a31:=Tryz.isAgg70
 z31:=Tryz.sizeOf70
 v31:=Tryz.zeroValue70}
open Go.RowKit Go.Lib Go.Sort in
theorem Tryz.slices_Compact_string(blk off cap:Nat)(zs:List (List UInt8))(w:World)(hH:Holds encStr w blk off zs.toArray)(hsz:zs.length<=9223372036854775807)(hcap:zs.length<=cap):
  Calls Tryz.prog 220 #[.slice (some ⟨blk,off,none⟩) zs.length cap] w fun e w'=>e= .returned (.slice (some ⟨blk,off,none⟩) (Lib.compact zs).length cap)/\ ∃q,w'=putRow encStr (Sort.ahead w q) blk off (Lib.compact zs++List.replicate (zs.length - (Lib.compact zs).length) []).toArray:=Any.slices_Compact_string Tryz.lays194 blk off cap zs w hH hsz hcap
open Go.RowKit Go.Lib Go.Sort in
theorem Tryz.slices_Compact_string_empty(a:Option Addr)(cap:Nat)(w:World):
  Calls Tryz.prog 220 #[.slice a 0 cap] w fun e w'=>e= .returned (.slice a 0 cap)/\w'=w:=Any.slices_Compact_string_empty Tryz.lays194 a cap w
def Tryz.laysNm224_ren:Go.Shelf.Ren:=⟨fun|24=>227|n=>n,fun|24=>70|9=>9|3=>3|4=>4|0=>0|n=>n,fun|n=>n⟩
theorem Tryz.laysNm224:Go.Proofs.Lays2.n24 Tryz.prog Tryz.laysNm224_ren:={
 mixed:=by kernel_rfl
 f24:=Tryz.func227.trans (congrArg some (by kernel_rfl))
 t0:=Tryz.underlying0
 a0:=Tryz.isAgg0
 z0:=Tryz.sizeOf0
 v0:=Tryz.zeroValue0
 t3:=Tryz.underlying3
 a3:=Tryz.isAgg3
 z3:=Tryz.sizeOf3
 v3:=Tryz.zeroValue3
 t4:=Tryz.underlying4
 a4:=Tryz.isAgg4
 z4:=Tryz.sizeOf4
 v4:=Tryz.zeroValue4
 t9:=Tryz.underlying9
 a9:=Tryz.isAgg9
 z9:=Tryz.sizeOf9
 v9:=Tryz.zeroValue9
 t24:=Tryz.underlying70
 a24:=Tryz.isAgg70
 z24:=Tryz.sizeOf70
 v24:=Tryz.zeroValue70
 i9:=by kernel_rfl}
open Go.RowKit Go.Lib Go.Sort in
theorem Tryz.slices_Delete_string(blk off cap i j:Nat)(zs:List (List UInt8))(w:World)(hH:Holds encStr w blk off zs.toArray)(hcap:zs.length<=cap)(hm:cap<=9223372036854775807)(hij:i<=j)(hj:j<=zs.length):
  Calls Tryz.prog 227 #[.slice (some ⟨blk,off,none⟩) zs.length cap,.int .i64 i,.int .i64 j] w fun e w'=>e= .returned (.slice (some ⟨blk,off,none⟩) (zs.length - (j - i)) cap)/\ ∃q,w'=putRow encStr (Sort.ahead w q) blk off (zs.take i++zs.drop j++List.replicate (j - i) []).toArray:=Any.slices_Delete_string Tryz.laysNm224 blk off cap i j zs w hH hcap hm hij hj
open Go.RowKit Go.Sort in
theorem Tryz.slices_Sort_string_none(p:Option Addr)(cap:Nat)(w:World):
  Calls Tryz.prog 137 #[.slice p 0 cap] w fun e w'=>e= .returned (.tuple #[])/\w'=w:=Any.slices_Sort_string_none Tryz.lays190 p cap w
def Tryz.lays196_ren:Go.Shelf.Ren:=⟨fun|196=>206|259=>263|n=>n,fun|9=>9|4=>4|3=>3|5=>5|12=>12|119=>348|0=>0|46=>273|139=>351|138=>350|53=>221|n=>n,fun|3=>3|4=>4|n=>n⟩
theorem Tryz.lays196:Go.Proofs.Lays.n196 Tryz.prog Tryz.lays196_ren:={
 mixed:=by kernel_rfl
 f196:=Tryz.func206.trans (congrArg some (by kernel_rfl))
 f259:=Tryz.func263.trans (congrArg some (by kernel_rfl))
 t0:=Tryz.underlying0
 a0:=Tryz.isAgg0
 z0:=Tryz.sizeOf0
 v0:=Tryz.zeroValue0
 t3:=Tryz.underlying3
 a3:=Tryz.isAgg3
 z3:=Tryz.sizeOf3
 v3:=Tryz.zeroValue3
 t4:=Tryz.underlying4
 a4:=Tryz.isAgg4
 z4:=Tryz.sizeOf4
 v4:=Tryz.zeroValue4
 t5:=Tryz.underlying5
 a5:=Tryz.isAgg5
 z5:=Tryz.sizeOf5
 v5:=Tryz.zeroValue5
 t9:=Tryz.underlying9
 a9:=Tryz.isAgg9
 z9:=Tryz.sizeOf9
 v9:=Tryz.zeroValue9
 t12:=Tryz.underlying12
 a12:=Tryz.isAgg12
 z12:=Tryz.sizeOf12
 v12:=Tryz.zeroValue12
 t46:=Tryz.underlying273
 a46:=Tryz.isAgg273
 z46:=Tryz.sizeOf273
 v46:=Tryz.zeroValue273
 t53:=Tryz.underlying221
 a53:=Tryz.isAgg221
 z53:=Tryz.sizeOf221
 v53:=Tryz.zeroValue221
 t119:=Tryz.underlying348
 a119:=Tryz.isAgg348
 z119:=Tryz.sizeOf348
 t138:=Tryz.underlying350
 a138:=Tryz.isAgg350
 z138:=Tryz.sizeOf350
 v138:=Tryz.zeroValue350
 t139:=Tryz.underlying351
 a139:=Tryz.isAgg351
 z139:=Tryz.sizeOf351
 v139:=Tryz.zeroValue351
 g3:=by kernel_rfl
 g4:=by kernel_rfl}
def Tryz.sorted221_ren:Go.Shelf.Ren:=⟨fun|6=>221|8=>268|9=>137|11=>296|13=>180|12=>179|23=>237|24=>238|14=>228|15=>229|16=>230|17=>231|18=>232|19=>233|20=>234|21=>235|22=>236|25=>270|26=>271|27=>272|28=>273|29=>274|30=>275|31=>297|n=>n,fun|26=>9|28=>311|24=>70|0=>0|3=>3|37=>273|48=>326|50=>221|4=>4|40=>319|39=>318|45=>112|5=>5|9=>9|51=>356|55=>353|57=>371|58=>341|33=>264|n=>n,fun|n=>n⟩
theorem Tryz.sorted221:Go.Proofs.SlLaysZ.n6 Tryz.prog Tryz.sorted221_ren:={
 mixed:=by kernel_rfl
 f6:=⟨Tryz.f221.name,by decide,Tryz.func221.trans (congrArg some (by kernel_rfl))⟩
 f8:=⟨Tryz.f268.name,by decide,Tryz.func268.trans (congrArg some (by kernel_rfl))⟩
 f11:=⟨Tryz.f296.name,by decide,Tryz.func296.trans (congrArg some (by kernel_rfl))⟩
 t0:=Tryz.underlying0
 a0:=Tryz.isAgg0
 z0:=Tryz.sizeOf0
 v0:=Tryz.zeroValue0
 t24:=Tryz.underlying70
 a24:=Tryz.isAgg70
 z24:=Tryz.sizeOf70
 v24:=Tryz.zeroValue70
 t26:=Tryz.underlying9
 a26:=Tryz.isAgg9
 z26:=Tryz.sizeOf9
 v26:=Tryz.zeroValue9
 t28:=Tryz.underlying311
 a28:=Tryz.isAgg311
 z28:=Tryz.sizeOf311
 v28:=Tryz.zeroValue311
 i26:=by kernel_rfl}
end Go.Proofs
end
noncomputable section
set_option maxRecDepth 100000
namespace Go.Fl
open Go Go.Proofs Go.RowKit Go.Maps Go.Sort Go.Shelf
variable {P:Program}{ρ:Ren}
def v7k(F:Fence)(n:Nat)(P:Program)(g:Nat)(lb:Array Value)(ss:List (List UInt8))(w:World):Prop:=
 ∀(l:Nat) (J:List (List UInt8)->World->Prop) (W:World),Below w.heap.size w W->AbidesFrom W.heap.size J->(∀pre W1,J pre W1->Below w.heap.size w W1)->
  (∀pre x W1,J pre W1->pre.length<ss.length->YieldAt F (n - 1) P l #[encStr x] W1 fun e W'=>e= .returned (.bool true)/\J (pre++[x]) W'/\KeepsWalks W1 W')->
  J [] W->CallsIn F n P g (#[.func (.yield l) #[] #[]]++lb) W fun e W'=>(∃v,e= .returned v)/\J ss W'
theorem w1y{W:World}{base j:Nat}{e:TypeId}{v:Value}{k:Nat}{xs:List Value}{o:Obj}(h:W.ownsRow base e 1 v k xs)(hj:W.heap[j]? =some o)(hno: ∀cur,o≠ .cells cur e (0,0))(o':Obj):(W.putObj j o').ownsRow base e 1 v k xs:=
 h.kept (grownBy_putObj_a W j o') (ownsRow_ne_a h hj hno)
set_option maxHeartbeats 2000000 in
theorem j79(L:SlLaysZ.n11 P ρ)(F:Fence)(n:Nat)(hf:F.fn (ρ.f 11))(hro:F.round=none)(hn:2<=n)(g:Nat)(lb:Array Value)(hg:F.fn g)(eg: ∀args w,(callFunc g args).run P w= .ok (.enter g args) w)
  (ss:List (List UInt8))(hN:ss.length<=maxLen)(hNb:ss.length*16<=140737488355328)(w:World)(hseq:v7k F (n - 1) P g lb ss w):
  CallsIn F n P (ρ.f 11) #[.slice none 0 0,.func (.func g) #[] lb] w fun e w'=> ∃v,e= .returned v/\w'.ownsRow w.heap.size (ρ.t 26) 1 v ss.length (ss.map encStr)/\Below w.heap.size w w':=by
 have mixed:=L.mixed;have t0:=L.t0;have a0:=L.a0;have z0:=L.z0;have v0:=L.v0;have t24:=L.t24;have a24:=L.a24;have z24:=L.z24;have v24:=L.v24;have t26:=L.t26;have a26:=L.a26;have z26:=L.z26;have v26:=L.v26
 have u0:=run_underlying L.t0;have u24:=run_underlying L.t24;have u26:=run_underlying L.t26
 have apart:ρ.t 24≠ρ.t 26:=fun e=>by have h:=L.t24;rw[e,L.t26] at h;cases h
 obtain⟨_,_,body⟩:=L.f11
 refine callsIn_of_wp_marks body rfl hf ?_ hro
 simp only[SlBodyZ.n11_ntmps ρ,List.size_toArray,List.length_cons,List.length_nil,Nat.reduceAdd,Nat.reduceSub,Array.replicate_succ,Array.replicate_zero,List.push_toArray,List.append_toArray,List.nil_append,List.cons_append]
 gi_wp2
 refine wpIn_rangeFunc fun fn hfn=> ?_
 rw[hro]
 generalize hA:w.alloc (.cells #[.slice none 0 0] (ρ.t 24))=A
 have sA:A.heap.size=w.heap.size+1:=by rw[←hA];simp
 have bA:Below w.heap.size w A:=by rw[←hA];exact (Below.refl _ w).alloc (Nat.le_refl _) _
 have xA:A.heap[w.heap.size]? =some (.cells #[.slice none 0 0] (ρ.t 24) (0,0)):=by rw[←hA];exact World.alloc_heap_new w _
 generalize hrec:AnyZ.apRec ρ fn (.func (.func g) #[] lb) w.heap.size A.heap.size .ready none=rec
 generalize hB:(A.alloc (.deferred (some []))).alloc (.loop rec)=B
 have oldB: ∀k,k<A.heap.size->B.heap[k]? =A.heap[k]? :=fun k hk=>by rw[←hB];exact (Below.heap_alloc _ _ k (by simp;omega)).trans (Below.heap_alloc _ _ k hk)
 have bB:Below w.heap.size w B:=by rw[←hB];exact (bA.alloc bA.size _).alloc (by have:=bA.size;simp;omega) _
 have dB:B.heap[A.heap.size]? =some (.deferred (some [])):=by rw[←hB];exact (Below.heap_alloc _ _ _ (by simp)).trans (World.alloc_heap_new A _)
 have lB:B.heap[A.heap.size+1]? =some (.loop rec):=by rw[←hB];have:=World.alloc_heap_new (A.alloc (.deferred (some []))) (.loop rec);rwa [World.size_alloc] at this
 have start:AnyZ.ApAt ρ w fn (.func (.func g) #[] lb) w.heap.size (A.heap.size+1) A.heap.size [] B:=
  ⟨⟨_,(oldB _ (by omega)).trans xA,⟨rfl,.inl ⟨rfl,rfl⟩⟩,by simp⟩,by rw[hrec];exact lB,dB,bB⟩
 refine⟨A.heap.size+1,[{target:= .collected A.heap.size,args:= #[]}],B,{target:= .fn (.func g) lb,args:= #[.func (.yield (A.heap.size+1)) #[] #[]]},B,g,#[.func (.yield (A.heap.size+1)) #[] #[]]++lb,B,?_,?_,?_,?_,fun _=>(by omega),?_⟩
 ·rw[←hB,←hrec];exact run_enterLoop_outer _ _ _ _ _
 ·simp[resolve,go_sem]
 ·intro f' h';simp[Target.leads] at h';exact h'▸hg
 ·simp[invoke,go_sem,eg]
 refine (hseq _ (AnyZ.ApAt ρ w fn (.func (.func g) #[] lb) w.heap.size (A.heap.size+1) A.heap.size) B bB (AnyZ.ap_abides ρ _ _ _ _ _ _ _ bB.size) (fun _ _ h=>h.below)
  (fun pre x W h hl=>AnyZ.apYield {L with} F _ w fn hfn _ _ _ _ (by omega) (by omega) (by omega) (Nat.le_refl _) (by omega) ss.length hN hNb pre x W h hl) start).mono ?_
 rintro e C ⟨⟨_,rfl⟩,hC⟩
 obtain⟨v,hv,hrow,_⟩:=hC.box
 have hend:=run_endLoop (P:=P) hC.L (by simp[AnyZ.apRec])
 generalize hD:C.putObj (A.heap.size+1) (.loop {AnyZ.apRec ρ fn (.func (.func g) #[] lb) w.heap.size A.heap.size .ready none with state:= .exhausted})=D at hend
 have rowD:D.ownsRow w.heap.size (ρ.t 26) 1 v ss.length (ss.map encStr):=by rw[←hD];exact w1y hrow hC.L (fun _ h=>by cases h) _
 have boxD:D.heap[w.heap.size]? =some (.cells #[v] (ρ.t 24) (0,0)):=by rw[←hD];exact (World.putObj_heap_other (by omega)).trans hv
 have defD:D.heap[A.heap.size]? =some (.deferred (some [])):=by rw[←hD];exact (World.putObj_heap_other (by omega)).trans hC.K
 have belD:Below w.heap.size w D:=by rw[←hD];exact hC.below.grown (grownBy_putObj_a _ _ _) hC.below.size (fun k h=>by cases h;omega)
 obtain⟨cellD,markD⟩:=cell_of_box_a boxD
 clear hD
 refine⟨none,D,hend,?_⟩
 gi_wp2
 rw[←sA]
 refine⟨by simp,.inl ⟨_,_,rfl,run_takeDeferred defD,?_⟩⟩
 exact⟨_,results_tmp rfl _ _ _,v,rfl,w1y rowD defD (fun _ h=>by cases h) _,belD.grown (grownBy_putObj_a _ _ _) belD.size (fun k h=>by cases h;omega)⟩
end Go.Fl
end
noncomputable section
set_option maxRecDepth 100000
namespace Go.Proofs.YtkbjibhkaddepaaGreatDoor
open Go Go.Proofs Go.RowKit Go.Fl Go.Maps Go.Sort Go.Shelf
attribute [local go_sem] Oper.semAt_some
set_option maxHeartbeats 2000000 in
theorem w9c(n:Nat)(hn:1<=n)(w W:World)(l Bs b off cap:Nat)(zs:List (List UInt8))(hreach:zs.length<=140737488355328)(hBs:Bs<w.heap.size)(hb:b<w.heap.size)(J:List (List UInt8)->World->Prop)
  (hJ: ∀pre W1,J pre W1->Below w.heap.size w W1)(hc:w.cell? ⟨Bs,0,none⟩=some (.slice (some ⟨b,off,none⟩) zs.length cap))(hcs: ∀j,j<zs.length->w.cell? ⟨b,off+j,none⟩=some (encStr (zs[j]?.getD [])))
  (hY: ∀pre x W1,J pre W1->pre.length<zs.length->YieldAt Fence.wide (n - 1) Tryz.prog l #[encStr x] W1 fun e W'=>e= .returned (.bool true)/\J (pre++[x]) W'/\KeepsWalks W1 W')(h0:J [] W):
  CallsIn Fence.wide n Tryz.prog 269 #[.func (.yield l) #[] #[],.pointer (some ⟨Bs,0,none⟩)] W fun e W'=>(∃v,e= .returned v)/\J zs W':=by
 have hc0:=((hJ _ _ h0).cell (p:=⟨Bs,0,none⟩) hBs).trans hc
 refine callsIn_of_wp Tryz.func269 rfl trivial ?_ rfl
 simp only[Tryz.ntmps269,List.size_toArray,List.length_cons,List.length_nil,Nat.reduceAdd,Nat.reduceSub,Array.replicate_succ,Array.replicate_zero,List.push_toArray,List.append_toArray,List.nil_append,List.cons_append]
 gi_wp2
 gi_loopw [7] (fun i wr=> ∃k:Nat,k<=zs.length/\i= .int .i64 k/\J (zs.take k) wr) (fun i _=>zs.length - (intOf i).toNat)
 case atStart=>exact⟨0,Nat.zero_le _,rfl,h0⟩
 case round=>
  obtain⟨k,hk,rfl,hJk⟩:=hrel
  by_cases hlt:k<zs.length
  ·have hck:=((hJ _ _ hJk).cell (p:=⟨b,off+k,none⟩) hb).trans (hcs k hlt)
   obtain⟨fn,tmps,assign,body,hy,hR⟩:=hY _ zs[k] wr hJk (by rw[List.length_take];omega)
   gi_wp2
   refine hR.mono ?_
   rintro e W3 ⟨rfl,hJ3,_⟩
   gi_wp2
   go_roundw
   case rel=>exact⟨k+1,by omega,by simp,by rw[List.take_succ_eq_append_getElem hlt];exact hJ3⟩
   case measure=>simp[intOf];omega
  ·obtain rfl:k=zs.length:=by omega
   rw[List.take_length] at hJk
   gi_wp2
   go_end0
   exact⟨⟨_,rfl⟩,hJk⟩
set_option maxHeartbeats 2000000 in
theorem w9d(n:Nat)(w W:World)(l Bs cap:Nat)(a:Option Addr)(hBs:Bs<w.heap.size)(J:List (List UInt8)->World->Prop)(hJ: ∀pre W1,J pre W1->Below w.heap.size w W1)(hc:w.cell? ⟨Bs,0,none⟩=some (.slice a 0 cap))(h0:J [] W):
  CallsIn Fence.wide n Tryz.prog 269 #[.func (.yield l) #[] #[],.pointer (some ⟨Bs,0,none⟩)] W fun e W'=>(∃v,e= .returned v)/\J [] W':=by
 have hc0:=((hJ _ _ h0).cell (p:=⟨Bs,0,none⟩) hBs).trans hc
 refine callsIn_of_wp Tryz.func269 rfl trivial ?_ rfl
 simp only[Tryz.ntmps269,List.size_toArray,List.length_cons,List.length_nil,Nat.reduceAdd,Nat.reduceSub,Array.replicate_succ,Array.replicate_zero,List.push_toArray,List.append_toArray,List.nil_append,List.cons_append]
 gi_wp2
 gi_loopw [7] (fun i wr=>i= .int .i64 0/\J [] wr) (fun _ _=>0)
 case atStart=>exact⟨rfl,h0⟩
 case round=>
  obtain⟨rfl,hJs⟩:=hrel
  gi_wp2
  go_end0
  exact⟨⟨_,rfl⟩,hJs⟩
theorem u0o{σ:Hv}{w:World}(Bs:Nat)(v:Value)(l:List ByteArray)(hV:View σ w)(hB:σ Bs=some (.cells #[v] 70 (0,0)))(hr:RSl 1 (REnc Qj) σ v l)(hs:Sml l.length):
  Calls Tryz.prog 296 #[.slice none 0 0,.func (.func 269) #[] #[.pointer (some ⟨Bs,0,none⟩)]] w fun e w1=> ∃v1,e= .returned v1/\Grow [] σ w σ w1/\((vec v1 9 1 l.length (l.flatMap Qj)).ok w1/\ ∀k,(vec v1 9 1 l.length (l.flatMap Qj)).foot=some k->w.heap.size<=k/\σ k=none):=by
 have hBw:=hV _ _ hB
 have hBl:=lt_of_block hBw
 have hBc:w.cell? ⟨Bs,0,none⟩=some v:=by simp[World.cell?,hBw]
 have hlen:(l.map (·.data.toList)).length=l.length:=List.length_map _
 have hgive:v7k Fence.wide 2 Tryz.prog 269 #[.pointer (some ⟨Bs,0,none⟩)] (l.map (·.data.toList)) w:=by
  intro lp J W _ _ hJB hY h0
  obtain⟨a,cap,rfl,h1,h2,hel⟩:=hr
  cases hl0:l with
  |nil=>
   subst hl0
   exact w9d 2 w W lp Bs cap a hBl J hJB hBc h0
  |cons x l'=>
   obtain⟨ad,cs,rfl,_,hrow0,hcs0⟩:=hel 0 x (by rw[hl0];rfl)
   have cell0:=(hrow0.row hV) 0 _ (by rw[hcs0];rfl)
   obtain⟨ab,ao,asp⟩:=ad
   have hsp:asp=none:=by
    cases asp with
    |none=>rfl
    |some s=>
     have:=hrow0 0 (.string x) (by rw[hcs0];rfl)
     simp[Hv.cell,Addr.add] at this
     split at this<;>simp at this
   subst hsp
   have hbl:ab<w.heap.size:=by
    have:=hrow0 0 (.string x) (by rw[hcs0];rfl)
    simp only[V7] at this
    unfold Hv.cell at this
    simp only at this
    cases hq:σ ab with
    |none=>rw[hq] at this;simp at this
    |some o=>exact lt_of_block (hV _ _ hq)
   rw[←hl0]
   have hcome:=w9c 2 (by omega) w W lp Bs ab ao cap (l.map (·.data.toList)) (by rw[hlen];exact h2) hBl hbl J hJB (by rw[hlen];exact hBc) (fun j hj=>by
    rw[hlen] at hj
    obtain⟨y,hy⟩:=getq hj
    obtain⟨ad',cs',had,_,hrow,hcs⟩:=hel j y hy
    cases had
    have hc:=(hrow.row hV) 0 (.string y) (by rw[hcs];rfl)
    rw[Br,V7] at hc
    rw[List.getElem?_map,hy]
    simpa [encStr] using hc) hY h0
   exact hcome
 refine (callsIn_wide (n:=3)).1 ((j79 (ρ:=Tryz.sorted221_ren) {Tryz.sorted221 with} Fence.wide 3 trivial rfl (by omega) 269 _ trivial (enters_of Tryz.func269 (by kernel_rfl) rfl) (l.map (·.data.toList)) (by rw[hlen];exact (q4t hs (show 16<=32768 by omega)).2) (by rw[hlen];exact (q4t hs (by omega)).1) w hgive).mono ?_)
 rintro e w1 ⟨v1,rfl,hown,hbel⟩
 rw[hlen] at hown
 have hfl:(l.map (·.data.toList)).map encStr=l.flatMap Qj:=(Re l).symm
 rw[hfl] at hown
 have hsame: ∀b,b<w.heap.size->w1.heap[b]? =w.heap[b]? :=fun b hb=>hbel.block b hb
 refine⟨v1,rfl,⟨⟨hbel.os,hbel.tape,hbel.output,hbel.size,fun k hk _=>hbel.block k hk⟩,fun b o hb=>(hbel.block b (lt_of_block (hV b o hb))).trans (hV b o hb),.refl _,fun _ _ _=>rfl⟩,?_,?_⟩
 ·exact⟨hown.1,hown.2.imp id fun ⟨g,cap,cur,e1,_,e3⟩=>⟨g,cap,cur,e1,Nat.zero_le _,e3⟩⟩
 ·intro k hk
  have hge:w.heap.size<=k:=(hown.lt k hk).1
  refine⟨hge,?_⟩
  cases hq:σ k with
  |none=>rfl
  |some o=>have:=lt_of_block (hV k o hq);omega
end Go.Proofs.YtkbjibhkaddepaaGreatDoor
end
