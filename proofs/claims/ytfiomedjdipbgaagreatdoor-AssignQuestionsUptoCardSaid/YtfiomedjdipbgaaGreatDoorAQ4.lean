/- Who is held out, which assignment is forced, and who is eligible; the arguments are of bounded bulk. This is part 4 of 7. Conditions: those in the statements. -/
import Derived.Test.YtfiomedjdipbgaaGreatDoorProg
import Derived.Test.YtfiomedjdipbgaaGreatDoorAQ3
import Derived.Lib.ValidU
import Derived.KernelRfl
import Derived.Conc.MuLone
import Derived.Shelf.Small.Bits
import Derived.Shelf.Utf8.RuneCount
import Derived.Shelf.Strconv.Atoi
import Derived.Shelf.Strconv.Itoa0
import Derived.Shelf.Strconv.Itoa1
import Derived.Shelf.LaysM
import Derived.Shelf.Strconv.Itoa2
import Derived.Shelf.Strconv.Itoa3
import Derived.Shelf.Strconv.AtoiErrFast
import Derived.Shelf.Strconv.ParseIntEmpty
import Derived.Shelf.Strconv.AtoiFail
import Derived.Shelf.Strconv.Clone
import Derived.Shelf.Strconv.SyntaxError
import Derived.Shelf.LaysC
import Derived.Shelf.Strconv.ToError
import Derived.Shelf.Strconv.Lower
import Derived.Shelf.Strconv.ParseUint10
import Derived.Shelf.Strconv.ParseUint10Empty
import Derived.Shelf.Strconv.ParseUint10Any
import Derived.Shelf.Strconv.ParseInt10
import Derived.Shelf.Strconv.AtoiLong
import Derived.Shelf.Strconv.AtoiInnerAll
import Derived.Shelf.Strconv.RangeError
import Derived.Shelf.Strconv.ToErrorRange
import Derived.Shelf.Strconv.AtoiAll
import Derived.Shelf.Strconv.ErrVarAll
import Derived.Shelf.Strings.Search1
import Derived.Shelf.Strings.Search2
import Derived.Shelf.Strings.Search3
import Derived.Shelf.Strings.Count
import Derived.Shelf.Strings.Shaped
import Derived.Shelf.Sort.Plain
import Derived.Shelf.Strings.Split
import Derived.Shelf.Strings.SplitShaped
import Derived.Shelf.Unicode.Decode
import Derived.Shelf.Strings.RuneCount
import Derived.Shelf.Strings.Explode
import Derived.Shelf.Unicode.DecodeSlow
import Derived.Shelf.Unicode.DecodeAny
import Derived.Ground.Names2Prog
import Derived.Shelf.Slices.Clone
import Derived.Shelf.Slices.CompactS
import Derived.Shelf.Slices.SearchI
import Derived.Shelf.Slices.Delete
import Derived.Shelf.Slices.Cells
import Derived.Shelf.Slices.In.SortNone
import Derived.Shelf.Slices.Empties
import Derived.Ground.SlgnProg
import Derived.Shelf.SlicesE.Clone
import Derived.Ground.NamesProg
import Derived.Shelf.Unicode.ValidAny
import Derived.Shelf.SlIter.Sorted
import Derived.Ground.GgzProg
import Derived.Shelf.SlIter.Collect
import Derived.WalkKit
import Derived.OwnWalkIn
import Derived.TacticsInMore
import Derived.LoopNIn
import Derived.LoopIn
import Derived.RangeFuncLeaves
noncomputable section
set_option maxRecDepth 100000
open Go Go.RowKit Go.Fl Go.Fl.Lk Go.Fx
namespace Go.En
abbrev W2:Type:=(List (Decl)->Prop)->Prop
def Jx:W2:=fun K=>K [Decl.mk (ByteArray.mk (Array.mk [100,101,118,105,99,101])) (ByteArray.mk (Array.mk [99,111,114,101,115])) (2:Int),Decl.mk (ByteArray.mk (Array.mk [100,101,118,105,99,101])) (ByteArray.mk (Array.mk [111,115])) (3:Int),Decl.mk (ByteArray.mk (Array.mk [117,115,101,114])) (ByteArray.mk (Array.mk [97,103,101])) (2:Int),Decl.mk (ByteArray.mk (Array.mk [117,115,101,114])) (ByteArray.mk (Array.mk [97,112,112])) (4:Int),Decl.mk (ByteArray.mk (Array.mk [117,115,101,114])) (ByteArray.mk (Array.mk [98,101,116,97])) (1:Int),Decl.mk (ByteArray.mk (Array.mk [117,115,101,114])) (ByteArray.mk (Array.mk [99,111,117,110,116,114,121])) (3:Int),Decl.mk (ByteArray.mk (Array.mk [117,115,101,114])) (ByteArray.mk (Array.mk [112,108,97,110])) (3:Int),Decl.mk (ByteArray.mk (Array.mk [117,115,101,114])) (ByteArray.mk (Array.mk [116,97,103,115])) (5:Int)]
abbrev j6q:Type:=List (Int)->Int->(Bool->Int->Prop)->Prop
def j6r:j6q:=fun list at_ K=>Fits list->K (decide (at_<(↑list.length:Int))) at_
abbrev Zg:Type:=List (Int)->Int->Int->(Int->Int->Prop)->Prop
def w3m(j64:j6q):Zg:=fun list at_ n K=>j64 list at_ fun Qa Q0=>Cnd (Qa=true) (InI (Q0+1)/\InI (Q0+1 - (1:Int))/\((0:Int)<=Q0+1 - (1:Int)/\Q0+1 - (1:Int)<(↑list.length:Int))/\ ∀y1,list[(Q0+1 - (1:Int)).toNat]? =some y1->InI y1/\n≠(0:Int)/\K (y1.tmod n) (Q0+1)) (K (0:Int) Q0)
def Zc:Zg:=w3m j6r
abbrev q1q:Type:=List (Int)->Int->(ByteArray->Int->Prop)->Prop
def w3n(Qb:Zg):q1q:=fun list at_ K=>Qb list at_ (11:Int) fun Qa Q0=>((0:Int)<=Qa/\Qa<(↑(11:Nat):Int))/\ ∀y1,j0v[Qa.toNat]? =some y1->K y1 Q0
def q1r:q1q:=w3n Zc
abbrev q6h:Type:=List (Int)->Int->Int->(Int->Int->Prop)->Prop
def w3o(Qb:Zg):q6h:=fun list at_ n K=>Qb list at_ (256:Int) fun Qa Q0=>InI ((256:Int)*Qa)/\Qb list Q0 (256:Int) fun Qd Z9=>InI ((256:Int)*Qa+Qd)/\n≠(0:Int)/\K (((256:Int)*Qa+Qd).tmod n) Z9
def q6i:q6h:=w3o Zc
abbrev z63:Type:=Int->List (ByteArray)->(List (ByteArray)->Prop)->Prop
def z64:z63:=fun n l K=>((0:Int)<=n/\n<=(↑l.length:Int))/\K (List.take n.toNat l)
abbrev z2b:Type:=List (Int)->Int->(List (ByteArray)->Int->Prop)->Prop
def w3p(Qb:Zg):z2b:=fun list at_ K=>Qb list at_ (10:Int) fun Qa Q0=>Lp3 (fun Qd Z9 j2g y2s=>Qb list j2g (4:Int) fun Qg Zn=>Cnd (Z9<Qg) (InI (Qa+Z9)/\(10:Int)≠(0:Int)/\InI ((48:Int)+(Qa+Z9).tmod (10:Int))/\(↑((ByteArray.mk (Array.mk [107])).size+(Go.Utf8.encode (Go.IntKind.i32.wrap ((48:Int)+(Qa+Z9).tmod (10:Int)))).size):Int)<=(9223372036854775807:Int)/\Sml (Qd++[ByteArray.mk (Array.mk [107])++Go.Utf8.encode (Go.IntKind.i32.wrap ((48:Int)+(Qa+Z9).tmod (10:Int)))]).length/\InI (Z9+1)/\y2s (Qd++[ByteArray.mk (Array.mk [107])++Go.Utf8.encode (Go.IntKind.i32.wrap ((48:Int)+(Qa+Z9).tmod (10:Int)))]) (Z9+1) Zn) (Lp2 (fun Qf Uj j6e=>Fits Uj->CAt Uj Qf (fun y5=>InI (Qf - 1)/\((0:Int)<=Qf - 1/\Qf - 1<(↑Uj.length:Int))/\ ∀y7,Uj[(Qf - 1).toNat]? =some y7->Cnd (Lk.blt y7 y5) (InI (Qf+1)/\j6e (Qf+1) Uj) (((0:Int)<=Qf/\Qf<=(↑Uj.length:Int))/\K (List.take Qf.toNat Uj) Zn)) (K Uj Zn)) (1:Int) Qd)) [] (0:Int) Q0
def z2c:z2b:=w3p Zc
abbrev z8y:Type:=List (Int)->Int->(ByteArray->Int->Prop)->Prop
def w9f(Qb:Zg):z8y:=fun list at_ K=>Qb list at_ (10:Int) fun Qa Q0=>InI ((48:Int)+Qa)/\(↑((ByteArray.mk (Array.mk [107])).size+(Go.Utf8.encode (Go.IntKind.i32.wrap ((48:Int)+Qa))).size):Int)<=(9223372036854775807:Int)/\K (ByteArray.mk (Array.mk [107])++Go.Utf8.encode (Go.IntKind.i32.wrap ((48:Int)+Qa))) Q0
def z8z:z8y:=w9f Zc
abbrev q1s:Type:=List (Int)->Int->Int->(Val->Int->Prop)->Prop
def j0w(Qb:Zg)(Wh:q1q):q1s:=fun list at_ kind K=>Cnd (kind=1) (Qb list at_ (2:Int) fun Qa Q0=>K (Val.mk kind Qa (ByteArray.mk (Array.mk [])) []) Q0) (Cnd (kind=2) ([(0:Int),(1:Int),(17:Int),(18:Int),(19:Int),(-5:Int),(64:Int),(1099511627776:Int),(-1099511627776:Int)].length<=(9223372036854775807:Nat)->Qb list at_ (↑[(0:Int),(1:Int),(17:Int),(18:Int),(19:Int),(-5:Int),(64:Int),(1099511627776:Int),(-1099511627776:Int)].length:Int) fun Qd Z9=>((0:Int)<=Qd/\Qd<(↑[(0:Int),(1:Int),(17:Int),(18:Int),(19:Int),(-5:Int),(64:Int),(1099511627776:Int),(-1099511627776:Int)].length:Int))/\ ∀y2,[(0:Int),(1:Int),(17:Int),(18:Int),(19:Int),(-5:Int),(64:Int),(1099511627776:Int),(-1099511627776:Int)][Qd.toNat]? =some y2->K (Val.mk kind y2 (ByteArray.mk (Array.mk [])) []) Z9) (Cnd (kind=3) (Wh list at_ fun Qa Q0=>K (Val.mk kind (0:Int) Qa []) Q0) (Cnd (kind=4) (Qb list at_ (6:Int) fun Qa Q0=>((0:Int)<=Qa/\Qa<(↑(6:Nat):Int))/\ ∀y1,z4q[Qa.toNat]? =some y1->K (Val.mk kind (0:Int) y1 []) Q0) (Qb list at_ (5:Int) fun Qa Q0=>((0:Int)<=Qa/\Qa<(↑(5:Nat):Int))/\ ∀y1,j7z[Qa.toNat]? =some y1->Sml ([]++y1).length/\K (Val.mk (5:Int) (0:Int) (ByteArray.mk (Array.mk [])) ([]++y1)) Q0))))
def Ur:q1s:=j0w Zc q1r
abbrev j0x:Type:=List (Int)->Int->(Ex->Int->Prop)->Prop
def w3q(Q3:W2)(Qb:Zg)(z3r:z8y)(Jj:q1s):j0x:=fun list at_ K=>Q3 fun Qa=>Fits Qa->InI ((↑Qa.length:Int)+1)/\Qb list at_ ((↑Qa.length:Int)+1) fun Qg Zn=>Fits Qa->Cnd (Qg=(↑Qa.length:Int)) (z3r list Zn fun Qe Jz=>K (Ex.mk (7:Int) (ByteArray.mk (Array.mk [117,115,101,114])) (ByteArray.mk (Array.mk [107,101,121])) [Val.mk (3:Int) (0:Int) Qe []] []) Jz) (At Qa Qg fun y4=>Jn1 (fun (Ja:Int×ByteArray×ByteArray×List Val×List Ex×Int×Int×ByteArray×ByteArray×List Val×List Ex×Unit)=>Jj list Ja.2.2.2.2.2.1 y4.3 fun W7 z74=>K (Ex.mk (7:Int) Ja.2.1 Ja.2.2.1 [W7] Ja.2.2.2.2.1) z74) fun (y30:Int×ByteArray×ByteArray×List Val×List Ex×Int×Int×ByteArray×ByteArray×List Val×List Ex×Unit->Prop)=>Qb list Zn (5:Int) fun W7 z74=>Jn1 (fun (Uk:Int×Int×ByteArray×ByteArray×List Val×List Ex×Int×ByteArray×ByteArray×List Val×List Ex×Unit)=>Cnd (y4.3=2) (Qb list Uk.1 (4:Int) fun Qq j0c=>InI ((12:Int)+Qq)/\Jj list j0c y4.3 fun H4 q26=>K (Ex.mk ((12:Int)+Qq) Uk.2.2.1 Uk.2.2.2.1 [H4] Uk.2.2.2.2.2.1) q26) (Cnd (y4.3=3) (Qb list Uk.1 (4:Int) fun Qq j0c=>InI ((12:Int)+Qq)/\Jj list j0c y4.3 fun H4 q26=>K (Ex.mk ((12:Int)+Qq) Uk.2.2.1 Uk.2.2.2.1 [H4] Uk.2.2.2.2.2.1) q26) (Cnd (y4.3=4) (Qb list Uk.1 (4:Int) fun Qq j0c=>InI ((12:Int)+Qq)/\Jj list j0c y4.3 fun H4 q26=>K (Ex.mk ((12:Int)+Qq) Uk.2.2.1 Uk.2.2.2.1 [H4] Uk.2.2.2.2.2.1) q26) (y30 (Uk.2.1,Uk.2.2.1,Uk.2.2.2.1,Uk.2.2.2.2.1,Uk.2.2.2.2.2.1,Uk.1,Uk.2.2.2.2.2.2.1,Uk.2.2.2.2.2.2.2.1,Uk.2.2.2.2.2.2.2.2.1,Uk.2.2.2.2.2.2.2.2.2.1,Uk.2.2.2.2.2.2.2.2.2.2.1,()))))) fun (y2t:Int×Int×ByteArray×ByteArray×List Val×List Ex×Int×ByteArray×ByteArray×List Val×List Ex×Unit->Prop)=>Cnd (W7=0) (K (Ex.mk (6:Int) y4.1 y4.2 [] []) z74) (Cnd (W7=1) (Cnd (y4.3=5) (y30 ((0:Int),y4.1,y4.2,[],[],z74,(0:Int),ByteArray.mk (Array.mk []),ByteArray.mk (Array.mk []),[],[],())) (Lp3 (fun Qq j0c y9h u0g=>Qb list y9h (3:Int) fun H4 q26=>Cnd (Qq<=H4) (Jj list q26 y4.3 fun Wm w0f=>Sml (j0c++[Wm]).length/\InI (Qq+1)/\u0g (Qq+1) (j0c++[Wm]) w0f) (K (Ex.mk (8:Int) y4.1 y4.2 j0c []) q26)) (0:Int) [] z74)) (Cnd (W7=2) (Cnd (y4.3=3) (Jj list z74 (3:Int) fun Qq j0c=>K (Ex.mk (11:Int) y4.1 y4.2 [Qq] []) j0c) (Cnd (y4.3=5) (Jj list z74 (3:Int) fun Qq j0c=>K (Ex.mk (11:Int) y4.1 y4.2 [Qq] []) j0c) (y30 ((0:Int),y4.1,y4.2,[],[],z74,(0:Int),ByteArray.mk (Array.mk []),ByteArray.mk (Array.mk []),[],[],())))) (Cnd (W7=3) (Cnd (y4.3=3) (Qb list z74 (2:Int) fun Qq j0c=>InI ((9:Int)+Qq)/\Jj list j0c (3:Int) fun H4 q26=>K (Ex.mk ((9:Int)+Qq) y4.1 y4.2 [H4] []) q26) (y2t (z74,(0:Int),y4.1,y4.2,[],[],(0:Int),ByteArray.mk (Array.mk []),ByteArray.mk (Array.mk []),[],[],()))) (Cnd (W7=4) (y2t (z74,(0:Int),y4.1,y4.2,[],[],(0:Int),ByteArray.mk (Array.mk []),ByteArray.mk (Array.mk []),[],[],())) (y30 ((0:Int),y4.1,y4.2,[],[],z74,(0:Int),ByteArray.mk (Array.mk []),ByteArray.mk (Array.mk []),[],[],())))))))
def z65:j0x:=w3q Jx Zc z8z Ur
abbrev q4g:Type:=List (Int)->Int->List (ByteArray)->Int->(Ex->Int->Prop)->Prop
def j6s(Qb:Zg)(j2h:j0x)(X:q4g):q4g:=fun list at_ segments levels K=>Qb list at_ (8:Int) fun Qa Q0=>Jn1 (fun Qd=>Cnd (Qd=0) (K (Ex.mk (1:Int) (ByteArray.mk (Array.mk [])) (ByteArray.mk (Array.mk [])) [] []) Q0) (Cnd (Qd=3) (Fits segments->Cnd ((0:Int)<(↑segments.length:Int)) (Fits segments->Qb list Q0 (↑segments.length:Int) fun Qe Jz=>At segments Qe fun y5=>K (Ex.mk (5:Int) (ByteArray.mk (Array.mk [])) y5 [] []) Jz) (j2h list Q0 fun Qf Uj=>K (Ex.mk Qf.1 Qf.2 Qf.3 Qf.4 Qf.5) Uj)) (Cnd (Qd=4) (InI (levels - 1)/\X list Q0 segments (levels - 1) fun Qg Zn=>K (Ex.mk (4:Int) (ByteArray.mk (Array.mk [])) (ByteArray.mk (Array.mk [])) [] [Ex.mk Qg.1 Qg.2 Qg.3 Qg.4 Qg.5]) Zn) (Jn1 (fun Qg=>Cnd (Qg=true) (Qb list Q0 (2:Int) fun Qf Uj=>InI ((2:Int)+Qf)/\Qb list Uj (2:Int) fun Qe Jz=>InI ((2:Int)+Qe)/\LpH (fun (Qm:Int×Int×Int×ByteArray×ByteArray×List Val×List Ex×Unit) (j65:Int×Int×Int×ByteArray×ByteArray×List Val×List Ex×Unit->Prop)=>Cnd (Qm.1<2+Qe) (InI (levels - 1)/\X list Qm.2.1 segments (levels - 1) fun Ja j0d=>Jn1 (fun (W7:Int×ByteArray×ByteArray×List Val×List Ex×Unit)=>Sml (Qm.2.2.2.2.2.2.1++[Ex.mk W7.1 W7.2.1 W7.2.2.1 W7.2.2.2.1 W7.2.2.2.2.1]).length/\InI (Qm.1+1)/\j65 (Qm.1+1,j0d,Qm.2.2.1,Qm.2.2.2.1,Qm.2.2.2.2.1,Qm.2.2.2.2.2.1,Qm.2.2.2.2.2.2.1++[Ex.mk W7.1 W7.2.1 W7.2.2.1 W7.2.2.2.1 W7.2.2.2.2.1],())) fun (y65:Int×ByteArray×ByteArray×List Val×List Ex×Unit->Prop)=>Cnd (Ja.1=2+Qf) (y65 ((4:Int),ByteArray.mk (Array.mk []),ByteArray.mk (Array.mk []),[],[Ex.mk Ja.1 Ja.2 Ja.3 Ja.4 Ja.5],())) (y65 (Ja.1,Ja.2,Ja.3,Ja.4,Ja.5,()))) (K (Ex.mk Qm.2.2.1 Qm.2.2.2.1 Qm.2.2.2.2.1 Qm.2.2.2.2.2.1 Qm.2.2.2.2.2.2.1) Qm.2.1)) ((0:Int),Jz,(2:Int)+Qf,ByteArray.mk (Array.mk []),ByteArray.mk (Array.mk []),[],[],())) (j2h list Q0 fun Qf Uj=>K (Ex.mk Qf.1 Qf.2 Qf.3 Qf.4 Qf.5) Uj)) fun w8l=>Cnd (Qd=5) (w8l (decide (Qd=5))) (w8l (decide (Qd=6))))))) fun w2t=>Cnd (levels<=1) (Cnd ((4:Int)<=Qa) (InI (Qa - 4)/\w2t (Qa - 4)) (w2t Qa)) (w2t Qa)
def z2d:q4g:=fun list at_ segments levels K=> ∀X:q4g,(∀list at_ segments levels K,j6s Zc z65 X list at_ segments levels K->X list at_ segments levels K)->X list at_ segments levels K
abbrev q44:Type:=List (Int)->Int->ByteArray->ByteArray->Int->List (Decl)->List (Seg)->List (Flg)->List (Lay_)->List (Exper)->(Int->ByteArray->ByteArray->Int->List (Decl)->List (Seg)->List (Flg)->List (Lay_)->List (Exper)->Prop)->Prop
def z4r(Qb:Zg)(q27:z63)(q4r:z2b)(q4s:q4g):q44:=fun list at_ salt hkind hold attrs segs flags layers expers K=>Qb list at_ (4:Int) fun Qa Q0=>q27 Qa [ByteArray.mk (Array.mk [97,108,112,104,97]),ByteArray.mk (Array.mk [98,101,116,97]),ByteArray.mk (Array.mk [103,97,109,109,97])] fun Qd=>Lp3 (fun Qg Zn w5o y8w=>Fits Qd->CAt Qd Qg (fun y4=>q4r list Zn fun Ja j0d=>q4r list j0d fun W7 z74=>Jn2 (fun Uk y31=>Jn1 (fun (Qq:Int×ByteArray×ByteArray×List Val×List Ex×Int×Unit)=>Sml (w5o++[Seg.mk y4 Uk Ja W7 (Ex.mk Qq.1 Qq.2.1 Qq.2.2.1 Qq.2.2.2.1 Qq.2.2.2.2.1)]).length/\InI (Qg+1)/\y8w (Qg+1) Qq.2.2.2.2.2.1 (w5o++[Seg.mk y4 Uk Ja W7 (Ex.mk Qq.1 Qq.2.1 Qq.2.2.1 Qq.2.2.2.1 Qq.2.2.2.2.1)])) fun (y8x:Int×ByteArray×ByteArray×List Val×List Ex×Int×Unit->Prop)=>Qb list y31 (3:Int) fun H4 q26=>Cnd ((0:Int)<H4) (((0:Int)<=(0:Int)/\(0:Int)<=Qg/\Qg<=(↑Qd.length:Int))/\q4s list q26 (List.drop (Int.toNat (0:Int)) (List.take Qg.toNat Qd)) (3:Int) fun Wm w0f=>y8x (Wm.1,Wm.2,Wm.3,Wm.4,Wm.5,w0f,())) (y8x ((0:Int),ByteArray.mk (Array.mk []),ByteArray.mk (Array.mk []),[],[],q26,()))) fun y2t=>Qb list z74 (4:Int) fun Qq j0c=>Cnd (Qq=1) (y2t (ByteArray.mk (Array.mk [100,101,118,105,99,101])) j0c) (y2t (ByteArray.mk (Array.mk [117,115,101,114])) j0c)) (K Zn salt hkind hold attrs w5o flags layers expers)) (0:Int) Q0 segs
def q45:q44:=z4r Zc z64 z2c z2d
abbrev q1t:Type:=Envt->(List (ByteArray)->Prop)->Prop
def H5:q1t:=fun v K=>Lp2 (fun Qa Q0 q3l=>Fits v.3->CAt v.3 Q0 (fun y2=>Sml (Qa++[y2.1]).length/\InI (Q0+1)/\q3l (Qa++[y2.1]) (Q0+1)) (K Qa)) [] (0:Int)
abbrev q7q:Type:=List (Int)->Int->Int->(List (Rng)->Int->Prop)->Prop
def j71(Qb:Zg)(Wu:q6h):q7q:=fun list at_ n K=>Jn4 (fun Qa Q0 j2i q6d=>Qb list q6d n fun Qd Z9=>InI ((1:Int)+Qd)/\Jn1 (fun Qg=>Sml (Qa++[Rng.mk Q0 (10000:Int) Qg]).length/\K (Qa++[Rng.mk Q0 (10000:Int) Qg]) Z9) fun w8l=>Cnd ((1:Int)+Qd=j2i) (n≠(0:Int)/\InI ((1:Int)+((1:Int)+Qd).tmod n)/\w8l ((1:Int)+((1:Int)+Qd).tmod n)) (w8l ((1:Int)+Qd))) fun z11=>Lp5 (fun Qd Z9 j2g j4z y66 y8y=>Qb list y66 (4:Int) fun Qg Zn=>Cnd (j4z<Qg) (Cnd ((1:Int)<n) (InI (Z9+1)/\Wu list Zn (5000:Int) fun Qf Uj=>InI (Z9+1+Qf)/\Qb list Uj n fun Qe Jz=>InI ((1:Int)+Qe)/\Jn1 (fun Qm=>Cnd ((10000:Int)<=Z9+1+Qf) (z11 Qd Z9 j2g Jz) (Sml (Qd++[Rng.mk Z9 (Z9+1+Qf) Qm]).length/\InI (j4z+1)/\y8y (Qd++[Rng.mk Z9 (Z9+1+Qf) Qm]) (Z9+1+Qf) Qm (j4z+1) Jz)) fun u04=>Cnd ((1:Int)+Qe=j2g) (n≠(0:Int)/\InI ((1:Int)+((1:Int)+Qe).tmod n)/\u04 ((1:Int)+((1:Int)+Qe).tmod n)) (u04 ((1:Int)+Qe))) (z11 Qd Z9 j2g Zn)) (z11 Qd Z9 j2g Zn)) [] (0:Int) (0:Int) (0:Int) at_
def q7r:q7q:=j71 Zc q6i
abbrev z4s:Type:=List (Int)->Int->Int->(Srv->Int->Prop)->Prop
def j72(Qb:Zg)(Wh:q1q)(q28:q7q)(Q3:W2):z4s:=fun list at_ n K=>Qb list at_ (2:Int) fun Qa Q0=>Cnd (Qa=0) (Qb list Q0 n fun Qd Z9=>InI ((1:Int)+Qd)/\K (Srv.mk ((1:Int)+Qd) (ByteArray.mk (Array.mk [])) (ByteArray.mk (Array.mk [])) (ByteArray.mk (Array.mk [])) []) Z9) (Wh list Q0 fun Qd Z9=>q28 list Z9 n fun Qg Zn=>Q3 fun Qf=>Qb list Zn (12:Int) fun Qe Jz=>Fits Qf->CAt Qf Qe (fun y6=>Cnd (y6.3=5) (K (Srv.mk (0:Int) (ByteArray.mk (Array.mk [117,115,101,114])) (ByteArray.mk (Array.mk [107,101,121])) Qd Qg) Jz) (At Qf Qe fun y8=>At Qf Qe fun y10=>K (Srv.mk (0:Int) y8.1 y10.2 Qd Qg) Jz)) (K (Srv.mk (0:Int) (ByteArray.mk (Array.mk [117,115,101,114])) (ByteArray.mk (Array.mk [107,101,121])) Qd Qg) Jz))
def z4t:z4s:=j72 Zc q1r q7r Jx
abbrev j0y:Type:=(List (Nd)->(Nd->Option (Int))->Bool->Prop)->Prop
def j73:j0y:=fun K=>K [] (fun _=>none) false
abbrev Wi:Type:=Int->(Bool->Prop)->Prop
def Jd:Wi:=fun op K=>Cnd ((6:Int)<=op) (K (decide (op<=15))) (K false)
abbrev j0z:Type:=List (ByteArray)->List (ByteArray)->(Bool->Prop)->Prop
def z4u:j0z:=fun a b K=>Fits a->Fits b->Cnd ((↑a.length:Int)=(↑b.length:Int)) (Lp1 (fun Qg j2j=>Fits a->CAt a Qg (fun y4=>At b Qg fun y6=>Cnd (y4=y6) (InI (Qg+1)/\j2j (Qg+1)) (K false)) (K true)) (0:Int)) (K false)
abbrev q3m:Type:=Val->Val->(Bool->Prop)->Prop
def j3f(j2k:j0z):q3m:=fun a b K=>Cnd (a.1=b.1) (Cnd (a.2=b.2) (Cnd (a.3=b.3) (j2k a.4 b.4 fun Qa=>K Qa) (K false)) (K false)) (K false)
def q1b:q3m:=j3f z4u
abbrev H6:Type:=List (Val)->List (Val)->(Bool->Prop)->Prop
def q7s(Ga:q3m):H6:=fun a b K=>Fits a->Fits b->Cnd ((↑a.length:Int)=(↑b.length:Int)) (Lp1 (fun Qg j2j=>Fits a->CAt a Qg (fun y4=>At b Qg fun y6=>Ga y4 y6 fun Uk=>Cnd (Uk=true) (InI (Qg+1)/\j2j (Qg+1)) (K false)) (K true)) (0:Int)) (K false)
def Us:H6:=q7s q1b
abbrev Vt:Type:=Ex->Ex->(Bool->Prop)->Prop
def z2e(q29:H6)(X:Vt):Vt:=fun a b K=>Cnd (a.1=b.1) (Cnd (a.2=b.2) (Cnd (a.3=b.3) (q29 a.4 b.4 fun Qa=>Cnd (Qa=true) (Fits a.5->Fits b.5->Cnd ((↑a.5.length:Int)=(↑b.5.length:Int)) (Lp1 (fun Qf j0e=>Fits a.5->CAt a.5 Qf (fun y5=>At b.5 Qf fun y7=>X (Ex.mk y5.1 y5.2 y5.3 y5.4 y5.5) (Ex.mk y7.1 y7.2 y7.3 y7.4 y7.5) fun Qq=>Cnd (Qq=true) (InI (Qf+1)/\j0e (Qf+1)) (K false)) (K true)) (0:Int)) (K false)) (K false)) (K false)) (K false)) (K false)
def R8:Vt:=fun a b K=> ∀X:Vt,(∀a b K,z2e Us X a b K->X a b K)->X a b K
abbrev q0t:Type:=List (Ex)->Ex->(Int->Prop)->Prop
def z81(q6w:Vt):q0t:=fun l e K=>Lp1 (fun Qa q1k=>Fits l->CAt l Qa (fun y2=>q6w (Ex.mk y2.1 y2.2 y2.3 y2.4 y2.5) (Ex.mk e.1 e.2 e.3 e.4 e.5) fun Qe=>Cnd (Qe=true) (K Qa) (InI (Qa+1)/\q1k (Qa+1))) (K (-1:Int))) (0:Int)
def Ug:q0t:=z81 R8
abbrev W4:Type:=List (Ex)->Ex->(List (Ex)->Prop)->Prop
def z0d(Ul:q0t)(Qv:Wi)(X:W4):W4:=fun l e K=>Jn1 (fun Qa=>Lp2 (fun Qd Z9 z6q=>Fits e.5->CAt e.5 Z9 (fun y3=>X Qd (Ex.mk y3.1 y3.2 y3.3 y3.4 y3.5) fun Qm=>InI (Z9+1)/\z6q Qm (Z9+1)) (K Qd)) Qa (0:Int)) fun z11=>Cnd (e.1=5) (Ul l (Ex.mk e.1 e.2 e.3 e.4 e.5) fun Qd=>Cnd (Qd<0) ((Sml ([]++l).length/\Sml ([]++l++[Ex.mk e.1 e.2 e.3 e.4 e.5]).length/\z11 ([]++l++[Ex.mk e.1 e.2 e.3 e.4 e.5]))/\Sml ([]++l).length/\Sml ([]++l++[Ex.mk e.1 e.2 e.3 e.4 e.5]).length/\z11 ([]++l++[Ex.mk e.1 e.2 e.3 e.4 e.5])) (z11 l)) (Qv e.1 fun Qd=>Cnd (Qd=true) (Ul l (Ex.mk e.1 e.2 e.3 e.4 e.5) fun Qg=>Cnd (Qg<0) ((Sml ([]++l).length/\Sml ([]++l++[Ex.mk e.1 e.2 e.3 e.4 e.5]).length/\z11 ([]++l++[Ex.mk e.1 e.2 e.3 e.4 e.5]))/\Sml ([]++l).length/\Sml ([]++l++[Ex.mk e.1 e.2 e.3 e.4 e.5]).length/\z11 ([]++l++[Ex.mk e.1 e.2 e.3 e.4 e.5])) (z11 l)) (z11 l))
def B0:W4:=fun l e K=> ∀X:W4,(∀l e K,z0d Ug Jd X l e K->X l e K)->X l e K
abbrev H7:Type:=List (Rul)->(List (Ex)->Prop)->Prop
def q7t(q4t:W4):H7:=fun l K=>Lp2 (fun Qa Q0 q3l=>Fits l->CAt l Q0 (fun y2=>q4t Qa (Ex.mk y2.2.1 y2.2.2 y2.2.3 y2.2.4 y2.2.5) fun Qe=>InI (Q0+1)/\q3l Qe (Q0+1)) (K Qa)) [] (0:Int)
def H8:H7:=q7t B0
abbrev J7:Type:=List (Nd)->(Nd->Option (Int))->Bool->Int->(Bool->List (Nd)->(Nd->Option (Int))->Bool->Prop)->Prop
def Jr:J7:=fun ns ids full id K=>Cnd ((-1002:Int)<id) (Fits ns->K (decide (id<(↑ns.length:Int))) ns ids full) (K false ns ids full)
abbrev q0i:Type:=List (Nd)->(Nd->Option (Int))->Bool->Int->((Int->Option (Bool))->List (Nd)->(Nd->Option (Int))->Bool->Prop)->Prop
def G4:q0i:=fun ns ids full id K=>Lp2 (fun Qa q1k q3l=>Fits Qa->Cnd ((0:Int)<(↑Qa.length:Int)) (Fits Qa->InI ((↑Qa.length:Int) - 1)/\((0:Int)<=(↑Qa.length:Int) - 1/\(↑Qa.length:Int) - 1<(↑Qa.length:Int))/\ ∀y3,Qa[((↑Qa.length:Int) - 1).toNat]? =some y3->Fits Qa->InI ((↑Qa.length:Int) - 1)/\((0:Int)<=(↑Qa.length:Int) - 1/\(↑Qa.length:Int) - 1<=(↑Qa.length:Int))/\Cnd ((q1k y3).getD false=true) (q3l (List.take ((↑Qa.length:Int) - 1).toNat Qa) q1k) (Cnd ((0:Int)<=y3) (At ns y3 fun y6=>At ns y3 fun y8=>Sml (List.take ((↑Qa.length:Int) - 1).toNat Qa++[y6.2.1,y8.2.2]).length/\q3l (List.take ((↑Qa.length:Int) - 1).toNat Qa++[y6.2.1,y8.2.2]) (put q1k y3 true)) (q3l (List.take ((↑Qa.length:Int) - 1).toNat Qa) (put q1k y3 true)))) (K q1k ns ids full)) [id] fun _=>none
abbrev Ut:Type:=List (Nd)->(Nd->Option (Int))->Bool->Int->(List (Int)->List (Nd)->(Nd->Option (Int))->Bool->Prop)->Prop
def z01(Qw:J7)(q0n:q0i):Ut:=fun ns ids full id K=>Qw ns ids full id fun Qa (Q0:List (Int×Int×Int)) q3l q6d=>Cnd (Qa=true) (q0n Q0 q3l q6d id fun w2t (Z9:List (Int×Int×Int)) z6q j4z=>Lp2 (fun Qg Zn q7g=>Cnd (Zn<=1000) (InI ((-1:Int) - Zn)/\Cnd ((w2t ((-1:Int) - Zn)).getD false=true) (Sml (Qg++[Zn]).length/\InI (Zn+1)/\q7g (Qg++[Zn]) (Zn+1)) (InI (Zn+1)/\q7g Qg (Zn+1))) (K Qg Z9 z6q j4z)) [] (0:Int)) (K [] Q0 q3l q6d)
def Uu:Ut:=z01 Jr G4
abbrev Zh:Type:=List (Nd)->(Nd->Option (Int))->Bool->Int->(Bool->List (Nd)->(Nd->Option (Int))->Bool->Prop)->Prop
def q6b(Qw:J7)(Bj:Ut):Zh:=fun ns ids full id K=>Qw ns ids full id fun Qa (Q0:List (Int×Int×Int)) q3l q6d=>Cnd (Qa=true) (Bj Q0 q3l q6d id fun Qd (Z9:List (Int×Int×Int)) z6q j4z=>Lp1 (fun Qg j2j=>Fits Qd->CAt Qd Qg (fun y4=>Cnd ((1:Int)<y4) (K false Z9 z6q j4z) (InI (Qg+1)/\j2j (Qg+1))) (K true Z9 z6q j4z)) (0:Int)) (K false Q0 q3l q6d)
def Zi:Zh:=q6b Jr Uu
abbrev W5:Type:=List (Nd)->(Nd->Option (Int))->Bool->Int->(Int->List (Nd)->(Nd->Option (Int))->Bool->Prop)->Prop
def Jh:W5:=fun ns ids full id K=>Cnd (id<0) (K (1001:Int) ns ids full) (At ns id fun y0=>K y0.1 ns ids full)
abbrev G5:Type:=List (Nd)->(Nd->Option (Int))->Bool->Int->Int->(Int->Int->List (Nd)->(Nd->Option (Int))->Bool->Prop)->Prop
def z35(Q7:W5):G5:=fun ns ids full id test K=>Q7 ns ids full id fun Qa (Q0:List (Int×Int×Int)) q3l q6d=>Cnd (Qa=test) (At Q0 id fun y1=>At Q0 id fun y3=>K y1.2.1 y3.2.2 Q0 q3l q6d) (K id id Q0 q3l q6d)
def Wj:G5:=z35 Jh
abbrev Vb:Type:=List (Nd)->(Nd->Option (Int))->Bool->Int->Int->Int->(Int->List (Nd)->(Nd->Option (Int))->Bool->Prop)->Prop
def z4v(Qw:J7)(Q7:W5):Vb:=fun ns ids full test yes no K=>Cnd (test<0) (K (-1002:Int) ns ids full) (Cnd ((1000:Int)<test) (K (-1002:Int) ns ids full) (Qw ns ids full yes fun Qa (Q0:List (Int×Int×Int)) q3l q6d=>Cnd (Qa=true) (Qw Q0 q3l q6d no fun Qd (Z9:List (Int×Int×Int)) z6q j4z=>Cnd (Qd=true) (Q7 Z9 z6q j4z yes fun Qg (Zn:List (Int×Int×Int)) q7g w0h=>Cnd (Qg<=test) (K (-1002:Int) Zn q7g w0h) (Q7 Zn q7g w0h no fun Qf (Uj:List (Int×Int×Int)) j6e v92=>Cnd (Qf<=test) (K (-1002:Int) Uj j6e v92) (Cnd (yes=no) (K yes Uj j6e v92) (Cnd ((j6e (test,yes,no)).isSome=true) (K ((j6e (test,yes,no)).getD (0:Int)) Uj j6e v92) (Fits Uj->Cnd ((4000:Int)<=(↑Uj.length:Int)) (K (-1002:Int) Uj j6e true) (Fits Uj->Sml (Uj++[(test,yes,no)]).length/\((Uj++[(test,yes,no)]).length<=(9223372036854775807:Nat)->InI ((↑(Uj++[(test,yes,no)]).length:Int) - 1)/\K ((↑(Uj++[(test,yes,no)]).length:Int) - 1) (Uj++[(test,yes,no)]) (put j6e (test,yes,no) (↑Uj.length:Int)) v92))))))) (K (-1002:Int) Z9 z6q j4z)) (K (-1002:Int) Q0 q3l q6d)))
def Ji:Vb:=z4v Jr Jh
abbrev Jo:Type:=List (Nd)->(Nd->Option (Int))->Bool->Int->Int->Int->(A3->Option (Int))->(Int->List (Nd)->(Nd->Option (Int))->Bool->(A3->Option (Int))->Prop)->Prop
def Uv(Q7:W5)(Vp:G5)(Ju:Vb)(X:Jo):Jo:=fun ns ids full f g h known K=>Cnd (f=(-2:Int)) (K g ns ids full known) (Cnd (g=h) (K g ns ids full known) (Cnd (f=(-1:Int)) (K h ns ids full known) (Cnd ((known (f,g,h)).isSome=true) (K ((known (f,g,h)).getD (0:Int)) ns ids full known) (Q7 ns ids full f fun Qa (Q0:List (Int×Int×Int)) q3l q6d=>Q7 Q0 q3l q6d g fun Qd (Z9:List (Int×Int×Int)) z6q j4z=>Q7 Z9 z6q j4z h fun Qg (Zn:List (Int×Int×Int)) q7g w0h=>Vp Zn q7g w0h f (Min.min (Min.min Qa Qd) Qg) fun Qf Uj (y67:List (Int×Int×Int)) u07 u08=>Vp y67 u07 u08 g (Min.min (Min.min Qa Qd) Qg) fun Qe Jz (j2l:List (Int×Int×Int)) y68 u0h=>Vp j2l y68 u0h h (Min.min (Min.min Qa Qd) Qg) fun Qm q9g (u0i:List (Int×Int×Int)) u09 u1a=>X u0i u09 u1a Qf Qe Qm known fun Ja (j0d:List (Int×Int×Int)) y6m y6n u1b=>X j0d y6m y6n Uj Jz q9g u1b fun W7 (z74:List (Int×Int×Int)) y69 v09 y7a=>Jn4 (fun Uk (y31:List (Int×Int×Int)) u1c u1d=>K Uk y31 u1d u1c (put y7a (f,g,h) Uk)) fun y2t=>Cnd (Ja=(-1002:Int)) (y2t (-1002:Int) z74 v09 y69) (Cnd (W7=(-1002:Int)) (y2t (-1002:Int) z74 v09 y69) (Ju z74 y69 v09 (Min.min (Min.min Qa Qd) Qg) Ja W7 fun Qq (j0c:List (Int×Int×Int)) y8z y80=>y2t Qq j0c y80 y8z))))))
def Uw:Jo:=fun ns ids full f g h known K=> ∀X:Jo,(∀ns ids full f g h known K,Uv Jh Wj Ji X ns ids full f g h known K->X ns ids full f g h known K)->X ns ids full f g h known K
abbrev Z0:Type:=List (Nd)->(Nd->Option (Int))->Bool->Int->Int->Int->(Int->List (Nd)->(Nd->Option (Int))->Bool->Prop)->Prop
def z02(Qp:Zh)(Qw:J7)(Bk:Jo):Z0:=fun ns ids full f g h K=>Qp ns ids full f fun Qa (Q0:List (Int×Int×Int)) q3l q6d=>Cnd (Qa=true) (Qw Q0 q3l q6d g fun Qd (Z9:List (Int×Int×Int)) z6q j4z=>Cnd (Qd=true) (Qw Z9 z6q j4z h fun Qg (Zn:List (Int×Int×Int)) q7g w0h=>Cnd (Qg=true) (Bk Zn q7g w0h f g h (fun _=>none) fun Qf (Uj:List (Int×Int×Int)) j6e v92 _=>K Qf Uj j6e v92) (K (-1002:Int) Zn q7g w0h)) (K (-1002:Int) Z9 z6q j4z)) (K (-1002:Int) Q0 q3l q6d)
def Z1:Z0:=z02 Zi Jr Uw
abbrev B1:Type:=List (Nd)->(Nd->Option (Int))->Bool->Int->(Int->List (Nd)->(Nd->Option (Int))->Bool->Prop)->Prop
def z8d(Q1:Z0):B1:=fun ns ids full f K=>Q1 ns ids full f (-1:Int) (-2:Int) fun Qa (Q0:List (Int×Int×Int)) q3l q6d=>K Qa Q0 q3l q6d
def Hm:B1:=z8d Z1
abbrev B2:Type:=List (Nd)->(Nd->Option (Int))->Bool->Int->Int->(Int->List (Nd)->(Nd->Option (Int))->Bool->Prop)->Prop
def z8e(Qp:Zh)(Q1:Z0):B2:=fun ns ids full f g K=>Qp ns ids full g fun Qa (Q0:List (Int×Int×Int)) q3l q6d=>Cnd (Qa=true) (Q1 Q0 q3l q6d f g (-1:Int) fun Qd (Z9:List (Int×Int×Int)) z6q j4z=>K Qd Z9 z6q j4z) (K (-1002:Int) Q0 q3l q6d)
def Hn:B2:=z8e Zi Z1
abbrev Ge:Type:=List (Nd)->(Nd->Option (Int))->Bool->Int->Int->(Int->List (Nd)->(Nd->Option (Int))->Bool->Prop)->Prop
def j00(Qp:Zh)(Q1:Z0):Ge:=fun ns ids full f g K=>Qp ns ids full g fun Qa (Q0:List (Int×Int×Int)) q3l q6d=>Cnd (Qa=true) (Q1 Q0 q3l q6d f (-2:Int) g fun Qd (Z9:List (Int×Int×Int)) z6q j4z=>K Qd Z9 z6q j4z) (K (-1002:Int) Q0 q3l q6d)
def Vu:Ge:=j00 Zi Z1
abbrev We:Type:=List (Nd)->(Nd->Option (Int))->Bool->List (Ex)->Ex->(Int->List (Nd)->(Nd->Option (Int))->Bool->Prop)->Prop
def q7u(q4u:B1)(q4v:B2)(Wv:Ge)(Ul:q0t)(Ju:Vb)(X:We):We:=fun ns ids full atoms e K=>Cnd (e.1=1) (K (-2:Int) ns ids full) (Cnd (e.1=4) (((0:Int)<=(0:Int)/\(0:Int)<(↑e.5.length:Int))/\ ∀y0,e.5[Int.toNat (0:Int)]? =some y0->X ns ids full atoms (Ex.mk y0.1 y0.2 y0.3 y0.4 y0.5) fun Qg (Zn:List (Int×Int×Int)) q7g w0h=>q4u Zn q7g w0h Qg fun Qf (Uj:List (Int×Int×Int)) j6e v92=>K Qf Uj j6e v92) (Jn1 (fun Qa=>Cnd (Qa=true) (((0:Int)<=(0:Int)/\(0:Int)<(↑e.5.length:Int))/\ ∀y1,e.5[Int.toNat (0:Int)]? =some y1->X ns ids full atoms (Ex.mk y1.1 y1.2 y1.3 y1.4 y1.5) fun Qf (Uj:List (Int×Int×Int)) j6e v92=>Lp5 (fun Qe Jz (j2l:List (Int×Int×Int)) v93 y9i y9j=>Fits e.5->CAt e.5 Jz (fun y6=>X j2l y9i v93 atoms (Ex.mk y6.1 y6.2 y6.3 y6.4 y6.5) fun Uk (y31:List (Int×Int×Int)) u05 u06=>Cnd (e.1=2) (q4v y31 u05 u06 Qe Uk fun Qq (j0c:List (Int×Int×Int)) y8z y80=>InI (Jz+1)/\y9j Qq (Jz+1) j0c y80 y8z) (Wv y31 u05 u06 Qe Uk fun Qq (j0c:List (Int×Int×Int)) y8z y80=>InI (Jz+1)/\y9j Qq (Jz+1) j0c y80 y8z)) (K Qe j2l y9i v93)) Qf (1:Int) Uj v92 j6e) (Ul atoms (Ex.mk e.1 e.2 e.3 e.4 e.5) fun Qd=>Cnd (Qd<0) (K (-1002:Int) ns ids full) (Ju ns ids full Qd (-2:Int) (-1:Int) fun Qg (Zn:List (Int×Int×Int)) q7g w0h=>K Qg Zn q7g w0h))) fun z11=>Cnd (e.1=2) (z11 (decide (e.1=2))) (z11 (decide (e.1=3)))))
def H9:We:=fun ns ids full atoms e K=> ∀X:We,(∀ns ids full atoms e K,q7u Hm Hn Vu Ug Ji X ns ids full atoms e K->X ns ids full atoms e K)->X ns ids full atoms e K
abbrev J1:Type:=List (Rul)->(List (Int)->Int->Bool->Prop)->Prop
def q3n(j2m:j0y)(q3a:H7)(q3b:We)(Wv:Ge):J1:=fun l K=>j2m fun (Qa:List (Int×Int×Int)) q1k j2i=>q3a l fun Qd=>LpH (fun Qg j2j=>Fits l->CAt l Qg.2.2.1 (fun y4=>q3b Qg.2.2.2.1 Qg.2.2.2.2.2.1 Qg.2.2.2.2.1 Qd (Ex.mk y4.2.1 y4.2.2 y4.2.3 y4.2.4 y4.2.5) fun Ja (j0d:List (Int×Int×Int)) y6m y6n=>Wv j0d y6m y6n Qg.1 Ja fun W7 (z74:List (Int×Int×Int)) y69 v09=>Cnd (W7=(-1002:Int)) (Fits z74->K [] (↑z74.length:Int) false) (Cnd (W7=Qg.1) (InI (Qg.2.2.1+1)/\Sml (Qg.2.1++[Qg.2.2.1+1]).length/\InI (Qg.2.2.1+1)/\j2j (W7,Qg.2.1++[Qg.2.2.1+1],Qg.2.2.1+1,z74,v09,y69,())) (InI (Qg.2.2.1+1)/\j2j (W7,Qg.2.1,Qg.2.2.1+1,z74,v09,y69,())))) (Fits Qg.2.2.2.1->K Qg.2.1 (↑Qg.2.2.2.1.length:Int) true)) ((-1:Int),[],(0:Int),Qa,j2i,q1k,())
def J2:J1:=q3n j73 H8 H9 Vu
abbrev z4w:Type:=List (Int)->Int->ByteArray->(Lay_->Int->Prop)->Prop
def j74(Wh:q1q)(Qb:Zg)(Wu:q6h):z4w:=fun list at_ key K=>Wh list at_ fun Qa Q0=>Qb list Q0 (3:Int) fun Qd Z9=>InI (Qd*50)/\Jn2 (fun Qg Zn=>Jn2 (fun Qf Uj=>Lp4 (fun Qe Jz j2l v93 y9i=>Qb list v93 (3:Int) fun Qm q9g=>Cnd (Jz<Qm) (Wu list q9g (3000:Int) fun Ja j0d=>InI (Qe+Ja)/\InI (Qe+Ja+1)/\Wu list j0d (2000:Int) fun W7 z74=>InI (Qe+Ja+1+W7)/\Cnd ((10000:Int)<Qe+Ja+1+W7) (K (Lay_.mk key Qg Qa Qf (Qd*50) j2l) z74) (Qb list z74 (200:Int) fun Uk y31=>Sml (j2l++[Col.mk (Qe+Ja) (Qe+Ja+1+W7) Uk]).length/\InI (Jz+1)/\y9i (Qe+Ja+1+W7) (Jz+1) (j2l++[Col.mk (Qe+Ja) (Qe+Ja+1+W7) Uk]) y31)) (K (Lay_.mk key Qg Qa Qf (Qd*50) j2l) q9g)) (0:Int) (0:Int) [] Uj) fun v9y=>Qb list Zn (2:Int) fun Qe Jz=>Cnd (Qe=1) (Wu list Jz (3000:Int) fun Qm q9g=>v9y Qm q9g) (v9y (0:Int) Jz)) fun w8l=>Qb list Z9 (4:Int) fun Qf Uj=>Cnd (Qf=1) (w8l (ByteArray.mk (Array.mk [100,101,118,105,99,101])) Uj) (w8l (ByteArray.mk (Array.mk [117,115,101,114])) Uj)
def z4x:z4w:=j74 q1r Zc q6i
abbrev z66:Type:=Int->(Bool->Prop)->Prop
def z03:z66:=fun now K=>Cnd ((0:Int)<=now) (K (decide (now<=1099511627776))) (K false)
abbrev Vv:Type:=Envt->ByteArray->(Int->Prop)->Prop
def Vw:Vv:=fun v key K=>Lp1 (fun Qa q1k=>Fits v.5->CAt v.5 Qa (fun y2=>Cnd (y2.1=key) (K Qa) (InI (Qa+1)/\q1k (Qa+1))) (K (-1:Int))) (0:Int)
abbrev q1u:Type:=List (Col)->Int->(List (Int)->Prop)->Prop
def Ra:q1u:=fun l now K=>((0:Int)<=(10000:Int)/\(10000:Int)<=(10000:Int)/\Sml (Int.toNat (10000:Int)))/\Lp2 (fun Qa Q0 q3l=>Fits Q0->CAt Q0 Qa (fun _=>InI (Qa+1)/\q3l (Qa+1) (Q0.set Qa.toNat now)) (Lp2 (fun Qg Zn q7g=>Fits l->CAt l Qg (fun y4=>Lp2 (fun Ja j0d y6m=>At l Qg fun y7=>Cnd (Ja<Min.min y7.2 (10000:Int)) (At j0d Ja fun y9=>At l Qg fun y11=>At j0d Ja fun _=>InI (Ja+1)/\y6m (Ja+1) (j0d.set Ja.toNat (Max.max y9 y11.3))) (InI (Qg+1)/\q7g (Qg+1) j0d)) (Max.max y4.1 (0:Int)) Zn) (K Zn)) (0:Int) Q0)) (0:Int) (List.replicate (Int.toNat (10000:Int)) (0:Int))
abbrev Wk:Type:=List (Bool)->(List (Spn)->Prop)->Prop
def J3:Wk:=fun set_ K=>Lp2 (fun Qa Q0 q3l=>Fits set_->CAt set_ Q0 (fun y2=>Cnd (y2=true) (Cnd ((0:Int)<Q0) (InI (Q0 - 1)/\((0:Int)<=Q0 - 1/\Q0 - 1<(↑set_.length:Int))/\ ∀y4,set_[(Q0 - 1).toNat]? =some y4->Cnd (y4=true) (Fits Qa->InI ((↑Qa.length:Int) - 1)/\InI (Q0+1)/\((0:Int)<=(↑Qa.length:Int) - 1/\(↑Qa.length:Int) - 1<(↑Qa.length:Int))/\ ∀y7,Qa[((↑Qa.length:Int) - 1).toNat]? =some y7->InI (Q0+1)/\q3l (Qa.set ((↑Qa.length:Int) - 1).toNat (Spn.mk y7.1 (Q0+1))) (Q0+1)) (InI (Q0+1)/\Sml (Qa++[Spn.mk Q0 (Q0+1)]).length/\InI (Q0+1)/\q3l (Qa++[Spn.mk Q0 (Q0+1)]) (Q0+1))) (InI (Q0+1)/\Sml (Qa++[Spn.mk Q0 (Q0+1)]).length/\InI (Q0+1)/\q3l (Qa++[Spn.mk Q0 (Q0+1)]) (Q0+1))) (InI (Q0+1)/\q3l Qa (Q0+1))) (K Qa)) [] (0:Int)
abbrev q7v:Type:=List (Int)->Int->(List (Spn)->Prop)->Prop
def z82(Q5:Wk):q7v:=fun until_ now K=>Fits until_->((0:Int)<=(↑until_.length:Int)/\(↑until_.length:Int)<=(↑until_.length:Int)/\Sml (↑until_.length:Int).toNat)/\Lp2 (fun Qd Z9 z6q=>Fits until_->CAt until_ Qd (fun y3=>At Z9 Qd fun _=>InI (Qd+1)/\z6q (Qd+1) (Z9.set Qd.toNat (decide (now<y3)))) (Q5 Z9 fun Qf=>K Qf)) (0:Int) (List.replicate (↑until_.length:Int).toNat false)
def q7w:q7v:=z82 J3
abbrev B3:Type:=List (Spn)->(List (Bool)->Prop)->Prop
def Rb:B3:=fun l K=>((0:Int)<=(10000:Int)/\(10000:Int)<=(10000:Int)/\Sml (Int.toNat (10000:Int)))/\Lp2 (fun Qa Q0 q3l=>Fits l->CAt l Qa (fun y2=>Lp2 (fun Qe Jz w8m=>At l Qa fun y5=>Cnd (Qe<Min.min y5.2 (10000:Int)) (At Jz Qe fun _=>InI (Qe+1)/\w8m (Qe+1) (Jz.set Qe.toNat true)) (InI (Qa+1)/\q3l (Qa+1) Jz)) (Max.max y2.1 (0:Int)) Q0) (K Q0)) (0:Int) (List.replicate (Int.toNat (10000:Int)) false)
abbrev q7x:Type:=List (Spn)->List (Spn)->(List (Spn)->Prop)->Prop
def z83(Jc:B3)(Q5:Wk):q7x:=fun a b K=>Jc a fun Qa=>Jc b fun Qd=>Lp2 (fun Qg Zn q7g=>Fits Zn->CAt Zn Qg (fun y4=>Cnd (y4=true) (At Zn Qg fun _=>InI (Qg+1)/\q7g (Qg+1) (Zn.set Qg.toNat true)) (At Qd Qg fun y6=>At Zn Qg fun _=>InI (Qg+1)/\q7g (Qg+1) (Zn.set Qg.toNat y6))) (Q5 Zn fun Qe=>K Qe)) (0:Int) Qa
def q7y:q7x:=z83 Rb J3
abbrev q7z:Type:=Envt->ByteArray->ByteArray->Int->(List (Spn)->Prop)->Prop
def z84(Zt:Vv)(q07:q7x)(R1:q1u)(q4e:q7v):q7z:=fun v layer but now K=>Zt (Envt.mk (Sett.mk v.1.1 v.1.2 v.1.3) v.2 v.3 v.4 v.5 v.6) layer fun Qa=>Cnd (Qa<0) (K []) (Jn1 (fun Qd=>Lp2 (fun Qg Zn q7g=>Fits v.6->CAt v.6 Zn (fun y4=>Cnd (y4.2=layer) (Cnd (y4.1=but) (InI (Zn+1)/\q7g Qg (Zn+1)) (Cnd (y4.5=3) (InI (Zn+1)/\q7g Qg (Zn+1)) (q07 Qg y4.6 fun Ja=>InI (Zn+1)/\q7g Ja (Zn+1)))) (InI (Zn+1)/\q7g Qg (Zn+1))) (K Qg)) Qd (0:Int)) fun w2t=>At v.5 Qa fun y2=>At v.5 Qa fun y4=>(R1 y4.6 now fun Ja=>q4e Ja now fun W7=>q07 [Spn.mk (0:Int) y2.4] W7 fun Uk=>w2t Uk)/\R1 y4.6 now fun Ja=>(q4e Ja now fun W7=>q07 [Spn.mk (0:Int) y2.4] W7 fun Uk=>w2t Uk)/\q4e Ja now fun W7=>q07 [Spn.mk (0:Int) y2.4] W7 fun Uk=>w2t Uk)
def q70:q7z:=z84 Vw q7y Ra q7w
abbrev q0u:Type:=List (Spn)->List (Spn)->(List (Spn)->Prop)->Prop
def z86(Jc:B3)(Q5:Wk):q0u:=fun a b K=>Jc a fun Qa=>Jc b fun Qd=>Lp2 (fun Qg Zn q7g=>Fits Zn->CAt Zn Qg (fun y4=>Cnd (y4=true) (At Qd Qg fun y6=>At Zn Qg fun _=>InI (Qg+1)/\q7g (Qg+1) (Zn.set Qg.toNat (match decide (y6=true) with|true=>false|false=>true))) (At Zn Qg fun _=>InI (Qg+1)/\q7g (Qg+1) (Zn.set Qg.toNat false))) (Q5 Zn fun Qe=>K Qe)) (0:Int) Qa
def q0v:q0u:=z86 Rb J3
abbrev z04:Type:=Envt->ByteArray->Int->(List (Spn)->Int->Prop)->Prop
def j3g(z7m:z66)(Zt:Vv)(z3s:q7z)(Gx:q0u):z04:=fun v layer now K=>z7m now fun Qa=>Cnd (Qa=true) (Zt (Envt.mk (Sett.mk v.1.1 v.1.2 v.1.3) v.2 v.3 v.4 v.5 v.6) layer fun Qd=>Cnd (Qd<0) (K [] (11:Int)) (z3s (Envt.mk (Sett.mk v.1.1 v.1.2 v.1.3) v.2 v.3 v.4 v.5 v.6) layer (ByteArray.mk (Array.mk [])) now fun Qg=>Gx [Spn.mk (0:Int) (10000:Int)] Qg fun Qf=>K Qf (0:Int))) (K [] (3:Int))
def z05:z04:=j3g z03 Vw q70 q0v
abbrev q71:Type:=List (Spn)->Int->(List (Spn)->Prop)->Prop
def z87(Jc:B3)(Q5:Wk):q71:=fun l n K=>Jc l fun Qa=>Lp3 (fun Qd Z9 j2g y2s=>Fits j2g->CAt j2g Z9 (fun y3=>Cnd (y3=true) (Cnd (Qd<=0) (At j2g Z9 fun _=>InI (Z9+1)/\y2s Qd (Z9+1) (j2g.set Z9.toNat false)) (At j2g Z9 fun y5=>Cnd (y5=true) (InI (Qd - 1)/\InI (Z9+1)/\y2s (Qd - 1) (Z9+1) j2g) (InI (Z9+1)/\y2s Qd (Z9+1) j2g))) (At j2g Z9 fun y5=>Cnd (y5=true) (InI (Qd - 1)/\InI (Z9+1)/\y2s (Qd - 1) (Z9+1) j2g) (InI (Z9+1)/\y2s Qd (Z9+1) j2g))) (Q5 j2g fun Qf=>K Qf)) n (0:Int) Qa
def q72:q71:=z87 Rb J3
abbrev Vx:Type:=ByteArray->(Bool->Prop)->Prop
def Js(s:ByteArray)(K:Bool->Prop):Prop:=s.size<=(9223372036854775807:Nat)/\K (Go.Lib.validD s.data.toList)
abbrev Jp:Type:=ByteArray->(Bool->Prop)->Prop
def z67(Zu:Vx):Jp:=fun s K=>Cnd ((200:Int)<(↑s.size:Int)) (K false) (Zu s fun Qa=>Cnd (Qa=true) (Lp1 (fun Qd q1j=>Cnd (Qd<(↑s.size:Int)) (((0:Int)<=Qd/\Qd<(↑s.size:Int))/\ ∀b2,s[Qd.toNat]? =some b2->Cnd ((↑b2.toNat:Int)<32) (K false) (((0:Int)<=Qd/\Qd<(↑s.size:Int))/\ ∀b4,s[Qd.toNat]? =some b4->Cnd ((↑b4.toNat:Int)=127) (K false) (InI (Qd+1)/\q1j (Qd+1)))) (K true)) (0:Int)) (K false))
def Z2:Jp:=z67 Js
abbrev j01:Type:=ByteArray->(Bool->Prop)->Prop
def z4y:j01:=fun s K=>Lp1 (fun Qa q1k=>Cnd (Qa<(↑s.size:Int)) (((0:Int)<=Qa/\Qa<(↑s.size:Int))/\ ∀b1,s[Qa.toNat]? =some b1->Cnd ((97:Int)<=(↑b1.toNat:Int)) (Cnd ((↑b1.toNat:Int)<=122) (InI (Qa+1)/\q1k (Qa+1)) (Cnd (Qa=0) (K false) (Cnd ((48:Int)<=(↑b1.toNat:Int)) (Cnd ((↑b1.toNat:Int)<=57) (InI (Qa+1)/\q1k (Qa+1)) (Cnd ((↑b1.toNat:Int)=45) (InI (Qa+1)/\q1k (Qa+1)) (Cnd ((↑b1.toNat:Int)=95) (InI (Qa+1)/\q1k (Qa+1)) (K false)))) (Cnd ((↑b1.toNat:Int)=45) (InI (Qa+1)/\q1k (Qa+1)) (Cnd ((↑b1.toNat:Int)=95) (InI (Qa+1)/\q1k (Qa+1)) (K false)))))) (Cnd (Qa=0) (K false) (Cnd ((48:Int)<=(↑b1.toNat:Int)) (Cnd ((↑b1.toNat:Int)<=57) (InI (Qa+1)/\q1k (Qa+1)) (Cnd ((↑b1.toNat:Int)=45) (InI (Qa+1)/\q1k (Qa+1)) (Cnd ((↑b1.toNat:Int)=95) (InI (Qa+1)/\q1k (Qa+1)) (K false)))) (Cnd ((↑b1.toNat:Int)=45) (InI (Qa+1)/\q1k (Qa+1)) (Cnd ((↑b1.toNat:Int)=95) (InI (Qa+1)/\q1k (Qa+1)) (K false)))))) (K (decide ((0:Int)<(↑s.size:Int))))) (0:Int)
abbrev q6j:Type:=(List (ByteArray)->Prop)->Prop
def q1v:q6j:=fun K=>K [ByteArray.mk (Array.mk [97,110,100]),ByteArray.mk (Array.mk [97,114,109,115]),ByteArray.mk (Array.mk [97,116,116,114,105,98,117,116,101]),ByteArray.mk (Array.mk [98,111,111,108]),ByteArray.mk (Array.mk [99,108,97,105,109,115]),ByteArray.mk (Array.mk [99,111,110,116,97,105,110,115]),ByteArray.mk (Array.mk [99,111,111,108]),ByteArray.mk (Array.mk [99,111,111,108,105,110,103]),ByteArray.mk (Array.mk [100,101,102,97,117,108,116]),ByteArray.mk (Array.mk [100,114,97,102,116]),ByteArray.mk (Array.mk [101,110,100,115]),ByteArray.mk (Array.mk [101,120,99,108,117,100,101]),ByteArray.mk (Array.mk [101,120,105,115,116,115]),ByteArray.mk (Array.mk [101,120,112,101,114,105,109,101,110,116]),ByteArray.mk (Array.mk [102,97,108,115,101]),ByteArray.mk (Array.mk [102,108,97,103]),ByteArray.mk (Array.mk [104,111,108,100,111,117,116]),ByteArray.mk (Array.mk [105,110]),ByteArray.mk (Array.mk [105,110,99,108,117,100,101]),ByteArray.mk (Array.mk [105,115]),ByteArray.mk (Array.mk [108,97,121,101,114]),ByteArray.mk (Array.mk [108,105,115,116]),ByteArray.mk (Array.mk [109,101,109,98,101,114]),ByteArray.mk (Array.mk [110,101,101,100,115]),ByteArray.mk (Array.mk [110,111,116]),ByteArray.mk (Array.mk [110,117,109,98,101,114]),ByteArray.mk (Array.mk [111,102,102]),ByteArray.mk (Array.mk [111,110]),ByteArray.mk (Array.mk [111,114]),ByteArray.mk (Array.mk [114,117,108,101]),ByteArray.mk (Array.mk [114,117,110,110,105,110,103]),ByteArray.mk (Array.mk [115,97,108,116]),ByteArray.mk (Array.mk [115,101,103,109,101,110,116]),ByteArray.mk (Array.mk [115,101,114,118,101]),ByteArray.mk (Array.mk [115,101,116,116,105,110,103,115]),ByteArray.mk (Array.mk [115,112,108,105,116]),ByteArray.mk (Array.mk [115,116,97,114,116,115]),ByteArray.mk (Array.mk [115,116,111,112,112,101,100]),ByteArray.mk (Array.mk [116,97,114,103,101,116]),ByteArray.mk (Array.mk [116,101,120,116]),ByteArray.mk (Array.mk [116,111]),ByteArray.mk (Array.mk [116,114,117,101]),ByteArray.mk (Array.mk [117,110,116,105,108]),ByteArray.mk (Array.mk [118,97,114,105,97,116,105,111,110,115]),ByteArray.mk (Array.mk [118,101,114,115,105,111,110]),ByteArray.mk (Array.mk [119,104,101,110])]
abbrev Jk:Type:=ByteArray->(Bool->Prop)->Prop
def w3r(j2n:j01)(q6x:q6j):Jk:=fun s K=>j2n s fun Qa=>Cnd (Qa=true) (Cnd ((32:Int)<(↑s.size:Int)) (K false) (q6x fun Qd=>Lp1 (fun Qg j2j=>Fits Qd->CAt Qd Qg (fun y4=>Cnd (y4=s) (K false) (InI (Qg+1)/\j2j (Qg+1))) (K true)) (0:Int))) (K false)
def Jl:Jk:=w3r z4y q1v
abbrev q1w:Type:=Sett->(Int->Prop)->Prop
def z2f(Qs:Jp)(Qk:Jk):q1w:=fun s K=>Qs s.1 fun Qa=>Cnd (Qa=true) (Cnd (s.3<0) (K (3:Int)) (Cnd ((10000:Int)<s.3) (K (3:Int)) (Qk s.2 fun Qd=>Cnd (Qd=true) (K (0:Int)) (Cnd (s.2=ByteArray.mk (Array.mk [])) (Cnd (s.3=0) (K (0:Int)) (K (6:Int))) (K (6:Int)))))) (K (2:Int))
def q1x:q1w:=z2f Z2 Jl
abbrev q1y:Type:=List (Decl)->(Int->Prop)->Prop
def z2g(Qk:Jk):q1y:=fun l K=>Fits l->Cnd ((30:Int)<(↑l.length:Int)) (K (5:Int)) (Lp1 (fun Qd q1j=>Fits l->CAt l Qd (fun y3=>Qk y3.1 fun Qm=>Cnd (Qm=true) (At l Qd fun y6=>Qk y6.2 fun Uk=>Cnd (Uk=true) (At l Qd fun y9=>Cnd (y9.2=ByteArray.mk (Array.mk [107,101,121])) (K (6:Int)) (At l Qd fun y11=>Cnd (y11.3<1) (K (7:Int)) (At l Qd fun y13=>Cnd ((5:Int)<y13.3) (K (7:Int)) (Cnd ((0:Int)<Qd) (At l Qd fun y15=>InI (Qd - 1)/\((0:Int)<=Qd - 1/\Qd - 1<(↑l.length:Int))/\ ∀y17,l[(Qd - 1).toNat]? =some y17->Cnd (Lk.blt y15.1 y17.1) (K (9:Int)) (At l Qd fun y19=>InI (Qd - 1)/\((0:Int)<=Qd - 1/\Qd - 1<(↑l.length:Int))/\ ∀y21,l[(Qd - 1).toNat]? =some y21->Cnd (y19.1=y21.1) (At l Qd fun y23=>InI (Qd - 1)/\((0:Int)<=Qd - 1/\Qd - 1<(↑l.length:Int))/\ ∀y25,l[(Qd - 1).toNat]? =some y25->Cnd (Lk.blt y25.2 y23.2) (InI (Qd+1)/\q1j (Qd+1)) (K (9:Int))) (InI (Qd+1)/\q1j (Qd+1)))) (InI (Qd+1)/\q1j (Qd+1)))))) (K (6:Int))) (K (6:Int))) (K (0:Int))) (0:Int))
def q1z:q1y:=z2g Jl
abbrev Rd:Type:=List (ByteArray)->(Int->Prop)->Prop
def z4z(Qs:Jp):Rd:=fun l K=>Fits l->Cnd ((40:Int)<(↑l.length:Int)) (K (5:Int)) (Lp1 (fun Qd q1j=>Fits l->CAt l Qd (fun y3=>Cnd (y3=ByteArray.mk (Array.mk [])) (K (2:Int)) (At l Qd fun y5=>Qs y5 fun W7=>Cnd (W7=true) (Cnd ((0:Int)<Qd) (At l Qd fun y8=>InI (Qd - 1)/\((0:Int)<=Qd - 1/\Qd - 1<(↑l.length:Int))/\ ∀y10,l[(Qd - 1).toNat]? =some y10->Cnd (Lk.blt y10 y8) (InI (Qd+1)/\q1j (Qd+1)) (K (9:Int))) (InI (Qd+1)/\q1j (Qd+1))) (K (2:Int)))) (K (0:Int))) (0:Int))
def Re:Rd:=z4z Z2
abbrev j02:Type:=Ex->(Bool->Prop)->Prop
def z40:j02:=fun e K=>Cnd (e.1=0) (Cnd (e.2=ByteArray.mk (Array.mk [])) (Cnd (e.3=ByteArray.mk (Array.mk [])) (Fits e.4->Cnd ((↑e.4.length:Int)=0) (Fits e.5->K (decide ((↑e.5.length:Int)=0))) (K false)) (K false)) (K false)) (K false)
abbrev q73:Type:=Ex->(Bool->Prop)->Prop
def z88(Qv:Wi):q73:=fun e K=>Fits e.5->Fits e.4->Jn2 (fun Qg Zn=>Qv e.1 fun Qf=>Cnd (Qg=true) (Cnd (Zn=true) (Cnd (Qf=true) (Cnd (Qf=true) (K true) (Cnd (e.1=5) (K true) (K (decide (e.3=ByteArray.mk (Array.mk [])))))) (Cnd (e.2=ByteArray.mk (Array.mk [])) (Cnd (Qf=true) (K true) (Cnd (e.1=5) (K true) (K (decide (e.3=ByteArray.mk (Array.mk [])))))) (K false))) (K false)) (K false)) fun w8l=>Cnd (e.1=2) (Fits e.5->w8l (decide ((2:Int)<=(↑e.5.length:Int))) (decide ((↑e.4.length:Int)=0))) (Cnd (e.1=3) (Fits e.5->w8l (decide ((2:Int)<=(↑e.5.length:Int))) (decide ((↑e.4.length:Int)=0))) (Cnd (e.1=4) (Fits e.5->w8l (decide ((↑e.5.length:Int)=1)) (decide ((↑e.4.length:Int)=0))) (Cnd (e.1=8) (Fits e.4->w8l (decide ((↑e.5.length:Int)=0)) (decide ((0:Int)<(↑e.4.length:Int)))) (Qv e.1 fun Qf=>Cnd (Qf=true) (Cnd (e.1=6) (w8l (decide ((↑e.5.length:Int)=0)) (decide ((↑e.4.length:Int)=0))) (Fits e.4->w8l (decide ((↑e.5.length:Int)=0)) (decide ((↑e.4.length:Int)=1)))) (w8l (decide ((↑e.5.length:Int)=0)) (decide ((↑e.4.length:Int)=0)))))))
def q74:q73:=z88 Jd
abbrev z68:Type:=Val->(Bool->Prop)->Prop
def q3o:z68:=fun v K=>Cnd (v.1=1) (Cnd (v.1=3) (Cnd (v.1=5) (K true) (Fits v.4->K (decide ((↑v.4.length:Int)=0)))) (Cnd (v.1=4) (Cnd (v.1=5) (K true) (Fits v.4->K (decide ((↑v.4.length:Int)=0)))) (Cnd (v.3=ByteArray.mk (Array.mk [])) (Cnd (v.1=5) (K true) (Fits v.4->K (decide ((↑v.4.length:Int)=0)))) (K false)))) (Cnd (v.1=3) (Cnd (v.1=2) (Cnd (v.1=5) (K true) (Fits v.4->K (decide ((↑v.4.length:Int)=0)))) (Cnd (v.2=0) (Cnd (v.1=5) (K true) (Fits v.4->K (decide ((↑v.4.length:Int)=0)))) (K false))) (Cnd (v.1=2) (Cnd (v.1=4) (Cnd (v.1=5) (K true) (Fits v.4->K (decide ((↑v.4.length:Int)=0)))) (Cnd (v.3=ByteArray.mk (Array.mk [])) (Cnd (v.1=5) (K true) (Fits v.4->K (decide ((↑v.4.length:Int)=0)))) (K false))) (Cnd (v.2=0) (Cnd (v.1=4) (Cnd (v.1=5) (K true) (Fits v.4->K (decide ((↑v.4.length:Int)=0)))) (Cnd (v.3=ByteArray.mk (Array.mk [])) (Cnd (v.1=5) (K true) (Fits v.4->K (decide ((↑v.4.length:Int)=0)))) (K false))) (K false))))
abbrev q0j:Type:=ByteArray->(Int->Int->Prop)->Prop
def Jy:q0j:=fun s K=>Jn1 (fun Qa=>Lp1 (fun Qd q1j=>Cnd (Qd<(↑Qa.size:Int)) (((0:Int)<=Qd/\Qd<(↑Qa.size:Int))/\ ∀b2,Qa[Qd.toNat]? =some b2->Cnd ((↑b2.toNat:Int)<48) (K (0:Int) (1:Int)) (((0:Int)<=Qd/\Qd<(↑Qa.size:Int))/\ ∀b4,Qa[Qd.toNat]? =some b4->Cnd ((57:Int)<(↑b4.toNat:Int)) (K (0:Int) (1:Int)) (InI (Qd+1)/\q1j (Qd+1)))) (Cnd (Qa=ByteArray.mk (Array.mk [])) (K (0:Int) (1:Int)) (((0:Int)<=(0:Int)/\(0:Int)<(↑Qa.size:Int))/\ ∀b2,Qa[Int.toNat (0:Int)]? =some b2->Cnd ((↑b2.toNat:Int)=48) (Cnd (s=ByteArray.mk (Array.mk [48])) (Cnd ((13:Int)<(↑Qa.size:Int)) (K (0:Int) (3:Int)) (Lp2 (fun Qe Jz w8m=>Cnd (Jz<(↑Qa.size:Int)) (InI ((10:Int)*Qe)/\((0:Int)<=Jz/\Jz<(↑Qa.size:Int))/\ ∀b5,Qa[Jz.toNat]? =some b5->InI (Go.IntKind.u8.wrap ((↑b5.toNat:Int) - 48))/\InI ((10:Int)*Qe+Go.IntKind.u8.wrap ((↑b5.toNat:Int) - 48))/\InI (Jz+1)/\w8m ((10:Int)*Qe+Go.IntKind.u8.wrap ((↑b5.toNat:Int) - 48)) (Jz+1)) (Cnd ((1099511627776:Int)<Qe) (K (0:Int) (3:Int)) (Cnd ((↑Qa.size:Int)<(↑s.size:Int)) (InI ((0:Int) - Qe)/\K ((0:Int) - Qe) (0:Int)) (K Qe (0:Int))))) (0:Int) (0:Int))) (K (0:Int) (1:Int))) (Cnd ((13:Int)<(↑Qa.size:Int)) (K (0:Int) (3:Int)) (Lp2 (fun Qe Jz w8m=>Cnd (Jz<(↑Qa.size:Int)) (InI ((10:Int)*Qe)/\((0:Int)<=Jz/\Jz<(↑Qa.size:Int))/\ ∀b5,Qa[Jz.toNat]? =some b5->InI (Go.IntKind.u8.wrap ((↑b5.toNat:Int) - 48))/\InI ((10:Int)*Qe+Go.IntKind.u8.wrap ((↑b5.toNat:Int) - 48))/\InI (Jz+1)/\w8m ((10:Int)*Qe+Go.IntKind.u8.wrap ((↑b5.toNat:Int) - 48)) (Jz+1)) (Cnd ((1099511627776:Int)<Qe) (K (0:Int) (3:Int)) (Cnd ((↑Qa.size:Int)<(↑s.size:Int)) (InI ((0:Int) - Qe)/\K ((0:Int) - Qe) (0:Int)) (K Qe (0:Int))))) (0:Int) (0:Int)))))) (0:Int)) fun z11=>Cnd ((0:Int)<(↑s.size:Int)) (((0:Int)<=(0:Int)/\(0:Int)<(↑s.size:Int))/\ ∀b1,s[Int.toNat (0:Int)]? =some b1->Cnd ((↑b1.toNat:Int)=45) (((0:Int)<=(1:Int)/\(1:Int)<=(↑s.size:Int)/\(↑s.size:Int)<=(↑s.size:Int))/\z11 (s.extract (Int.toNat (1:Int)) (↑s.size:Int).toNat)) (z11 s)) (z11 s)
abbrev q3p:Type:=ByteArray->(A3->Bool->Prop)->Prop
def z69(Hj:q0j):q3p:=fun s K=>LpH (fun (Qa:Int×Int×Int×Int×Int×Int×Int×Int×Unit) q1k=>Cnd (Qa.2.1<3) (Lp1 (fun Qd q1j=>Cnd (Qd<(↑s.size:Int)) (((0:Int)<=Qd/\Qd<(↑s.size:Int))/\ ∀b2,s[Qd.toNat]? =some b2->Cnd ((↑b2.toNat:Int)=46) (((0:Int)<=Qa.1/\Qa.1<=Qd/\Qd<=(↑s.size:Int))/\Hj (s.extract Qa.1.toNat Qd.toNat) fun Qe Jz=>Cnd (Jz=0) (Cnd (Qe<0) (K ((0:Int),(0:Int),(0:Int)) false) (Cnd ((999999:Int)<Qe) (K ((0:Int),(0:Int),(0:Int)) false) (Cnd (decide (Qa.2.1<2)=decide (Qd<(↑s.size:Int))) (((0:Int)<=Qa.2.1/\Qa.2.1<(↑(3:Nat):Int))/\((True/\(Qa.2.1=(↑(nat_lit 0):Int)->InI (Qd+1)/\InI (Qa.2.1+1)/\q1k (Qd+1,Qa.2.1+1,Qe,Qa.2.2.2.1,Qa.2.2.2.2.1,Qa.2.2.2.2.2.1,Qa.2.2.2.2.2.2.1,Qa.2.2.2.2.2.2.2.1,())))/\(Qa.2.1=(↑(nat_lit 1):Int)->InI (Qd+1)/\InI (Qa.2.1+1)/\q1k (Qd+1,Qa.2.1+1,Qa.2.2.1,Qe,Qa.2.2.2.2.1,Qa.2.2.2.2.2.1,Qa.2.2.2.2.2.2.1,Qa.2.2.2.2.2.2.2.1,())))/\(Qa.2.1=(↑(nat_lit 2):Int)->InI (Qd+1)/\InI (Qa.2.1+1)/\q1k (Qd+1,Qa.2.1+1,Qa.2.2.1,Qa.2.2.2.1,Qe,Qa.2.2.2.2.2.1,Qa.2.2.2.2.2.2.1,Qa.2.2.2.2.2.2.2.1,()))) (K ((0:Int),(0:Int),(0:Int)) false)))) (K ((0:Int),(0:Int),(0:Int)) false)) (InI (Qd+1)/\q1j (Qd+1))) (((0:Int)<=Qa.1/\Qa.1<=Qd/\Qd<=(↑s.size:Int))/\Hj (s.extract Qa.1.toNat Qd.toNat) fun Qg Zn=>Cnd (Zn=0) (Cnd (Qg<0) (K ((0:Int),(0:Int),(0:Int)) false) (Cnd ((999999:Int)<Qg) (K ((0:Int),(0:Int),(0:Int)) false) (Cnd (decide (Qa.2.1<2)=decide (Qd<(↑s.size:Int))) (((0:Int)<=Qa.2.1/\Qa.2.1<(↑(3:Nat):Int))/\((True/\(Qa.2.1=(↑(nat_lit 0):Int)->InI (Qd+1)/\InI (Qa.2.1+1)/\q1k (Qd+1,Qa.2.1+1,Qg,Qa.2.2.2.1,Qa.2.2.2.2.1,Qa.2.2.2.2.2.1,Qa.2.2.2.2.2.2.1,Qa.2.2.2.2.2.2.2.1,())))/\(Qa.2.1=(↑(nat_lit 1):Int)->InI (Qd+1)/\InI (Qa.2.1+1)/\q1k (Qd+1,Qa.2.1+1,Qa.2.2.1,Qg,Qa.2.2.2.2.1,Qa.2.2.2.2.2.1,Qa.2.2.2.2.2.2.1,Qa.2.2.2.2.2.2.2.1,())))/\(Qa.2.1=(↑(nat_lit 2):Int)->InI (Qd+1)/\InI (Qa.2.1+1)/\q1k (Qd+1,Qa.2.1+1,Qa.2.2.1,Qa.2.2.2.1,Qg,Qa.2.2.2.2.2.1,Qa.2.2.2.2.2.2.1,Qa.2.2.2.2.2.2.2.1,()))) (K ((0:Int),(0:Int),(0:Int)) false)))) (K ((0:Int),(0:Int),(0:Int)) false))) Qa.1) (K (Qa.2.2.1,Qa.2.2.2.1,Qa.2.2.2.2.1) true)) ((0:Int),(0:Int),(0:Int),(0:Int),(0:Int),(0:Int),(0:Int),(0:Int),())
def R9:q3p:=z69 Jy
abbrev z41:Type:=List (ByteArray)->(Int->Prop)->Prop
def j03(Qs:Jp):z41:=fun l K=>Fits l->Cnd ((20:Int)<(↑l.length:Int)) (K (5:Int)) (Lp1 (fun Qd q1j=>Fits l->CAt l Qd (fun y3=>Qs y3 fun Qm=>Cnd (Qm=true) (InI (Qd+1)/\q1j (Qd+1)) (K (2:Int))) (Lp1 (fun Qf j0e=>Fits l->CAt l Qf (fun y5=>InI (Qf - 1)/\((0:Int)<=Qf - 1/\Qf - 1<(↑l.length:Int))/\ ∀y7,l[(Qf - 1).toNat]? =some y7->Cnd (Lk.blt y7 y5) (InI (Qf+1)/\j0e (Qf+1)) (K (9:Int))) (K (0:Int))) (1:Int))) (0:Int))
def q75:z41:=j03 Z2
abbrev Ba:Type:=Val->(Int->Prop)->Prop
def z7a(z7n:z68)(Qs:Jp)(Hr:q3p)(j2o:z41):Ba:=fun v K=>Cnd (v.1<1) (K (7:Int)) (Cnd ((5:Int)<v.1) (K (7:Int)) (z7n v fun Qa=>Cnd (Qa=true) (Cnd (v.1=1) (Cnd (v.2=0) (K (0:Int)) (Cnd (v.2=1) (K (0:Int)) (K (3:Int)))) (Cnd (v.1=2) (Cnd (v.2<(-1099511627776:Int)) (K (3:Int)) (Cnd ((1099511627776:Int)<v.2) (K (3:Int)) (K (0:Int)))) (Cnd (v.1=3) (Qs v.3 fun Qd=>Cnd (Qd=true) (K (0:Int)) (K (2:Int))) (Cnd (v.1=4) (Hr v.3 fun (_:Int×Int×Int) Z9=>Cnd (Z9=true) (K (0:Int)) (K (1:Int))) (Cnd (v.1=5) (j2o v.4 fun Qd=>K Qd) (K (0:Int))))))) (K (15:Int))))
def Ux:Ba:=z7a q3o Z2 R9 q75
abbrev z42:Type:=Ex->(Int->Prop)->Prop
def j75(z3t:q73)(Qv:Wi)(Qk:Jk)(Zw:Ba):z42:=fun e K=>Cnd (e.1<1) (K (7:Int)) (Cnd ((15:Int)<e.1) (K (7:Int)) (z3t (Ex.mk e.1 e.2 e.3 e.4 e.5) fun Qa=>Cnd (Qa=true) (Fits e.5->Cnd ((12:Int)<(↑e.5.length:Int)) (K (5:Int)) (Fits e.4->Cnd ((20:Int)<(↑e.4.length:Int)) (K (5:Int)) (Lp1 (fun Qf j0e=>Fits e.5->CAt e.5 Qf (fun y5=>Cnd (y5.1=e.1) (Cnd (e.1=4) (InI (Qf+1)/\j0e (Qf+1)) (K (15:Int))) (InI (Qf+1)/\j0e (Qf+1))) (Qv e.1 fun Qm=>Cnd (Qm=true) (Qk e.2 fun Ja=>Cnd (Ja=true) (Qv e.1 fun W7=>Cnd (W7=true) (Qk e.3 fun Uk=>Cnd (Uk=true) (Lp1 (fun Qq y81=>Fits e.4->CAt e.4 Qq (fun y11=>Zw y11 fun Q9=>Cnd (Q9=0) (InI (Qq+1)/\y81 (Qq+1)) (K Q9)) (Cnd (e.1=9) (((0:Int)<=(0:Int)/\(0:Int)<(↑e.4.length:Int))/\ ∀y11,e.4[Int.toNat (0:Int)]? =some y11->Cnd (y11.1=3) (K (0:Int)) (K (8:Int))) (Cnd (e.1=10) (((0:Int)<=(0:Int)/\(0:Int)<(↑e.4.length:Int))/\ ∀y11,e.4[Int.toNat (0:Int)]? =some y11->Cnd (y11.1=3) (K (0:Int)) (K (8:Int))) (Cnd (e.1=11) (((0:Int)<=(0:Int)/\(0:Int)<(↑e.4.length:Int))/\ ∀y11,e.4[Int.toNat (0:Int)]? =some y11->Cnd (y11.1=3) (K (0:Int)) (K (8:Int))) (K (0:Int)))))) (0:Int)) (K (6:Int))) (Cnd (e.1=5) (Qk e.3 fun Uk=>Cnd (Uk=true) (Lp1 (fun Qq y81=>Fits e.4->CAt e.4 Qq (fun y11=>Zw y11 fun Q9=>Cnd (Q9=0) (InI (Qq+1)/\y81 (Qq+1)) (K Q9)) (Cnd (e.1=9) (((0:Int)<=(0:Int)/\(0:Int)<(↑e.4.length:Int))/\ ∀y11,e.4[Int.toNat (0:Int)]? =some y11->Cnd (y11.1=3) (K (0:Int)) (K (8:Int))) (Cnd (e.1=10) (((0:Int)<=(0:Int)/\(0:Int)<(↑e.4.length:Int))/\ ∀y11,e.4[Int.toNat (0:Int)]? =some y11->Cnd (y11.1=3) (K (0:Int)) (K (8:Int))) (Cnd (e.1=11) (((0:Int)<=(0:Int)/\(0:Int)<(↑e.4.length:Int))/\ ∀y11,e.4[Int.toNat (0:Int)]? =some y11->Cnd (y11.1=3) (K (0:Int)) (K (8:Int))) (K (0:Int)))))) (0:Int)) (K (6:Int))) (Lp1 (fun Uk y82=>Fits e.4->CAt e.4 Uk (fun y10=>Zw y10 fun Hk=>Cnd (Hk=0) (InI (Uk+1)/\y82 (Uk+1)) (K Hk)) (Cnd (e.1=9) (((0:Int)<=(0:Int)/\(0:Int)<(↑e.4.length:Int))/\ ∀y10,e.4[Int.toNat (0:Int)]? =some y10->Cnd (y10.1=3) (K (0:Int)) (K (8:Int))) (Cnd (e.1=10) (((0:Int)<=(0:Int)/\(0:Int)<(↑e.4.length:Int))/\ ∀y10,e.4[Int.toNat (0:Int)]? =some y10->Cnd (y10.1=3) (K (0:Int)) (K (8:Int))) (Cnd (e.1=11) (((0:Int)<=(0:Int)/\(0:Int)<(↑e.4.length:Int))/\ ∀y10,e.4[Int.toNat (0:Int)]? =some y10->Cnd (y10.1=3) (K (0:Int)) (K (8:Int))) (K (0:Int)))))) (0:Int)))) (K (6:Int))) (Qv e.1 fun Ja=>Cnd (Ja=true) (Qk e.3 fun W7=>Cnd (W7=true) (Lp1 (fun Uk y82=>Fits e.4->CAt e.4 Uk (fun y10=>Zw y10 fun Hk=>Cnd (Hk=0) (InI (Uk+1)/\y82 (Uk+1)) (K Hk)) (Cnd (e.1=9) (((0:Int)<=(0:Int)/\(0:Int)<(↑e.4.length:Int))/\ ∀y10,e.4[Int.toNat (0:Int)]? =some y10->Cnd (y10.1=3) (K (0:Int)) (K (8:Int))) (Cnd (e.1=10) (((0:Int)<=(0:Int)/\(0:Int)<(↑e.4.length:Int))/\ ∀y10,e.4[Int.toNat (0:Int)]? =some y10->Cnd (y10.1=3) (K (0:Int)) (K (8:Int))) (Cnd (e.1=11) (((0:Int)<=(0:Int)/\(0:Int)<(↑e.4.length:Int))/\ ∀y10,e.4[Int.toNat (0:Int)]? =some y10->Cnd (y10.1=3) (K (0:Int)) (K (8:Int))) (K (0:Int)))))) (0:Int)) (K (6:Int))) (Cnd (e.1=5) (Qk e.3 fun W7=>Cnd (W7=true) (Lp1 (fun Uk y82=>Fits e.4->CAt e.4 Uk (fun y10=>Zw y10 fun Hk=>Cnd (Hk=0) (InI (Uk+1)/\y82 (Uk+1)) (K Hk)) (Cnd (e.1=9) (((0:Int)<=(0:Int)/\(0:Int)<(↑e.4.length:Int))/\ ∀y10,e.4[Int.toNat (0:Int)]? =some y10->Cnd (y10.1=3) (K (0:Int)) (K (8:Int))) (Cnd (e.1=10) (((0:Int)<=(0:Int)/\(0:Int)<(↑e.4.length:Int))/\ ∀y10,e.4[Int.toNat (0:Int)]? =some y10->Cnd (y10.1=3) (K (0:Int)) (K (8:Int))) (Cnd (e.1=11) (((0:Int)<=(0:Int)/\(0:Int)<(↑e.4.length:Int))/\ ∀y10,e.4[Int.toNat (0:Int)]? =some y10->Cnd (y10.1=3) (K (0:Int)) (K (8:Int))) (K (0:Int)))))) (0:Int)) (K (6:Int))) (Lp1 (fun W7 y6o=>Fits e.4->CAt e.4 W7 (fun y9=>Zw y9 fun Wm=>Cnd (Wm=0) (InI (W7+1)/\y6o (W7+1)) (K Wm)) (Cnd (e.1=9) (((0:Int)<=(0:Int)/\(0:Int)<(↑e.4.length:Int))/\ ∀y9,e.4[Int.toNat (0:Int)]? =some y9->Cnd (y9.1=3) (K (0:Int)) (K (8:Int))) (Cnd (e.1=10) (((0:Int)<=(0:Int)/\(0:Int)<(↑e.4.length:Int))/\ ∀y9,e.4[Int.toNat (0:Int)]? =some y9->Cnd (y9.1=3) (K (0:Int)) (K (8:Int))) (Cnd (e.1=11) (((0:Int)<=(0:Int)/\(0:Int)<(↑e.4.length:Int))/\ ∀y9,e.4[Int.toNat (0:Int)]? =some y9->Cnd (y9.1=3) (K (0:Int)) (K (8:Int))) (K (0:Int)))))) (0:Int)))))) (0:Int)))) (K (15:Int))))
def z06:z42:=j75 q74 Jd Jl Ux
abbrev q46:Type:=Ex->Int->Int->(Int->Int->Prop)->Prop
def j76(j2p:z42)(X:q46):q46:=fun e depth n K=>Cnd ((60:Int)<=n) (K (5:Int) n) (InI (n+1)/\Cnd ((10:Int)<depth) (K (18:Int) (n+1)) (j2p (Ex.mk e.1 e.2 e.3 e.4 e.5) fun Qa=>Cnd (Qa=0) (Lp2 (fun Qd Z9 z6q=>Fits e.5->CAt e.5 Qd (fun y3=>InI (depth+1)/\X (Ex.mk y3.1 y3.2 y3.3 y3.4 y3.5) (depth+1) Z9 fun Qm q9g=>Cnd (Qm=0) (InI (Qd+1)/\z6q (Qd+1) q9g) (K Qm q9g)) (K (0:Int) Z9)) (0:Int) (n+1)) (K Qa (n+1))))
def z43:q46:=fun e depth n K=> ∀X:q46,(∀e depth n K,j76 z06 X e depth n K->X e depth n K)->X e depth n K
abbrev q10:Type:=Ex->(Int->Prop)->Prop
def j77(j2q:q46):q10:=fun e K=>j2q (Ex.mk e.1 e.2 e.3 e.4 e.5) (1:Int) (0:Int) fun Qa _=>K Qa
def q11:q10:=j77 z43
abbrev q47:Type:=Seg->(Int->Prop)->Prop
def z44(Qk:Jk)(W8:Rd)(j2r:j02)(V9:q10):q47:=fun g K=>Qk g.1 fun Qa=>Cnd (Qa=true) (Qk g.2 fun Qd=>Cnd (Qd=true) (W8 g.3 fun Qg=>Cnd (Qg=0) (W8 g.4 fun Qf=>Cnd (Qf=0) (j2r (Ex.mk g.5.1 g.5.2 g.5.3 g.5.4 g.5.5) fun Qe=>Cnd (Qe=true) (K (0:Int)) (V9 (Ex.mk g.5.1 g.5.2 g.5.3 g.5.4 g.5.5) fun Qm=>K Qm)) (K Qf)) (K Qg)) (K (6:Int))) (K (6:Int))
def q48:q47:=z44 Jl Re z40 q11
abbrev q12:Type:=List (Seg)->(Int->Prop)->Prop
def z2h(q9z:q47):q12:=fun l K=>Fits l->Cnd ((20:Int)<(↑l.length:Int)) (K (5:Int)) (Lp1 (fun Qd q1j=>Fits l->CAt l Qd (fun y3=>q9z (Seg.mk y3.1 y3.2 y3.3 y3.4 (Ex.mk y3.5.1 y3.5.2 y3.5.3 y3.5.4 y3.5.5)) fun Qm=>Cnd (Qm=0) (Cnd ((0:Int)<Qd) (At l Qd fun y6=>InI (Qd - 1)/\((0:Int)<=Qd - 1/\Qd - 1<(↑l.length:Int))/\ ∀y8,l[(Qd - 1).toNat]? =some y8->Cnd (Lk.blt y8.1 y6.1) (InI (Qd+1)/\q1j (Qd+1)) (K (9:Int))) (InI (Qd+1)/\q1j (Qd+1))) (K Qm)) (K (0:Int))) (0:Int))
def q13:q12:=z2h q48
abbrev Rf:Type:=Flg->(Int->Prop)->Prop
def q76(Zw:Ba):Rf:=fun f K=>Fits f.3->Cnd ((8:Int)<(↑f.3.length:Int)) (K (5:Int)) (Cnd ((↑f.3.length:Int)=0) (K (3:Int)) (Lp1 (fun Qd q1j=>CAt f.3 Qd (fun y2=>Zw y2 fun Qe=>Cnd (Qe=0) (At f.3 Qd fun y5=>Cnd (y5.1=f.2) (InI (Qd+1)/\q1j (Qd+1)) (K (8:Int))) (K Qe)) (Cnd (f.5<1) (K (3:Int)) (Cnd ((↑f.3.length:Int)<f.5) (K (3:Int)) (K (0:Int))))) (0:Int)))
def Rg:Rf:=q76 Ux
abbrev Vy:Type:=List (Prq)->(Int->Prop)->Prop
def q14(Qk:Jk):Vy:=fun l K=>Fits l->Cnd ((4:Int)<(↑l.length:Int)) (K (5:Int)) (Lp1 (fun Qd q1j=>Fits l->CAt l Qd (fun y3=>Qk y3.1 fun Qm=>Cnd (Qm=true) (Cnd ((0:Int)<Qd) (At l Qd fun y6=>InI (Qd - 1)/\((0:Int)<=Qd - 1/\Qd - 1<(↑l.length:Int))/\ ∀y8,l[(Qd - 1).toNat]? =some y8->Cnd (Lk.blt y8.1 y6.1) (At l Qd fun y10=>Cnd (y10.2<1) (K (3:Int)) (At l Qd fun y12=>Cnd ((8:Int)<y12.2) (K (3:Int)) (InI (Qd+1)/\q1j (Qd+1)))) (K (9:Int))) (At l Qd fun y6=>Cnd (y6.2<1) (K (3:Int)) (At l Qd fun y8=>Cnd ((8:Int)<y8.2) (K (3:Int)) (InI (Qd+1)/\q1j (Qd+1))))) (K (6:Int))) (K (0:Int))) (0:Int))
def Vz:Vy:=q14 Jl
abbrev q49:Type:=List (Tgt)->Int->(Int->Prop)->Prop
def z45(Qk:Jk)(W8:Rd):q49:=fun l n K=>Fits l->Cnd ((8:Int)<(↑l.length:Int)) (K (5:Int)) (Lp1 (fun Qd q1j=>Fits l->CAt l Qd (fun y3=>Qk y3.1 fun Qm=>Cnd (Qm=true) (At l Qd fun y6=>Cnd (y6.2<1) (K (3:Int)) (At l Qd fun y8=>Cnd (n<y8.2) (K (3:Int)) (At l Qd fun y10=>Fits y10.3->Cnd ((↑y10.3.length:Int)=0) (K (3:Int)) (At l Qd fun y13=>W8 y13.3 fun j2s=>Cnd (j2s=0) (InI (Qd+1)/\q1j (Qd+1)) (K j2s))))) (K (6:Int))) (K (0:Int))) (0:Int))
def q5a:q49:=z45 Jl Re
abbrev q7d:Type:=List (Rng)->Int->(Int->Prop)->Prop
def q3q:q7d:=fun l variations K=>Fits l->Cnd ((16:Int)<(↑l.length:Int)) (K (5:Int)) (Lp2 (fun Qd Z9 z6q=>Fits l->CAt l Z9 (fun y3=>Cnd (y3.3<1) (K (3:Int)) (At l Z9 fun y5=>Cnd (variations<y5.3) (K (3:Int)) (At l Z9 fun y7=>Cnd (y7.1=Qd) (At l Z9 fun y9=>Cnd (y9.2<=Qd) (K (9:Int)) (Cnd ((0:Int)<Z9) (At l Z9 fun y11=>InI (Z9 - 1)/\((0:Int)<=Z9 - 1/\Z9 - 1<(↑l.length:Int))/\ ∀y13,l[(Z9 - 1).toNat]? =some y13->Cnd (y11.3=y13.3) (K (9:Int)) (At l Z9 fun y15=>InI (Z9+1)/\z6q y15.2 (Z9+1))) (At l Z9 fun y11=>InI (Z9+1)/\z6q y11.2 (Z9+1)))) (K (9:Int))))) (Cnd (Qd=10000) (K (0:Int)) (K (3:Int)))) (0:Int) (0:Int))
abbrev q3r:Type:=Srv->Int->(Int->Prop)->Prop
def j3h(Qk:Jk)(Qs:Jp)(Bl:q7d):q3r:=fun v variations K=>Cnd (v.1=0) (Qk v.2 fun Qa=>Cnd (Qa=true) (Qk v.3 fun Qd=>Cnd (Qd=true) (Qs v.4 fun Qg=>Cnd (Qg=true) (Bl v.5 variations fun Qf=>K Qf) (K (2:Int))) (K (6:Int))) (K (6:Int))) (Cnd (v.1<1) (K (3:Int)) (Cnd (variations<v.1) (K (3:Int)) (Cnd (v.2=ByteArray.mk (Array.mk [])) (Cnd (v.3=ByteArray.mk (Array.mk [])) (Cnd (v.4=ByteArray.mk (Array.mk [])) (Fits v.5->Cnd ((0:Int)<(↑v.5.length:Int)) (K (15:Int)) (K (0:Int))) (K (15:Int))) (K (15:Int))) (K (15:Int)))))
def q3s:q3r:=j3h Jl Z2 q3q
abbrev z07:Type:=List (Rul)->Int->(Int->Prop)->Prop
def j3i(Qk:Jk)(V9:q10)(Bm:q3r):z07:=fun l n K=>Fits l->Cnd ((12:Int)<(↑l.length:Int)) (K (5:Int)) (Lp1 (fun Qd q1j=>Fits l->CAt l Qd (fun y3=>Qk y3.1 fun Qm=>Cnd (Qm=true) (Lp1 (fun Ja y6p=>Cnd (Ja<Qd) (At l Ja fun y7=>At l Qd fun y9=>Cnd (y7.1=y9.1) (K (10:Int)) (InI (Ja+1)/\y6p (Ja+1))) (At l Qd fun y7=>V9 (Ex.mk y7.2.1 y7.2.2 y7.2.3 y7.2.4 y7.2.5) fun Qq=>Cnd (Qq=0) (At l Qd fun y10=>Bm (Srv.mk y10.3.1 y10.3.2 y10.3.3 y10.3.4 y10.3.5) n fun Hk=>Cnd (Hk=0) (InI (Qd+1)/\q1j (Qd+1)) (K Hk)) (K Qq))) (0:Int)) (K (6:Int))) (K (0:Int))) (0:Int))
def z08:z07:=j3i Jl q11 q3s
abbrev z47:Type:=Flg->(Int->Prop)->Prop
def j78(Qk:Jk)(q3c:Rf)(Hy:Vy)(q90:q49)(z7o:z07)(Bm:q3r):z47:=fun f K=>Fits f.3->Qk f.1 fun Qd=>Cnd (Qd=true) (Cnd (f.2<1) (K (7:Int)) (Cnd ((5:Int)<f.2) (K (7:Int)) (q3c (Flg.mk f.1 f.2 f.3 f.4 f.5 f.6 f.7 f.8 (Srv.mk f.9.1 f.9.2 f.9.3 f.9.4 f.9.5)) fun Qg=>Cnd (Qg=0) (Hy f.6 fun Qf=>Cnd (Qf=0) (q90 f.7 (↑f.3.length:Int) fun Qe=>Cnd (Qe=0) (z7o f.8 (↑f.3.length:Int) fun Qm=>Cnd (Qm=0) (Bm (Srv.mk f.9.1 f.9.2 f.9.3 f.9.4 f.9.5) (↑f.3.length:Int) fun Ja=>K Ja) (K Qm)) (K Qe)) (K Qf)) (K Qg)))) (K (6:Int))
def z48:z47:=j78 Jl Rg Vz q5a z08 q3s
abbrev z09:Type:=List (Flg)->(Int->Prop)->Prop
def j3j(j2t:z47):z09:=fun l K=>Fits l->Cnd ((30:Int)<(↑l.length:Int)) (K (5:Int)) (Lp1 (fun Qd q1j=>Fits l->CAt l Qd (fun y3=>j2t (Flg.mk y3.1 y3.2 y3.3 y3.4 y3.5 y3.6 y3.7 y3.8 (Srv.mk y3.9.1 y3.9.2 y3.9.3 y3.9.4 y3.9.5)) fun Qm=>Cnd (Qm=0) (Cnd ((0:Int)<Qd) (At l Qd fun y6=>InI (Qd - 1)/\((0:Int)<=Qd - 1/\Qd - 1<(↑l.length:Int))/\ ∀y8,l[(Qd - 1).toNat]? =some y8->Cnd (Lk.blt y8.1 y6.1) (InI (Qd+1)/\q1j (Qd+1)) (K (9:Int))) (InI (Qd+1)/\q1j (Qd+1))) (K Qm)) (K (0:Int))) (0:Int))
def z1a:z09:=j3j z48
abbrev z1b:Type:=Lay_->(Int->Prop)->Prop
def j3k(Qk:Jk)(Qs:Jp):z1b:=fun l K=>Qk l.1 fun Qa=>Cnd (Qa=true) (Qk l.2 fun Qd=>Cnd (Qd=true) (Qs l.3 fun Qg=>Cnd (Qg=true) (Cnd (l.4<0) (K (3:Int)) (Cnd ((10000:Int)<l.4) (K (3:Int)) (Cnd (l.5<0) (K (3:Int)) (Cnd ((1099511627776:Int)<l.5) (K (3:Int)) (Fits l.6->Cnd ((32:Int)<(↑l.6.length:Int)) (K (5:Int)) (Lp1 (fun Qe w5p=>Fits l.6->CAt l.6 Qe (fun y6=>Cnd (y6.1<0) (K (3:Int)) (Cnd (y6.2<=y6.1) (K (3:Int)) (Cnd ((10000:Int)<y6.2) (K (3:Int)) (Cnd (y6.3<0) (K (3:Int)) (Cnd ((1099511627776:Int)<y6.3) (K (3:Int)) (Cnd ((0:Int)<Qe) (InI (Qe - 1)/\((0:Int)<=Qe - 1/\Qe - 1<(↑l.6.length:Int))/\ ∀y8,l.6[(Qe - 1).toNat]? =some y8->Cnd (y6.1<y8.2) (K (9:Int)) (InI (Qe+1)/\w5p (Qe+1))) (InI (Qe+1)/\w5p (Qe+1)))))))) (K (0:Int))) (0:Int))))))) (K (2:Int))) (K (6:Int))) (K (6:Int))
def z1c:z1b:=j3k Jl Z2
abbrev q77:Type:=List (Lay_)->(Int->Prop)->Prop
def z89(z7p:z1b):q77:=fun l K=>Fits l->Cnd ((6:Int)<(↑l.length:Int)) (K (5:Int)) (Lp1 (fun Qd q1j=>Fits l->CAt l Qd (fun y3=>z7p y3 fun Qm=>Cnd (Qm=0) (Cnd ((0:Int)<Qd) (At l Qd fun y6=>InI (Qd - 1)/\((0:Int)<=Qd - 1/\Qd - 1<(↑l.length:Int))/\ ∀y8,l[(Qd - 1).toNat]? =some y8->Cnd (Lk.blt y8.1 y6.1) (InI (Qd+1)/\q1j (Qd+1)) (K (9:Int))) (InI (Qd+1)/\q1j (Qd+1))) (K Qm)) (K (0:Int))) (0:Int))
def q78:q77:=z89 z1c
abbrev z7b:Type:=List (Spn)->(Int->Prop)->Prop
def z1d:z7b:=fun l K=>Fits l->Cnd ((16:Int)<(↑l.length:Int)) (K (5:Int)) (Lp1 (fun Qd q1j=>Fits l->CAt l Qd (fun y3=>Cnd (y3.1<0) (K (3:Int)) (At l Qd fun y5=>At l Qd fun y7=>Cnd (y7.2<=y5.1) (K (3:Int)) (At l Qd fun y9=>Cnd ((10000:Int)<y9.2) (K (3:Int)) (Cnd ((0:Int)<Qd) (At l Qd fun y11=>InI (Qd - 1)/\((0:Int)<=Qd - 1/\Qd - 1<(↑l.length:Int))/\ ∀y13,l[(Qd - 1).toNat]? =some y13->Cnd (y11.1<=y13.2) (K (9:Int)) (InI (Qd+1)/\q1j (Qd+1))) (InI (Qd+1)/\q1j (Qd+1)))))) (K (0:Int))) (0:Int))
abbrev Rh:Type:=Exper->(Int->Prop)->Prop
def q79(Qk:Jk)(Qs:Jp)(z7q:z7b)(Bl:q7d)(V9:q10):Rh:=fun x K=>Qk x.1 fun Qa=>Cnd (Qa=true) (Qk x.2 fun Qd=>Cnd (Qd=true) (Qk x.3 fun Qg=>Cnd (Qg=true) (Qs x.4 fun Qf=>Cnd (Qf=true) (Cnd (x.5<1) (K (7:Int)) (Cnd ((3:Int)<x.5) (K (7:Int)) (z7q x.6 fun Qe=>Cnd (Qe=0) (Bl x.7 (8:Int) fun Qm=>Cnd (Qm=0) (V9 (Ex.mk x.8.1 x.8.2 x.8.3 x.8.4 x.8.5) fun Ja=>K Ja) (K Qm)) (K Qe)))) (K (2:Int))) (K (6:Int))) (K (6:Int))) (K (6:Int))
def Ri:Rh:=q79 Jl Z2 z1d q3q q11
abbrev G6:Type:=List (Exper)->(Int->Prop)->Prop
def q50(q3d:Rh):G6:=fun l K=>Fits l->Cnd ((16:Int)<(↑l.length:Int)) (K (5:Int)) (Lp1 (fun Qd q1j=>Fits l->CAt l Qd (fun y3=>q3d (Exper.mk y3.1 y3.2 y3.3 y3.4 y3.5 y3.6 y3.7 (Ex.mk y3.8.1 y3.8.2 y3.8.3 y3.8.4 y3.8.5)) fun Qm=>Cnd (Qm=0) (Cnd ((0:Int)<Qd) (At l Qd fun y6=>InI (Qd - 1)/\((0:Int)<=Qd - 1/\Qd - 1<(↑l.length:Int))/\ ∀y8,l[(Qd - 1).toNat]? =some y8->Cnd (Lk.blt y8.1 y6.1) (InI (Qd+1)/\q1j (Qd+1)) (K (9:Int))) (InI (Qd+1)/\q1j (Qd+1))) (K Qm)) (K (0:Int))) (0:Int))
def G7:G6:=q50 Ri
abbrev G8:Type:=Envt->(Int->Prop)->Prop
def q51(q6y:q1w)(q6z:q1y)(q60:q12)(z7r:z09)(z3u:q77)(q0o:G6):G8:=fun v K=>q6y (Sett.mk v.1.1 v.1.2 v.1.3) fun Qa=>Cnd (Qa=0) (q6z v.2 fun Qd=>Cnd (Qd=0) (q60 v.3 fun Qg=>Cnd (Qg=0) (z7r v.4 fun Qf=>Cnd (Qf=0) (z3u v.5 fun Qe=>Cnd (Qe=0) (q0o v.6 fun Qm=>K Qm) (K Qe)) (K Qf)) (K Qg)) (K Qd)) (K Qa)
def G9:G8:=q51 q1x q1z q13 z1a q78 G7
abbrev Ho:Type:=List (Seg)->(List (ByteArray)->Prop)->Prop
def Hp:Ho:=fun l K=>Lp2 (fun Qa Q0 q3l=>Fits l->CAt l Q0 (fun y2=>Sml (Qa++[y2.1]).length/\InI (Q0+1)/\q3l (Qa++[y2.1]) (Q0+1)) (K Qa)) [] (0:Int)
abbrev Vl:Type:=List (ByteArray)->ByteArray->(Bool->Prop)->Prop
def J8:Vl:=fun l s K=>Lp1 (fun Qa q1k=>Fits l->CAt l Qa (fun y2=>Cnd (y2=s) (K true) (InI (Qa+1)/\q1k (Qa+1))) (K false)) (0:Int)
abbrev z1e:Type:=List (Decl)->ByteArray->ByteArray->(Int->Prop)->Prop
def q15:z1e:=fun l kind name K=>Lp1 (fun Qa q1k=>Fits l->CAt l Qa (fun y2=>Cnd (y2.1=kind) (At l Qa fun y4=>Cnd (y4.2=name) (At l Qa fun y6=>K y6.3) (InI (Qa+1)/\q1k (Qa+1))) (InI (Qa+1)/\q1k (Qa+1))) (Cnd (name=ByteArray.mk (Array.mk [107,101,121])) (K (3:Int)) (K (0:Int)))) (0:Int)
abbrev j04:Type:=Int->Ex->(Bool->Prop)->Prop
def q8a:j04:=fun t e K=>Cnd (e.1=6) (K true) (Cnd (e.1=8) (Lp1 (fun Qa q1k=>Fits e.4->CAt e.4 Qa (fun y2=>Cnd (y2.1=t) (InI (Qa+1)/\q1k (Qa+1)) (K false)) (K (match decide ((t,e,()).1=5) with|true=>false|false=>true))) (0:Int)) (Fits e.4->Cnd ((↑e.4.length:Int)=0) (K false) (((0:Int)<=(0:Int)/\(0:Int)<(↑e.4.length:Int))/\ ∀y1,e.4[Int.toNat (0:Int)]? =some y1->Cnd (e.1=7) (K (decide (y1.1=t))) (Jn1 (fun Qf=>Cnd (Qf=true) (Cnd (t=3) (K (decide (y1.1=3))) (K false)) (Cnd (e.1=11) (Cnd (t=3) (K (decide (y1.1=3))) (Cnd (t=5) (K (decide (y1.1=3))) (K false))) (Cnd (t=2) (K (decide (y1.1=t))) (Cnd (t=3) (K (decide (y1.1=t))) (Cnd (t=4) (K (decide (y1.1=t))) (K false)))))) fun v9y=>Cnd (e.1=9) (v9y (decide (e.1=9))) (v9y (decide (e.1=10)))))))
abbrev Ha:Type:=List (Decl)->List (ByteArray)->Ex->(Int->Prop)->Prop
def j79(Qx:Vl)(Qv:Wi)(q0e:z1e)(z6r:j04)(X:Ha):Ha:=fun l segments e K=>Cnd (e.1=5) (Qx segments e.3 fun Qa=>Cnd (Qa=true) (Jn0 (Lp1 (fun Qd q1j=>Fits e.5->CAt e.5 Qd (fun y3=>X l segments (Ex.mk y3.1 y3.2 y3.3 y3.4 y3.5) fun Qm=>Cnd (Qm=0) (InI (Qd+1)/\q1j (Qd+1)) (K Qm)) (K (0:Int))) (0:Int)) fun Qd=>Qv e.1 fun Qg=>Cnd (Qg=true) (q0e l e.2 e.3 fun Qf=>Cnd (Qf=0) (K (11:Int)) (z6r Qf (Ex.mk e.1 e.2 e.3 e.4 e.5) fun Qe=>Cnd (Qe=true) Qd (K (8:Int)))) Qd) (K (11:Int))) (Jn0 (Lp1 (fun Qa q1k=>Fits e.5->CAt e.5 Qa (fun y2=>X l segments (Ex.mk y2.1 y2.2 y2.3 y2.4 y2.5) fun Qe=>Cnd (Qe=0) (InI (Qa+1)/\q1k (Qa+1)) (K Qe)) (K (0:Int))) (0:Int)) fun Qa=>Qv e.1 fun Qd=>Cnd (Qd=true) (q0e l e.2 e.3 fun Qg=>Cnd (Qg=0) (K (11:Int)) (z6r Qg (Ex.mk e.1 e.2 e.3 e.4 e.5) fun Qf=>Cnd (Qf=true) Qa (K (8:Int)))) Qa)
def q16:Ha:=fun l segments e K=> ∀X:Ha,(∀l segments e K,j79 J8 Jd q15 q8a X l segments e K->X l segments e K)->X l segments e K
abbrev q4h:Type:=List (ByteArray)->ByteArray->(List (ByteArray)->Prop)->Prop
def q0k:q4h:=fun l s K=>Lp1 (fun Qa q1k=>Fits l->CAt l Qa (fun y2=>Cnd (Lk.blt y2 s) (InI (Qa+1)/\q1k (Qa+1)) (Fits l->CAt l Qa (fun y5=>Cnd (y5=s) (K l) (((0:Int)<=(0:Int)/\(0:Int)<=Qa/\Qa<=(↑l.length:Int))/\Sml ([]++List.drop (Int.toNat (0:Int)) (List.take Qa.toNat l)).length/\((0:Int)<=Qa/\Qa<=(↑l.length:Int)/\(↑l.length:Int)<=(↑l.length:Int))/\Sml ([]++List.drop (Int.toNat (0:Int)) (List.take Qa.toNat l)++[s]).length/\Sml ([]++List.drop (Int.toNat (0:Int)) (List.take Qa.toNat l)++[s]++List.drop Qa.toNat (List.take (↑l.length:Int).toNat l)).length/\K ([]++List.drop (Int.toNat (0:Int)) (List.take Qa.toNat l)++[s]++List.drop Qa.toNat (List.take (↑l.length:Int).toNat l)))) (((0:Int)<=(0:Int)/\(0:Int)<=Qa/\Qa<=(↑l.length:Int))/\Sml ([]++List.drop (Int.toNat (0:Int)) (List.take Qa.toNat l)).length/\((0:Int)<=Qa/\Qa<=(↑l.length:Int)/\(↑l.length:Int)<=(↑l.length:Int))/\Sml ([]++List.drop (Int.toNat (0:Int)) (List.take Qa.toNat l)++[s]).length/\Sml ([]++List.drop (Int.toNat (0:Int)) (List.take Qa.toNat l)++[s]++List.drop Qa.toNat (List.take (↑l.length:Int).toNat l)).length/\K ([]++List.drop (Int.toNat (0:Int)) (List.take Qa.toNat l)++[s]++List.drop Qa.toNat (List.take (↑l.length:Int).toNat l))))) (Fits l->CAt l Qa (fun y3=>Cnd (y3=s) (K l) (((0:Int)<=(0:Int)/\(0:Int)<=Qa/\Qa<=(↑l.length:Int))/\Sml ([]++List.drop (Int.toNat (0:Int)) (List.take Qa.toNat l)).length/\((0:Int)<=Qa/\Qa<=(↑l.length:Int)/\(↑l.length:Int)<=(↑l.length:Int))/\Sml ([]++List.drop (Int.toNat (0:Int)) (List.take Qa.toNat l)++[s]).length/\Sml ([]++List.drop (Int.toNat (0:Int)) (List.take Qa.toNat l)++[s]++List.drop Qa.toNat (List.take (↑l.length:Int).toNat l)).length/\K ([]++List.drop (Int.toNat (0:Int)) (List.take Qa.toNat l)++[s]++List.drop Qa.toNat (List.take (↑l.length:Int).toNat l)))) (((0:Int)<=(0:Int)/\(0:Int)<=Qa/\Qa<=(↑l.length:Int))/\Sml ([]++List.drop (Int.toNat (0:Int)) (List.take Qa.toNat l)).length/\((0:Int)<=Qa/\Qa<=(↑l.length:Int)/\(↑l.length:Int)<=(↑l.length:Int))/\Sml ([]++List.drop (Int.toNat (0:Int)) (List.take Qa.toNat l)++[s]).length/\Sml ([]++List.drop (Int.toNat (0:Int)) (List.take Qa.toNat l)++[s]++List.drop Qa.toNat (List.take (↑l.length:Int).toNat l)).length/\K ([]++List.drop (Int.toNat (0:Int)) (List.take Qa.toNat l)++[s]++List.drop Qa.toNat (List.take (↑l.length:Int).toNat l))))) (0:Int)
abbrev Gb:Type:=List (ByteArray)->Ex->(List (ByteArray)->Prop)->Prop
def q9l(Ww:q4h)(X:Gb):Gb:=fun l e K=>Jn1 (fun Qa=>Lp2 (fun Qd Z9 z6q=>Fits e.5->CAt e.5 Z9 (fun y3=>X Qd (Ex.mk y3.1 y3.2 y3.3 y3.4 y3.5) fun Qm=>InI (Z9+1)/\z6q Qm (Z9+1)) (K Qd)) Qa (0:Int)) fun z11=>Cnd (e.1=5) (Ww l e.3 fun Qd=>z11 Qd) (z11 l)
def q1c:Gb:=fun l e K=> ∀X:Gb,(∀l e K,q9l q0k X l e K->X l e K)->X l e K
abbrev q5b:Type:=Ex->(List (ByteArray)->Prop)->Prop
def q9m(q91:Gb):q5b:=fun e K=>q91 [] (Ex.mk e.1 e.2 e.3 e.4 e.5) fun Qa=>K Qa
def Rj:q5b:=q9m q1c
abbrev q0w:Type:=List (Seg)->(List (Edg)->Prop)->Prop
def z2i(q92:q5b):q0w:=fun l K=>Lp2 (fun Qa Q0 q3l=>Fits l->CAt l Q0 (fun y2=>q92 (Ex.mk y2.5.1 y2.5.2 y2.5.3 y2.5.4 y2.5.5) fun Qe=>Lp2 (fun Qm q9g y83=>Fits Qe->Cnd (q9g<(↑Qe.length:Int)) (At l Q0 fun y7=>At Qe q9g fun y9=>Sml (Qm++[Edg.mk y7.1 y9]).length/\InI (q9g+1)/\y83 (Qm++[Edg.mk y7.1 y9]) (q9g+1)) (InI (Q0+1)/\q3l Qm (Q0+1))) Qa (0:Int)) (K Qa)) [] (0:Int)
def Gf:q0w:=z2i Rj
abbrev z1f:Type:=List (Edg)->ByteArray->(List (ByteArray)->Prop)->Prop
def j3l(Qx:Vl)(Ww:q4h):z1f:=fun edges node K=>Lp2 (fun Qa Q0 q3l=>Fits Q0->Cnd ((0:Int)<(↑Q0.length:Int)) (((0:Int)<=(0:Int)/\(0:Int)<(↑Q0.length:Int))/\ ∀y2,Q0[Int.toNat (0:Int)]? =some y2->((0:Int)<=(1:Int)/\(1:Int)<=(↑Q0.length:Int)/\(↑Q0.length:Int)<=(↑Q0.length:Int))/\Lp3 (fun Qe Jz j2l y68=>Fits edges->CAt edges j2l (fun y6=>Cnd (y6.1=y2) (At edges j2l fun y8=>Qx Qe y8.2 fun H4=>Cnd (H4=true) (InI (j2l+1)/\y68 Qe Jz (j2l+1)) (At edges j2l fun y11=>Ww Qe y11.2 fun Q9=>At edges j2l fun y14=>(Sml ([]++Jz).length/\Sml ([]++Jz++[y14.2]).length/\InI (j2l+1)/\y68 Q9 ([]++Jz++[y14.2]) (j2l+1))/\Sml ([]++Jz).length/\Sml ([]++Jz++[y14.2]).length/\InI (j2l+1)/\y68 Q9 ([]++Jz++[y14.2]) (j2l+1))) (InI (j2l+1)/\y68 Qe Jz (j2l+1))) (q3l Qe Jz)) Qa (List.drop (Int.toNat (1:Int)) (List.take (↑Q0.length:Int).toNat Q0)) (0:Int)) (K Qa)) [] [node]
def z1g:z1f:=j3l J8 q0k
abbrev q8b:Type:=List (ByteArray)->List (Edg)->(List (ByteArray)->Prop)->Prop
def z9a(z7s:z1f)(Qx:Vl)(Ww:q4h):q8b:=fun nodes edges K=>Lp2 (fun Qa Q0 q3l=>Fits nodes->CAt nodes Q0 (fun y2=>At nodes Q0 fun y4=>z7s edges y2 fun Ja=>Qx Ja y4 fun W7=>Cnd (W7=true) (At nodes Q0 fun y8=>Ww Qa y8 fun H4=>InI (Q0+1)/\q3l H4 (Q0+1)) (InI (Q0+1)/\q3l Qa (Q0+1))) (K Qa)) [] (0:Int)
def q8c:q8b:=z9a z1g J8 q0k
abbrev q8d:Type:=List (ByteArray)->List (Edg)->(ByteArray->Bool->Prop)->Prop
def z9b(z3v:q8b):q8d:=fun nodes edges K=>z3v nodes edges fun Qa=>Fits Qa->Cnd ((↑Qa.length:Int)=0) (K (ByteArray.mk (Array.mk [])) false) (((0:Int)<=(0:Int)/\(0:Int)<(↑Qa.length:Int))/\ ∀y2,Qa[Int.toNat (0:Int)]? =some y2->K y2 true)
def q8e:q8d:=z9b q8c
abbrev q1d:Type:=Envt->ByteArray->(Int->Prop)->Prop
def q1e:q1d:=fun v key K=>Lp1 (fun Qa q1k=>Fits v.4->CAt v.4 Qa (fun y2=>Cnd (y2.1=key) (K Qa) (InI (Qa+1)/\q1k (Qa+1))) (K (-1:Int))) (0:Int)
abbrev z1h:Type:=List (Decl)->Srv->(Int->Prop)->Prop
def j3m(q0e:z1e):z1h:=fun l v K=>Cnd (v.1=0) (q0e l v.2 v.3 fun Qa=>Cnd (Qa=0) (K (11:Int)) (Cnd (Qa=5) (K (8:Int)) (K (0:Int)))) (K (0:Int))
def z1i:z1h:=j3m q15
abbrev Rk:Type:=Envt->Flg->(Int->Prop)->Prop
def q8f(Z5:Ho)(Ua:q1d)(Ub:Ha)(z1z:z1h)(Z6:J1):Rk:=fun v f K=>Z5 v.3 fun Qa=>Lp2 (fun Qd Z9 z6q=>Fits f.6->CAt f.6 Qd (fun y3=>Ua (Envt.mk (Sett.mk v.1.1 v.1.2 v.1.3) v.2 v.3 v.4 v.5 v.6) y3.1 fun Qm=>Cnd (Qm<0) (K (11:Int)) (At f.6 Qd fun y6=>At v.4 Qm fun y8=>Fits y8.3->Cnd ((↑y8.3.length:Int)<y6.2) (K (3:Int)) (InI (Qd+1)/\z6q (Qd+1) Z9))) (Lp2 (fun Qf Uj j6e=>Fits f.8->CAt f.8 Qf (fun y5=>Ub v.2 Uj (Ex.mk y5.2.1 y5.2.2 y5.2.3 y5.2.4 y5.2.5) fun W7=>Cnd (W7=0) (At f.8 Qf fun y8=>z1z v.2 (Srv.mk y8.3.1 y8.3.2 y8.3.3 y8.3.4 y8.3.5) fun H4=>Cnd (H4=0) (InI (Qf+1)/\j6e (Qf+1) Uj) (K H4)) (K W7)) (z1z v.2 (Srv.mk f.9.1 f.9.2 f.9.3 f.9.4 f.9.5) fun Qm=>Cnd (Qm=0) (Z6 f.8 fun Ja _ y32=>Cnd (y32=true) (Fits Ja->Cnd ((0:Int)<(↑Ja.length:Int)) (K (13:Int)) (K (0:Int))) (K (19:Int))) (K Qm))) (0:Int) Z9)) (0:Int) Qa
def Rl:Rk:=q8f Hp q1e q16 z1i J2
abbrev q4i:Type:=Envt->(List (ByteArray)->Prop)->Prop
def q4j:q4i:=fun v K=>Lp2 (fun Qa Q0 q3l=>Fits v.4->CAt v.4 Q0 (fun y2=>Sml (Qa++[y2.1]).length/\InI (Q0+1)/\q3l (Qa++[y2.1]) (Q0+1)) (K Qa)) [] (0:Int)
abbrev q17:Type:=Envt->(List (Edg)->Prop)->Prop
def Rm:q17:=fun v K=>Lp2 (fun Qa Q0 q3l=>Fits v.4->Cnd (Q0<(↑v.4.length:Int)) (Lp2 (fun Qg Zn q7g=>At v.4 Q0 fun y3=>Fits y3.6->Cnd (Zn<(↑y3.6.length:Int)) (At v.4 Q0 fun y6=>At v.4 Q0 fun y8=>At y8.6 Zn fun y10=>Sml (Qg++[Edg.mk y6.1 y10.1]).length/\InI (Zn+1)/\q7g (Qg++[Edg.mk y6.1 y10.1]) (Zn+1)) (InI (Q0+1)/\q3l Qg (Q0+1))) Qa (0:Int)) (K Qa)) [] (0:Int)
abbrev q5c:Type:=List (Spn)->List (Spn)->(List (Spn)->Prop)->Prop
def z49(Jc:B3)(Q5:Wk):q5c:=fun a b K=>Jc a fun Qa=>Jc b fun Qd=>Lp2 (fun Qg Zn q7g=>Fits Zn->CAt Zn Qg (fun y4=>Cnd (y4=true) (At Qd Qg fun y6=>At Zn Qg fun _=>InI (Qg+1)/\q7g (Qg+1) (Zn.set Qg.toNat y6)) (At Zn Qg fun _=>InI (Qg+1)/\q7g (Qg+1) (Zn.set Qg.toNat false))) (Q5 Zn fun Qe=>K Qe)) (0:Int) Qa
def q5d:q5c:=z49 Rb J3
abbrev Wf:Type:=Envt->Int->(Int->Prop)->Prop
def Rn(Zt:Vv)(Ua:q1d)(Z5:Ho)(Ub:Ha)(q93:q5c):Wf:=fun v i K=>At v.6 i fun y0=>Zt (Envt.mk (Sett.mk v.1.1 v.1.2 v.1.3) v.2 v.3 v.4 v.5 v.6) y0.2 fun Qg=>Ua (Envt.mk (Sett.mk v.1.1 v.1.2 v.1.3) v.2 v.3 v.4 v.5 v.6) y0.3 fun Qf=>Cnd (Qg<0) (K (11:Int)) (Cnd (Qf<0) (K (11:Int)) (Lp1 (fun Qe w5p=>Fits y0.7->CAt y0.7 Qe (fun y6=>At v.4 Qf fun y8=>Fits y8.3->Cnd ((↑y8.3.length:Int)<y6.3) (K (3:Int)) (InI (Qe+1)/\w5p (Qe+1))) (Z5 v.3 fun Ja=>Ub v.2 Ja (Ex.mk y0.8.1 y0.8.2 y0.8.3 y0.8.4 y0.8.5) fun W7=>Cnd (W7=0) (Cnd (y0.5=3) (K (0:Int)) (At v.5 Qg fun y8=>Lp3 (fun H4 q26 y2u y6q=>Cnd (q26<i) (At v.6 q26 fun y11=>Cnd (y11.2=y0.2) (Cnd (y11.5=3) (InI (q26+1)/\y6q H4 (q26+1) y2u) (Sml (H4++y11.6).length/\InI (q26+1)/\y6q (H4++y11.6) (q26+1) y2u)) (InI (q26+1)/\y6q H4 (q26+1) y2u)) (q93 y0.6 H4 fun Wm=>Fits Wm->Cnd ((0:Int)<(↑Wm.length:Int)) (K (14:Int)) (Lp4 (fun Q9 w5m y6r y6s y6t=>Cnd (Q9<i) (Cnd (y0.5=2) (At v.6 Q9 fun y14=>Cnd (y14.5=2) (Cnd (y14.3=y0.3) (Cnd (y14.2=y0.2) (InI (Q9+1)/\y6t (Q9+1) w5m y6r y6s) (K (14:Int))) (InI (Q9+1)/\y6t (Q9+1) w5m y6r y6s)) (InI (Q9+1)/\y6t (Q9+1) w5m y6r y6s)) (K (0:Int))) (K (0:Int))) (0:Int) Wm H4 y2u))) [Spn.mk (0:Int) y8.4] (0:Int) Ja)) (K W7))) (0:Int)))
def Wg:Wf:=Rn Vw q1e Hp q16 q5d
abbrev Uy:Type:=Envt->(ByteArray->Int->Prop)->Prop
def q3t(q0p:G8)(Z5:Ho)(Ub:Ha)(Gy:q0w)(q9e:q8d)(q3e:Rk)(q4w:q4i)(q3f:q17)(Uc:Wf):Uy:=fun v K=>q0p (Envt.mk (Sett.mk v.1.1 v.1.2 v.1.3) v.2 v.3 v.4 v.5 v.6) fun Qa=>Cnd (Qa=0) (Z5 v.3 fun Qd=>Lp2 (fun Qg Zn q7g=>Fits v.3->CAt v.3 Qg (fun y4=>Cnd (y4.5.1=0) (InI (Qg+1)/\q7g (Qg+1) Zn) (At v.3 Qg fun y6=>Ub v.2 Zn (Ex.mk y6.5.1 y6.5.2 y6.5.3 y6.5.4 y6.5.5) fun Uk=>Cnd (Uk=0) (InI (Qg+1)/\q7g (Qg+1) Zn) (At v.3 Qg fun y9=>(↑((ByteArray.mk (Array.mk [115,101,103,109,101,110,116,32])).size+y9.1.size):Int)<=(9223372036854775807:Int)/\K (ByteArray.mk (Array.mk [115,101,103,109,101,110,116,32])++y9.1) Uk))) (Gy v.3 fun Qe=>q9e Zn Qe fun Qm q9g=>Cnd (q9g=true) ((↑((ByteArray.mk (Array.mk [115,101,103,109,101,110,116,32])).size+Qm.size):Int)<=(9223372036854775807:Int)/\K (ByteArray.mk (Array.mk [115,101,103,109,101,110,116,32])++Qm) (12:Int)) (Lp3 (fun Ja j0d y32 u1e=>Fits v.4->CAt v.4 Ja (fun y8=>q3e (Envt.mk (Sett.mk v.1.1 v.1.2 v.1.3) v.2 v.3 v.4 v.5 v.6) (Flg.mk y8.1 y8.2 y8.3 y8.4 y8.5 y8.6 y8.7 y8.8 (Srv.mk y8.9.1 y8.9.2 y8.9.3 y8.9.4 y8.9.5)) fun H4=>Cnd (H4=0) (InI (Ja+1)/\u1e (Ja+1) j0d y32) (At v.4 Ja fun y11=>(↑((ByteArray.mk (Array.mk [102,108,97,103,32])).size+y11.1.size):Int)<=(9223372036854775807:Int)/\K (ByteArray.mk (Array.mk [102,108,97,103,32])++y11.1) H4)) (q4w (Envt.mk (Sett.mk v.1.1 v.1.2 v.1.3) v.2 v.3 v.4 v.5 v.6) fun Uk=>q3f (Envt.mk (Sett.mk v.1.1 v.1.2 v.1.3) v.2 v.3 v.4 v.5 v.6) fun Qq=>q9e Uk Qq fun H4 q26=>Cnd (q26=true) ((↑((ByteArray.mk (Array.mk [102,108,97,103,32])).size+H4.size):Int)<=(9223372036854775807:Int)/\K (ByteArray.mk (Array.mk [102,108,97,103,32])++H4) (12:Int)) (Lp5 (fun Wm w0f u0j u0k u0l u0m=>Fits v.6->Cnd (Wm<(↑v.6.length:Int)) (Uc (Envt.mk (Sett.mk v.1.1 v.1.2 v.1.3) v.2 v.3 v.4 v.5 v.6) Wm fun Q9=>Cnd (Q9=0) (InI (Wm+1)/\u0m (Wm+1) w0f u0j u0k u0l) (At v.6 Wm fun y14=>(↑((ByteArray.mk (Array.mk [101,120,112,101,114,105,109,101,110,116,32])).size+y14.1.size):Int)<=(9223372036854775807:Int)/\K (ByteArray.mk (Array.mk [101,120,112,101,114,105,109,101,110,116,32])++y14.1) Q9)) (K (ByteArray.mk (Array.mk [])) (0:Int))) (0:Int) Uk Qq y32 j0d))) (0:Int) Zn Qe))) (0:Int) Qd) (K (ByteArray.mk (Array.mk [])) Qa)
def Uz:Uy:=q3t G9 Hp q16 Gf q8e Rl q4j Rm Wg
abbrev q8g:Type:=Envt->(Bool->Prop)->Prop
def z9c(Bn:Uy):q8g:=fun v K=>Bn (Envt.mk (Sett.mk v.1.1 v.1.2 v.1.3) v.2 v.3 v.4 v.5 v.6) fun _ Q0=>K (decide (Q0=0))
def Rp:q8g:=z9c Uz
abbrev Rq:Type:=List (Int)->Int->Int->(Envt->Int->Prop)->Prop
def q8h(Q3:W2)(q94:q44)(Qb:Zg)(q27:z63)(Jj:q1s)(q4r:z2b)(z6s:z4s)(R2:q1t)(q4s:q4g)(Z6:J1)(j2u:z4w)(Wh:q1q)(q28:q7q)(z7t:z04)(Wu:q6h)(Gx:q0u)(z3w:q71)(q08:q8g):Rq:=fun list at_ now K=>Q3 fun Qa=>Jn1 (fun (Qd:ByteArray×ByteArray×Int×Int×List Decl×Unit)=>q94 list Qd.2.2.2.1 Qd.1 Qd.2.1 Qd.2.2.1 Qd.2.2.2.2.1 [] [] [] [] fun Qg Zn w5o w0h v94 u1f u1g u1h u1i=>Qb list Qg (5:Int) fun Qf Uj=>q27 Qf [ByteArray.mk (Array.mk [102,97]),ByteArray.mk (Array.mk [102,98]),ByteArray.mk (Array.mk [102,99]),ByteArray.mk (Array.mk [102,100])] fun Qe=>LpH (fun (Qm:Int×Int×List Flg×List Seg×List Lay_×List Exper×Unit) j65=>Fits Qe->CAt Qe Qm.1 (fun y7=>Qb list Qm.2.1 (5:Int) fun Qq j0c=>InI ((1:Int)+Qq)/\Qb list j0c (6:Int) fun H4 q26=>Qb list q26 (4:Int) fun Wm w0f=>InI ((1:Int)+Wm)/\LpH (fun (Hk:Int×Int×List Val×List Exper×List Lay_×List Flg×List Seg×Unit) (u0n:Int×Int×List Val×List Exper×List Lay_×List Flg×List Seg×Unit->Prop)=>Cnd (Hk.1<1+Wm) (Jj list Hk.2.1 ((1:Int)+Qq) fun Q9 w5m=>Sml (Hk.2.2.1++[Q9]).length/\InI (Hk.1+1)/\u0n (Hk.1+1,w5m,Hk.2.2.1++[Q9],Hk.2.2.2.1,Hk.2.2.2.2.1,Hk.2.2.2.2.2.1,Hk.2.2.2.2.2.2.1,())) (Qb list Hk.2.1 ((1:Int)+Wm) fun Q9 w5m=>InI ((1:Int)+Q9)/\LpH (fun (Wn:Int×List Prq×Int×List Seg×List Flg×List Lay_×List Exper×List Val×Unit) (v9z:Int×List Prq×Int×List Seg×List Flg×List Lay_×List Exper×List Val×Unit->Prop)=>Fits Wn.2.2.2.2.1->Cnd (Wn.1<(↑Wn.2.2.2.2.1.length:Int)) (Qb list Wn.2.2.1 (4:Int) fun Bw y84=>Cnd (Bw=1) (At Wn.2.2.2.2.1 Wn.1 fun y17=>At Wn.2.2.2.2.1 Wn.1 fun y19=>Fits y19.3->Qb list y84 (↑y19.3.length:Int) fun y6u u0o=>InI ((1:Int)+y6u)/\Sml (Wn.2.1++[Prq.mk y17.1 ((1:Int)+y6u)]).length/\InI (Wn.1+1)/\v9z (Wn.1+1,Wn.2.1++[Prq.mk y17.1 ((1:Int)+y6u)],u0o,Wn.2.2.2.1,Wn.2.2.2.2.1,Wn.2.2.2.2.2.1,Wn.2.2.2.2.2.2.1,Wn.2.2.2.2.2.2.2.1,())) (InI (Wn.1+1)/\v9z (Wn.1+1,Wn.2.1,y84,Wn.2.2.2.1,Wn.2.2.2.2.1,Wn.2.2.2.2.2.1,Wn.2.2.2.2.2.2.1,Wn.2.2.2.2.2.2.2.1,()))) (LpH (fun (Bw:Int×List Tgt×Int×List Val×List Exper×List Lay_×List Flg×List Seg×List Prq×Unit) (y85:Int×List Tgt×Int×List Val×List Exper×List Lay_×List Flg×List Seg×List Prq×Unit->Prop)=>Qb list Bw.2.2.1 (3:Int) fun v90 y86=>Cnd (Bw.1<v90) (Qb list y86 ((1:Int)+Wm) fun z10 u0p=>InI ((1:Int)+z10)/\q4r list u0p fun Jg y6v=>Jn1 (fun (q4f:ByteArray×Int×List ByteArray×List Prq×List Seg×List Flg×List Lay_×List Exper×List Val×List Tgt×Unit)=>Fits q4f.2.2.1->Cnd ((0:Int)<(↑q4f.2.2.1.length:Int)) (Sml (q4f.2.2.2.2.2.2.2.2.2.1++[Tgt.mk q4f.1 ((1:Int)+z10) q4f.2.2.1]).length/\InI (Bw.1+1)/\y85 (Bw.1+1,q4f.2.2.2.2.2.2.2.2.2.1++[Tgt.mk q4f.1 ((1:Int)+z10) q4f.2.2.1],q4f.2.1,q4f.2.2.2.2.2.2.2.2.1,q4f.2.2.2.2.2.2.2.1,q4f.2.2.2.2.2.2.1,q4f.2.2.2.2.2.1,q4f.2.2.2.2.1,q4f.2.2.2.1,())) (InI (Bw.1+1)/\y85 (Bw.1+1,q4f.2.2.2.2.2.2.2.2.2.1,q4f.2.1,q4f.2.2.2.2.2.2.2.2.1,q4f.2.2.2.2.2.2.2.1,q4f.2.2.2.2.2.2.1,q4f.2.2.2.2.2.1,q4f.2.2.2.2.1,q4f.2.2.2.1,()))) fun (y87:ByteArray×Int×List ByteArray×List Prq×List Seg×List Flg×List Lay_×List Exper×List Val×List Tgt×Unit->Prop)=>Qb list y6v (4:Int) fun u0q y88=>Cnd (u0q=1) (y87 (ByteArray.mk (Array.mk [100,101,118,105,99,101]),y88,Jg,Bw.2.2.2.2.2.2.2.2.1,Bw.2.2.2.2.2.2.2.1,Bw.2.2.2.2.2.2.1,Bw.2.2.2.2.2.1,Bw.2.2.2.2.1,Bw.2.2.2.1,Bw.2.1,())) (y87 (ByteArray.mk (Array.mk [117,115,101,114]),y88,Jg,Bw.2.2.2.2.2.2.2.2.1,Bw.2.2.2.2.2.2.2.1,Bw.2.2.2.2.2.2.1,Bw.2.2.2.2.2.1,Bw.2.2.2.2.1,Bw.2.2.2.1,Bw.2.1,()))) (Jn1 (fun (z10:Int×List Rul×List ByteArray×List Prq×List Seg×List Flg×List Lay_×List Exper×List Val×List Tgt×Unit)=>z6s list z10.1 ((1:Int)+Wm) fun Jg y6v=>Sml (z10.2.2.2.2.2.1++[Flg.mk y7 ((1:Int)+Qq) z10.2.2.2.2.2.2.2.2.1 (decide (H4<5)) ((1:Int)+Q9) z10.2.2.2.1 z10.2.2.2.2.2.2.2.2.2.1 z10.2.1 Jg]).length/\InI (Qm.1+1)/\j65 (Qm.1+1,y6v,z10.2.2.2.2.2.1++[Flg.mk y7 ((1:Int)+Qq) z10.2.2.2.2.2.2.2.2.1 (decide (H4<5)) ((1:Int)+Q9) z10.2.2.2.1 z10.2.2.2.2.2.2.2.2.2.1 z10.2.1 Jg],z10.2.2.2.2.1,z10.2.2.2.2.2.2.1,z10.2.2.2.2.2.2.2.1,())) fun (y6w:Int×List Rul×List ByteArray×List Prq×List Seg×List Flg×List Lay_×List Exper×List Val×List Tgt×Unit->Prop)=>LpH (fun (Jg:Int×Int×List Rul×List ByteArray×List Prq×List Seg×List Flg×List Lay_×List Exper×List Val×List Tgt×Unit) (u0r:Int×Int×List Rul×List ByteArray×List Prq×List Seg×List Flg×List Lay_×List Exper×List Val×List Tgt×Unit->Prop)=>Qb list Jg.2.1 (5:Int) fun q4f y2v=>Cnd (Jg.1<q4f) (At Jg.2.2.2.1 Jg.1 fun y21=>R2 (Envt.mk (Sett.mk Zn w5o w0h) v94 Jg.2.2.2.2.2.1 Jg.2.2.2.2.2.2.1 Jg.2.2.2.2.2.2.2.1 Jg.2.2.2.2.2.2.2.2.1) fun u0s=>q4s list y2v u0s (3:Int) fun Zf u0t=>z6s list u0t ((1:Int)+Wm) fun z3x v91=>Sml (Jg.2.2.1++[Rul.mk y21 (Ex.mk Zf.1 Zf.2 Zf.3 Zf.4 Zf.5) z3x]).length/\Z6 (Jg.2.2.1++[Rul.mk y21 (Ex.mk Zf.1 Zf.2 Zf.3 Zf.4 Zf.5) z3x]) fun y89 _ u0u=>Cnd (u0u=true) (Fits y89->Cnd ((0:Int)<(↑y89.length:Int)) ((Jg.2.2.1++[Rul.mk y21 (Ex.mk Zf.1 Zf.2 Zf.3 Zf.4 Zf.5) z3x]).length<=(9223372036854775807:Nat)->InI ((↑(Jg.2.2.1++[Rul.mk y21 (Ex.mk Zf.1 Zf.2 Zf.3 Zf.4 Zf.5) z3x]).length:Int) - 1)/\((0:Int)<=(↑(Jg.2.2.1++[Rul.mk y21 (Ex.mk Zf.1 Zf.2 Zf.3 Zf.4 Zf.5) z3x]).length:Int) - 1/\(↑(Jg.2.2.1++[Rul.mk y21 (Ex.mk Zf.1 Zf.2 Zf.3 Zf.4 Zf.5) z3x]).length:Int) - 1<=(↑(Jg.2.2.1++[Rul.mk y21 (Ex.mk Zf.1 Zf.2 Zf.3 Zf.4 Zf.5) z3x]).length:Int))/\y6w (v91,List.take ((↑(Jg.2.2.1++[Rul.mk y21 (Ex.mk Zf.1 Zf.2 Zf.3 Zf.4 Zf.5) z3x]).length:Int) - 1).toNat (Jg.2.2.1++[Rul.mk y21 (Ex.mk Zf.1 Zf.2 Zf.3 Zf.4 Zf.5) z3x]),Jg.2.2.2.1,Jg.2.2.2.2.1,Jg.2.2.2.2.2.1,Jg.2.2.2.2.2.2.1,Jg.2.2.2.2.2.2.2.1,Jg.2.2.2.2.2.2.2.2.1,Jg.2.2.2.2.2.2.2.2.2.1,Jg.2.2.2.2.2.2.2.2.2.2.1,())) (InI (Jg.1+1)/\u0r (Jg.1+1,v91,Jg.2.2.1++[Rul.mk y21 (Ex.mk Zf.1 Zf.2 Zf.3 Zf.4 Zf.5) z3x],Jg.2.2.2.1,Jg.2.2.2.2.1,Jg.2.2.2.2.2.1,Jg.2.2.2.2.2.2.1,Jg.2.2.2.2.2.2.2.1,Jg.2.2.2.2.2.2.2.2.1,Jg.2.2.2.2.2.2.2.2.2.1,Jg.2.2.2.2.2.2.2.2.2.2.1,()))) ((Jg.2.2.1++[Rul.mk y21 (Ex.mk Zf.1 Zf.2 Zf.3 Zf.4 Zf.5) z3x]).length<=(9223372036854775807:Nat)->InI ((↑(Jg.2.2.1++[Rul.mk y21 (Ex.mk Zf.1 Zf.2 Zf.3 Zf.4 Zf.5) z3x]).length:Int) - 1)/\((0:Int)<=(↑(Jg.2.2.1++[Rul.mk y21 (Ex.mk Zf.1 Zf.2 Zf.3 Zf.4 Zf.5) z3x]).length:Int) - 1/\(↑(Jg.2.2.1++[Rul.mk y21 (Ex.mk Zf.1 Zf.2 Zf.3 Zf.4 Zf.5) z3x]).length:Int) - 1<=(↑(Jg.2.2.1++[Rul.mk y21 (Ex.mk Zf.1 Zf.2 Zf.3 Zf.4 Zf.5) z3x]).length:Int))/\y6w (v91,List.take ((↑(Jg.2.2.1++[Rul.mk y21 (Ex.mk Zf.1 Zf.2 Zf.3 Zf.4 Zf.5) z3x]).length:Int) - 1).toNat (Jg.2.2.1++[Rul.mk y21 (Ex.mk Zf.1 Zf.2 Zf.3 Zf.4 Zf.5) z3x]),Jg.2.2.2.1,Jg.2.2.2.2.1,Jg.2.2.2.2.2.1,Jg.2.2.2.2.2.2.1,Jg.2.2.2.2.2.2.2.1,Jg.2.2.2.2.2.2.2.2.1,Jg.2.2.2.2.2.2.2.2.2.1,Jg.2.2.2.2.2.2.2.2.2.2.1,()))) (y6w (y2v,Jg.2.2.1,Jg.2.2.2.1,Jg.2.2.2.2.1,Jg.2.2.2.2.2.1,Jg.2.2.2.2.2.2.1,Jg.2.2.2.2.2.2.2.1,Jg.2.2.2.2.2.2.2.2.1,Jg.2.2.2.2.2.2.2.2.2.1,Jg.2.2.2.2.2.2.2.2.2.2.1,()))) ((0:Int),y86,[],[ByteArray.mk (Array.mk [102,105,114,115,116]),ByteArray.mk (Array.mk [115,101,99,111,110,100]),ByteArray.mk (Array.mk [116,104,105,114,100]),ByteArray.mk (Array.mk [102,111,117,114,116,104])],Bw.2.2.2.2.2.2.2.2.1,Bw.2.2.2.2.2.2.2.1,Bw.2.2.2.2.2.2.1,Bw.2.2.2.2.2.1,Bw.2.2.2.2.1,Bw.2.2.2.1,Bw.2.1,()))) ((0:Int),[],Wn.2.2.1,Wn.2.2.2.2.2.2.2.1,Wn.2.2.2.2.2.2.1,Wn.2.2.2.2.2.1,Wn.2.2.2.2.1,Wn.2.2.2.1,Wn.2.1,()))) ((0:Int),[],w5m,Hk.2.2.2.2.2.2.1,Hk.2.2.2.2.2.1,Hk.2.2.2.2.1,Hk.2.2.2.1,Hk.2.2.1,()))) ((0:Int),w0f,[],Qm.2.2.2.2.2.1,Qm.2.2.2.2.1,Qm.2.2.1,Qm.2.2.2.1,())) (Qb list Qm.2.1 (3:Int) fun W7 z74=>q27 W7 [ByteArray.mk (Array.mk [108,97]),ByteArray.mk (Array.mk [108,98])] fun Uk=>LpH (fun (Qq:Int×Int×List Lay_×List Exper×List Seg×List Flg×Unit) (y81:Int×Int×List Lay_×List Exper×List Seg×List Flg×Unit->Prop)=>Fits Uk->CAt Uk Qq.1 (fun y11=>j2u list Qq.2.1 y11 fun Q9 w5m=>Sml (Qq.2.2.1++[Q9]).length/\InI (Qq.1+1)/\y81 (Qq.1+1,w5m,Qq.2.2.1++[Q9],Qq.2.2.2.1,Qq.2.2.2.2.1,Qq.2.2.2.2.2.1,())) (Qb list Qq.2.1 (4:Int) fun Wm w0f=>q27 Wm [ByteArray.mk (Array.mk [120,97]),ByteArray.mk (Array.mk [120,98]),ByteArray.mk (Array.mk [120,99])] fun Hk=>LpH (fun (Q9:Int×Int×List Exper×List Flg×List Seg×List Lay_×Unit) (y9a:Int×Int×List Exper×List Flg×List Seg×List Lay_×Unit->Prop)=>Fits Hk->Cnd (Q9.1<(↑Hk.length:Int)) (Fits Q9.2.2.2.1->Cnd ((0:Int)<(↑Q9.2.2.2.1.length:Int)) (Fits Q9.2.2.2.2.2.1->Cnd ((0:Int)<(↑Q9.2.2.2.2.2.1.length:Int)) (At Hk Q9.1 fun y17=>Fits Q9.2.2.2.1->Qb list Q9.2.1 (↑Q9.2.2.2.1.length:Int) fun q4f y2v=>At Q9.2.2.2.1 q4f fun y21=>Fits Q9.2.2.2.2.2.1->Fits y21.3->Qb list y2v (↑Q9.2.2.2.2.2.1.length:Int) fun z3x v91=>At Q9.2.2.2.2.2.1 z3x fun y26=>Wh list v91 fun w1j u0v=>Qb list u0v (3:Int) fun y2w u0w=>InI ((1:Int)+y2w)/\q28 list u0w (↑y21.3.length:Int) fun y6x y9b=>Jn1 (fun (q6a:Int×Int×List Rng×List Exper×List Lay_×List Flg×List Seg×Unit)=>Jn1 (fun (Ze:Int×ByteArray×ByteArray×List Val×List Ex×Int×List Seg×List Flg×List Lay_×List Exper×List Rng×Unit)=>z7t (Envt.mk (Sett.mk Zn w5o w0h) v94 Ze.2.2.2.2.2.2.1 Ze.2.2.2.2.2.2.2.1 Ze.2.2.2.2.2.2.2.2.1 Ze.2.2.2.2.2.2.2.2.2.1) y26.1 now fun (y6y:List Spn) (_:Int)=>Wu list Ze.2.2.2.2.2.1 (8000:Int) fun (y6z u0x:Int)=>Wu list u0x (8000:Int) fun (v1a y60:Int)=>Gx y6y [Spn.mk y6z v1a] fun (u0y:List Spn)=>Wu list y60 (7000:Int) fun (u0z y9c:Int)=>z3w u0y u0z fun (w1k:List Spn)=>Sml (Ze.2.2.2.2.2.2.2.2.2.1++[Exper.mk y17 y26.1 y21.1 w1j q6a.1 w1k Ze.2.2.2.2.2.2.2.2.2.2.1 (Ex.mk Ze.1 Ze.2.1 Ze.2.2.1 Ze.2.2.2.1 Ze.2.2.2.2.1)]).length/\q08 (Envt.mk (Sett.mk Zn w5o w0h) v94 Ze.2.2.2.2.2.2.1 Ze.2.2.2.2.2.2.2.1 Ze.2.2.2.2.2.2.2.2.1 (Ze.2.2.2.2.2.2.2.2.2.1++[Exper.mk y17 y26.1 y21.1 w1j q6a.1 w1k Ze.2.2.2.2.2.2.2.2.2.2.1 (Ex.mk Ze.1 Ze.2.1 Ze.2.2.1 Ze.2.2.2.1 Ze.2.2.2.2.1)])) fun (u00:Bool)=>Cnd (u00=true) (InI (Q9.1+1)/\y9a (Q9.1+1,y9c,Ze.2.2.2.2.2.2.2.2.2.1++[Exper.mk y17 y26.1 y21.1 w1j q6a.1 w1k Ze.2.2.2.2.2.2.2.2.2.2.1 (Ex.mk Ze.1 Ze.2.1 Ze.2.2.1 Ze.2.2.2.1 Ze.2.2.2.2.1)],Ze.2.2.2.2.2.2.2.1,Ze.2.2.2.2.2.2.1,Ze.2.2.2.2.2.2.2.2.1,())) ((Ze.2.2.2.2.2.2.2.2.2.1++[Exper.mk y17 y26.1 y21.1 w1j q6a.1 w1k Ze.2.2.2.2.2.2.2.2.2.2.1 (Ex.mk Ze.1 Ze.2.1 Ze.2.2.1 Ze.2.2.2.1 Ze.2.2.2.2.1)]).length<=(9223372036854775807:Nat)->InI ((↑(Ze.2.2.2.2.2.2.2.2.2.1++[Exper.mk y17 y26.1 y21.1 w1j q6a.1 w1k Ze.2.2.2.2.2.2.2.2.2.2.1 (Ex.mk Ze.1 Ze.2.1 Ze.2.2.1 Ze.2.2.2.1 Ze.2.2.2.2.1)]).length:Int) - 1)/\((0:Int)<=(↑(Ze.2.2.2.2.2.2.2.2.2.1++[Exper.mk y17 y26.1 y21.1 w1j q6a.1 w1k Ze.2.2.2.2.2.2.2.2.2.2.1 (Ex.mk Ze.1 Ze.2.1 Ze.2.2.1 Ze.2.2.2.1 Ze.2.2.2.2.1)]).length:Int) - 1/\(↑(Ze.2.2.2.2.2.2.2.2.2.1++[Exper.mk y17 y26.1 y21.1 w1j q6a.1 w1k Ze.2.2.2.2.2.2.2.2.2.2.1 (Ex.mk Ze.1 Ze.2.1 Ze.2.2.1 Ze.2.2.2.1 Ze.2.2.2.2.1)]).length:Int) - 1<=(↑(Ze.2.2.2.2.2.2.2.2.2.1++[Exper.mk y17 y26.1 y21.1 w1j q6a.1 w1k Ze.2.2.2.2.2.2.2.2.2.2.1 (Ex.mk Ze.1 Ze.2.1 Ze.2.2.1 Ze.2.2.2.1 Ze.2.2.2.2.1)]).length:Int))/\InI (Q9.1+1)/\y9a (Q9.1+1,y9c,List.take ((↑(Ze.2.2.2.2.2.2.2.2.2.1++[Exper.mk y17 y26.1 y21.1 w1j q6a.1 w1k Ze.2.2.2.2.2.2.2.2.2.2.1 (Ex.mk Ze.1 Ze.2.1 Ze.2.2.1 Ze.2.2.2.1 Ze.2.2.2.2.1)]).length:Int) - 1).toNat (Ze.2.2.2.2.2.2.2.2.2.1++[Exper.mk y17 y26.1 y21.1 w1j q6a.1 w1k Ze.2.2.2.2.2.2.2.2.2.2.1 (Ex.mk Ze.1 Ze.2.1 Ze.2.2.1 Ze.2.2.2.1 Ze.2.2.2.2.1)]),Ze.2.2.2.2.2.2.2.1,Ze.2.2.2.2.2.2.1,Ze.2.2.2.2.2.2.2.2.1,()))) fun (y9d:Int×ByteArray×ByteArray×List Val×List Ex×Int×List Seg×List Flg×List Lay_×List Exper×List Rng×Unit->Prop)=>Qb list q6a.2.1 (2:Int) fun (y6y y9e:Int)=>Cnd (y6y=1) (R2 (Envt.mk (Sett.mk Zn w5o w0h) v94 q6a.2.2.2.2.2.2.1 q6a.2.2.2.2.2.1 q6a.2.2.2.2.1 q6a.2.2.2.1) fun (y6z:List ByteArray)=>q4s list y9e y6z (2:Int) fun (v1a:Ex) (y60:Int)=>y9d (v1a.1,v1a.2,v1a.3,v1a.4,v1a.5,y60,q6a.2.2.2.2.2.2.1,q6a.2.2.2.2.2.1,q6a.2.2.2.2.1,q6a.2.2.2.1,q6a.2.2.1,())) (y9d ((1:Int),ByteArray.mk (Array.mk []),ByteArray.mk (Array.mk []),[],[],y9e,q6a.2.2.2.2.2.2.1,q6a.2.2.2.2.2.1,q6a.2.2.2.2.1,q6a.2.2.2.1,q6a.2.2.1,()))) fun (y61:Int×Int×List Rng×List Exper×List Lay_×List Flg×List Seg×Unit->Prop)=>Cnd ((1:Int)+y2w=1) (Qb list y9b (2:Int) fun Ze y9f=>Cnd (Ze=0) (y61 ((2:Int),y9f,y6x,Q9.2.2.1,Q9.2.2.2.2.2.1,Q9.2.2.2.1,Q9.2.2.2.2.1,())) (y61 ((1:Int)+y2w,y9f,y6x,Q9.2.2.1,Q9.2.2.2.2.2.1,Q9.2.2.2.1,Q9.2.2.2.2.1,()))) (y61 ((1:Int)+y2w,y9b,y6x,Q9.2.2.1,Q9.2.2.2.2.2.1,Q9.2.2.2.1,Q9.2.2.2.2.1,()))) (q08 (Envt.mk (Sett.mk Zn w5o w0h) v94 Q9.2.2.2.2.1 Q9.2.2.2.1 Q9.2.2.2.2.2.1 Q9.2.2.1) fun v90=>Cnd (v90=true) (K (Envt.mk (Sett.mk Zn w5o w0h) v94 Q9.2.2.2.2.1 Q9.2.2.2.1 Q9.2.2.2.2.2.1 Q9.2.2.1) Q9.2.1) (Q3 fun z10=>K (Envt.mk (Sett.mk (ByteArray.mk (Array.mk [])) (ByteArray.mk (Array.mk [])) (0:Int)) z10 [] [] [] []) Q9.2.1))) (q08 (Envt.mk (Sett.mk Zn w5o w0h) v94 Q9.2.2.2.2.1 Q9.2.2.2.1 Q9.2.2.2.2.2.1 Q9.2.2.1) fun Bw=>Cnd (Bw=true) (K (Envt.mk (Sett.mk Zn w5o w0h) v94 Q9.2.2.2.2.1 Q9.2.2.2.1 Q9.2.2.2.2.2.1 Q9.2.2.1) Q9.2.1) (Q3 fun v90=>K (Envt.mk (Sett.mk (ByteArray.mk (Array.mk [])) (ByteArray.mk (Array.mk [])) (0:Int)) v90 [] [] [] []) Q9.2.1))) (q08 (Envt.mk (Sett.mk Zn w5o w0h) v94 Q9.2.2.2.2.1 Q9.2.2.2.1 Q9.2.2.2.2.2.1 Q9.2.2.1) fun j2s=>Cnd (j2s=true) (K (Envt.mk (Sett.mk Zn w5o w0h) v94 Q9.2.2.2.2.1 Q9.2.2.2.1 Q9.2.2.2.2.2.1 Q9.2.2.1) Q9.2.1) (Q3 fun Bw=>K (Envt.mk (Sett.mk (ByteArray.mk (Array.mk [])) (ByteArray.mk (Array.mk [])) (0:Int)) Bw [] [] [] []) Q9.2.1))) ((0:Int),w0f,Qq.2.2.2.1,Qq.2.2.2.2.2.1,Qq.2.2.2.2.1,Qq.2.2.1,()))) ((0:Int),z74,Qm.2.2.2.2.1,Qm.2.2.2.2.2.1,Qm.2.2.2.1,Qm.2.2.1,()))) ((0:Int),Uj,u1g,u1f,u1h,u1i,())) fun w2t=>Qb list at_ (2:Int) fun Qg Zn=>Cnd (Qg=1) (Wh list Zn fun Qf Uj=>Wu list Uj (2500:Int) fun Qe Jz=>w2t (Qf,ByteArray.mk (Array.mk [117,115,101,114]),Qe,Jz,Qa,())) (w2t (ByteArray.mk (Array.mk []),ByteArray.mk (Array.mk []),(0:Int),Zn,Qa,()))
def Rr:Rq:=q8h Jx q45 Zc z64 Ur z2c z4t H5 z2d J2 z4x q1r q7r z05 q6i q0v q72 Rp
abbrev q4k:Type:=(Envt->Prop)->Prop
def q4l:q4k:=fun K=>K (Envt.mk (Sett.mk (ByteArray.mk (Array.mk [])) (ByteArray.mk (Array.mk [])) (0:Int)) [] [] [Flg.mk (ByteArray.mk (Array.mk [102])) (1:Int) [Val.mk (1:Int) (0:Int) (ByteArray.mk (Array.mk [])) [],Val.mk (1:Int) (1:Int) (ByteArray.mk (Array.mk [])) []] true (1:Int) [] [] [] (Srv.mk (1:Int) (ByteArray.mk (Array.mk [])) (ByteArray.mk (Array.mk [])) (ByteArray.mk (Array.mk [])) [])] [Lay_.mk (ByteArray.mk (Array.mk [108])) (ByteArray.mk (Array.mk [117,115,101,114])) (ByteArray.mk (Array.mk [])) (0:Int) (0:Int) []] [Exper.mk (ByteArray.mk (Array.mk [120])) (ByteArray.mk (Array.mk [108])) (ByteArray.mk (Array.mk [102])) (ByteArray.mk (Array.mk [])) (2:Int) [Spn.mk (0:Int) (10000:Int)] [Rng.mk (0:Int) (10000:Int) (2:Int)] (Ex.mk (1:Int) (ByteArray.mk (Array.mk [])) (ByteArray.mk (Array.mk [])) [] [])])
abbrev U0:Type:=Subj->ByteArray->(Int->Prop)->Prop
def Vc:U0:=fun s kind K=>Fits s.1->Lp1 (fun Qd q1j=>CAt s.1 Qd (fun y2=>Cnd (y2.1=kind) (K Qd) (InI (Qd+1)/\q1j (Qd+1))) (K (-1:Int))) (0:Int)
abbrev V0:Type:=Val->(Val->Prop)->Prop
def J9:V0:=fun v K=> ∀n0,(n0=true->v.4=[])->Cnd (n0=true) (K (Val.mk v.1 v.2 v.3 [])) (Sml ([]++v.4).length/\K (Val.mk v.1 v.2 v.3 ([]++v.4)))
abbrev U1:Type:=Attr->(Attr->Prop)->Prop
def q3u(Zv:V0):U1:=fun a K=>Zv (Val.mk a.2.1 a.2.2 a.2.3 a.2.4) fun Qa=>K (Attr.mk a.1 Qa)
def U2:U1:=q3u J9
abbrev Rs:Type:=Ctxt->(Ctxt->Prop)->Prop
def q8i(Bo:U1):Rs:=fun c K=>Fits c.3->((0:Int)<=(0:Int)/\(0:Int)<=(↑c.3.length:Int)/\Sml (↑c.3.length:Int).toNat)/\(Fits c.3->Lp2 (fun Qg Zn q7g=>CAt c.3 Zn (fun y3=>Bo (Attr.mk y3.1 (Val.mk y3.2.1 y3.2.2 y3.2.3 y3.2.4)) fun Qm=>Sml (Qg++[Attr.mk Qm.1 (Val.mk Qm.2.1 Qm.2.2 Qm.2.3 Qm.2.4)]).length/\InI (Zn+1)/\q7g (Qg++[Attr.mk Qm.1 (Val.mk Qm.2.1 Qm.2.2 Qm.2.3 Qm.2.4)]) (Zn+1)) (K (Ctxt.mk c.1 c.2 Qg))) (List.replicate (Int.toNat (0:Int)) (Attr.mk (ByteArray.mk (Array.mk [])) (Val.mk (0:Int) (0:Int) (ByteArray.mk (Array.mk [])) []))) (0:Int))
def Rt:Rs:=q8i U2
abbrev Wa:Type:=Subj->ByteArray->(Ctxt->Bool->Prop)->Prop
def z0e(Jv:U0)(q3g:Rs):Wa:=fun s kind K=>Jv (Subj.mk s.1) kind fun Qa=>Cnd (Qa<0) (K (Ctxt.mk (ByteArray.mk (Array.mk [])) (ByteArray.mk (Array.mk [])) []) false) (At s.1 Qa fun y1=>q3g y1 fun Qf=>K Qf true)
def Wb:Wa:=z0e Vc Rt
abbrev q4m:Type:=List (List Int)->(List (Int)->Prop)->Prop
def B4:q4m:=fun fields K=>Fits fields->Lp2 (fun Qd Z9 z6q=>CAt fields Z9 (fun y2=>Lp2 (fun Qe Jz w8m=>Cnd ((0:Int)<=Jz) (Fits y2->InI ((8:Int)*Jz)/\(0:Int)<=(8:Int)*Jz/\Sml (Qe++[Go.IntKind.u8.wrap ((Go.IntKind.u64.wrap (↑y2.length:Int)).fdiv ((2:Int) ^ Min.min ((8:Int)*Jz).toNat (64:Nat)))]).length/\InI (Jz - 1)/\w8m (Qe++[Go.IntKind.u8.wrap ((Go.IntKind.u64.wrap (↑y2.length:Int)).fdiv ((2:Int) ^ Min.min ((8:Int)*Jz).toNat (64:Nat)))]) (Jz - 1)) (Sml (Qe++y2).length/\InI (Z9+1)/\z6q (Qe++y2) (Z9+1))) Qd (7:Int)) (K Qd)) [] (0:Int)
abbrev Gg:Type:=Int->Int->(Int->Prop)->Prop
def Vd:Gg:=fun x k K=>(0:Int)<=Go.IntKind.u64.wrap (↑(BitVec.ofInt (64:Nat) (Go.IntKind.u64.wrap k) &&& BitVec.ofInt (64:Nat) (63:Int)).toNat:Int)/\(0:Int)<=Go.IntKind.u64.wrap ((64:Int) - Go.IntKind.u64.wrap (↑(BitVec.ofInt (64:Nat) (Go.IntKind.u64.wrap k) &&& BitVec.ofInt (64:Nat) (63:Int)).toNat:Int))/\K (Go.IntKind.u64.wrap (↑(BitVec.ofInt (64:Nat) (Go.IntKind.u64.wrap (x*2 ^ Min.min (Go.IntKind.u64.wrap (↑(BitVec.ofInt (64:Nat) (Go.IntKind.u64.wrap k) &&& BitVec.ofInt (64:Nat) (63:Int)).toNat:Int)).toNat (64:Nat)))|||BitVec.ofInt (64:Nat) (x.fdiv ((2:Int) ^ Min.min (Go.IntKind.u64.wrap ((64:Int) - Go.IntKind.u64.wrap (↑(BitVec.ofInt (64:Nat) (Go.IntKind.u64.wrap k) &&& BitVec.ofInt (64:Nat) (63:Int)).toNat:Int))).toNat (64:Nat)))).toNat:Int))
abbrev Je:Type:=Int->Int->Int->Int->Int->(Int->Int->Int->Int->Prop)->Prop
def Bu(Zq:Gg):Je:=fun v0 v1 v2 v3 n K=>Lp5 (fun Qa Q0 j2i q6d w5n y7b=>Cnd (Qa<n) (Zq j2i (13:Int) fun Qd=>Zq (Go.IntKind.u64.wrap (Q0+j2i)) (32:Int) fun Qg=>Zq w5n (16:Int) fun Qf=>Zq (Go.IntKind.u64.wrap (↑(BitVec.ofInt (64:Nat) Qf ^^^ BitVec.ofInt (64:Nat) (Go.IntKind.u64.wrap (q6d+w5n))).toNat:Int)) (21:Int) fun Qe=>Zq (Go.IntKind.u64.wrap (↑(BitVec.ofInt (64:Nat) Qd ^^^ BitVec.ofInt (64:Nat) (Go.IntKind.u64.wrap (Q0+j2i))).toNat:Int)) (17:Int) fun Qm=>Zq (Go.IntKind.u64.wrap (Go.IntKind.u64.wrap (q6d+w5n)+Go.IntKind.u64.wrap (↑(BitVec.ofInt (64:Nat) Qd ^^^ BitVec.ofInt (64:Nat) (Go.IntKind.u64.wrap (Q0+j2i))).toNat:Int))) (32:Int) fun Ja=>InI (Qa+1)/\y7b (Qa+1) (Go.IntKind.u64.wrap (Qg+Go.IntKind.u64.wrap (↑(BitVec.ofInt (64:Nat) Qf ^^^ BitVec.ofInt (64:Nat) (Go.IntKind.u64.wrap (q6d+w5n))).toNat:Int))) (Go.IntKind.u64.wrap (↑(BitVec.ofInt (64:Nat) Qm ^^^ BitVec.ofInt (64:Nat) (Go.IntKind.u64.wrap (Go.IntKind.u64.wrap (q6d+w5n)+Go.IntKind.u64.wrap (↑(BitVec.ofInt (64:Nat) Qd ^^^ BitVec.ofInt (64:Nat) (Go.IntKind.u64.wrap (Q0+j2i))).toNat:Int)))).toNat:Int)) Ja (Go.IntKind.u64.wrap (↑(BitVec.ofInt (64:Nat) Qe ^^^ BitVec.ofInt (64:Nat) (Go.IntKind.u64.wrap (Qg+Go.IntKind.u64.wrap (↑(BitVec.ofInt (64:Nat) Qf ^^^ BitVec.ofInt (64:Nat) (Go.IntKind.u64.wrap (q6d+w5n))).toNat:Int)))).toNat:Int))) (K Q0 j2i q6d w5n)) (0:Int) v0 v1 v2 v3
def Q8:Je:=Bu Vd
abbrev V1:Type:=Int->Int->Int->Int->Int->(Int->Int->Int->Int->Prop)->Prop
def q18(Zj:Je):V1:=fun v0 v1 v2 v3 m K=>Zj v0 v1 v2 (Go.IntKind.u64.wrap (↑(BitVec.ofInt (64:Nat) v3 ^^^ BitVec.ofInt (64:Nat) m).toNat:Int)) (2:Int) fun Qa Q0 j2i q6d=>K (Go.IntKind.u64.wrap (↑(BitVec.ofInt (64:Nat) Qa ^^^ BitVec.ofInt (64:Nat) m).toNat:Int)) Q0 j2i q6d
def V2:V1:=q18 Q8
abbrev q5e:Type:=Int->Int->List (Int)->(Int->Prop)->Prop
def z5a(Ud:V1)(Zj:Je):q5e:=fun k0 k1 b K=>Fits b->(0:Int)<=(56:Int)/\Lp5 (fun Qd Z9 j2g j4z y66 y8y=>InI (Qd+8)/\(Fits b->Cnd (Qd+8<=(↑b.length:Int)) (Lp2 (fun Qf Uj j6e=>Cnd (Uj<8) (InI (Qd+Uj)/\At b (Qd+Uj) fun y4=>InI ((8:Int)*Uj)/\(0:Int)<=(8:Int)*Uj/\InI (Uj+1)/\j6e (Go.IntKind.u64.wrap (↑(BitVec.ofInt (64:Nat) Qf|||BitVec.ofInt (64:Nat) (Go.IntKind.u64.wrap (Go.IntKind.u64.wrap y4*2 ^ Min.min ((8:Int)*Uj).toNat (64:Nat)))).toNat:Int)) (Uj+1)) (Ud Z9 j2g j4z y66 Qf fun Qe Jz j2l v93=>InI (Qd+8)/\y8y (Qd+8) Qe Jz j2l v93)) (0:Int) (0:Int)) (Fits b->(8:Int)≠(0:Int)/\Lp2 (fun Qe Jz w8m=>Cnd (Jz<(↑b.length:Int).tmod (8:Int)) (Fits b->Fits b->(8:Int)≠(0:Int)/\InI ((↑b.length:Int) - (↑b.length:Int).tmod (8:Int))/\InI ((↑b.length:Int) - (↑b.length:Int).tmod (8:Int)+Jz)/\((0:Int)<=(↑b.length:Int) - (↑b.length:Int).tmod (8:Int)+Jz/\(↑b.length:Int) - (↑b.length:Int).tmod (8:Int)+Jz<(↑b.length:Int))/\ ∀y7,b[((↑b.length:Int) - (↑b.length:Int).tmod (8:Int)+Jz).toNat]? =some y7->InI ((8:Int)*Jz)/\(0:Int)<=(8:Int)*Jz/\InI (Jz+1)/\w8m (Go.IntKind.u64.wrap (↑(BitVec.ofInt (64:Nat) Qe|||BitVec.ofInt (64:Nat) (Go.IntKind.u64.wrap (Go.IntKind.u64.wrap y7*2 ^ Min.min ((8:Int)*Jz).toNat (64:Nat)))).toNat:Int)) (Jz+1)) (Ud Z9 j2g j4z y66 Qe fun Qm q9g u0i u1j=>Zj Qm q9g (Go.IntKind.u64.wrap (↑(BitVec.ofInt (64:Nat) u0i ^^^ BitVec.ofInt (64:Nat) (255:Int)).toNat:Int)) u1j (4:Int) fun Ja j0d y32 y6n=>K (Go.IntKind.u64.wrap (↑(BitVec.ofInt (64:Nat) (Go.IntKind.u64.wrap (↑(BitVec.ofInt (64:Nat) (Go.IntKind.u64.wrap (↑(BitVec.ofInt (64:Nat) Ja ^^^ BitVec.ofInt (64:Nat) j0d).toNat:Int)) ^^^ BitVec.ofInt (64:Nat) y32).toNat:Int)) ^^^ BitVec.ofInt (64:Nat) y6n).toNat:Int)))) (Go.IntKind.u64.wrap (Go.IntKind.u64.wrap (↑b.length:Int)*2 ^ Min.min (Int.toNat (56:Int)) (64:Nat))) (0:Int)))) (0:Int) (Go.IntKind.u64.wrap (↑(BitVec.ofInt (64:Nat) k0 ^^^ BitVec.ofInt (64:Nat) (8317987319222330741:Int)).toNat:Int)) (Go.IntKind.u64.wrap (↑(BitVec.ofInt (64:Nat) k1 ^^^ BitVec.ofInt (64:Nat) (7237128888997146477:Int)).toNat:Int)) (Go.IntKind.u64.wrap (↑(BitVec.ofInt (64:Nat) k0 ^^^ BitVec.ofInt (64:Nat) (7816392313619706465:Int)).toNat:Int)) (Go.IntKind.u64.wrap (↑(BitVec.ofInt (64:Nat) k1 ^^^ BitVec.ofInt (64:Nat) (8387220255154660723:Int)).toNat:Int))
def q5f:q5e:=z5a V2 Q8
abbrev q19:Type:=Int->List (List Int)->(Int->Prop)->Prop
def z2j(q4x:q4m)(q95:q5e):q19:=fun domain fields K=>q4x fields fun Qa=>q95 domain (0:Int) Qa fun Qd=>K Qd
def q2a:q19:=z2j B4 q5f
abbrev q0x:Type:=ByteArray->ByteArray->(Int->Prop)->Prop
def z9d(q61:q19):q0x:=fun salt key K=>Sml salt.size/\Sml key.size/\q61 (1:Int) [List.map (fun b=>(↑b.toNat:Int)) (salt,key,()).1.data.toList,List.map (fun b=>(↑b.toNat:Int)) (salt,key,()).2.1.data.toList] fun Qa=>(10000:Int)≠(0:Int)/\InI (Qa.tmod (10000:Int))/\K (Qa.tmod (10000:Int))
def Gh:q0x:=z9d q2a
abbrev U3:Type:=List (Frc)->ByteArray->(Frc->Bool->Prop)->Prop
def Ve:U3:=fun l layer K=>Fits l->Lp4 (fun Qd Z9 j2g j4z u1k=>CAt l Qd (fun y2=>Cnd (y2.1=layer) (K y2 true) (InI (Qd+1)/\u1k (Qd+1) Z9 j2g j4z)) (K (Frc.mk (ByteArray.mk (Array.mk [])) (ByteArray.mk (Array.mk [])) (0:Int)) false)) (0:Int) (ByteArray.mk (Array.mk [])) (ByteArray.mk (Array.mk [])) (0:Int)
abbrev q6k:Type:=Envt->Frc->(Bool->Prop)->Prop
def q2b:q6k:=fun v f K=>Fits v.6->Lp1 (fun Qd q1j=>CAt v.6 Qd (fun y2=>Cnd (y2.1=f.2) (Cnd (y2.2=f.1) (Cnd (y2.5=2) (Fits y2.7->Lp1 (fun Qm j65=>CAt y2.7 Qm (fun y6=>Cnd (y6.3=f.3) (Cnd ((0:Int)<=Qm) (K (decide ((0:Int)<=Qd))) (InI (Qd+1)/\q1j (Qd+1))) (InI (Qm+1)/\j65 (Qm+1))) (Cnd ((0:Int)<=(-1:Int)) (K (decide ((0:Int)<=Qd))) (InI (Qd+1)/\q1j (Qd+1)))) (0:Int)) (InI (Qd+1)/\q1j (Qd+1))) (InI (Qd+1)/\q1j (Qd+1))) (InI (Qd+1)/\q1j (Qd+1))) (K (decide ((0:Int)<=(-1:Int))))) (0:Int)
abbrev Gi:Type:=Envt->Subj->(Bool->Prop)->Prop
def z2k(Zm:Wa)(Um:q0x):Gi:=fun v s K=>Cnd (v.1.3<=0) (K false) (Zm (Subj.mk s.1) v.1.2 fun Qa Q0=>Cnd (Q0=true) (Um v.1.1 Qa.2 fun Qd=>K (decide (Qd<v.1.3))) (K false))
def Gj:Gi:=z2k Wb Gh
abbrev Bb:Type:=Int->(Bool->Prop)->Prop
def V3:Bb:=fun op K=>Cnd ((6:Int)<=op) (K (decide (op<=15))) (K false)
abbrev Za:Type:=List (ByteArray)->List (ByteArray)->(Bool->Prop)->Prop
def Q2:Za:=fun s1 s2 K=>Fits s1->Fits s2->Cnd ((↑s1.length:Int)=(↑s2.length:Int)) (Fits s1->Lp1 (fun Qf j0e=>CAt s1 Qf (fun y4=>At s2 Qf fun y6=>Cnd (y4=y6) (InI (Qf+1)/\j0e (Qf+1)) (K false)) (K true)) (0:Int)) (K false)
abbrev q5g:Type:=Val->Val->(Bool->Prop)->Prop
def z5b(Qo:Za):q5g:=fun a b K=>Cnd (a.1=b.1) (Cnd (a.2=b.2) (Cnd (a.3=b.3) (Qo a.4 b.4 fun Qa=>K Qa) (K false)) (K false)) (K false)
def q1f:q5g:=z5b Q2
abbrev Ru:Type:=Ex->Ex->(Bool->Prop)->Prop
def z9e(q96:q5g)(X:Ru):Ru:=fun a b K=>Cnd (a.1=b.1) (Cnd (a.2=b.2) (Cnd (a.3=b.3) (Fits a.4->Fits b.4->Cnd ((↑a.4.length:Int)=(↑b.4.length:Int)) (Fits a.4->Lp1 (fun Qf j0e=>CAt a.4 Qf (fun y4=>At b.4 Qf fun y6=>q96 y4 y6 fun Uk=>Cnd (Uk=true) (InI (Qf+1)/\j0e (Qf+1)) (K false)) (Fits a.5->Fits b.5->Cnd ((↑a.5.length:Int)=(↑b.5.length:Int)) (Fits a.5->Lp1 (fun W7 y6o=>CAt a.5 W7 (fun y8=>At b.5 W7 fun y10=>X (Ex.mk y8.1 y8.2 y8.3 y8.4 y8.5) (Ex.mk y10.1 y10.2 y10.3 y10.4 y10.5) fun Hk=>Cnd (Hk=true) (InI (W7+1)/\y6o (W7+1)) (K false)) (K true)) (0:Int)) (K false))) (0:Int)) (K false)) (K false)) (K false)) (K false)
def q0y:Ru:=fun a b K=> ∀X:Ru,(∀a b K,z9e q1f X a b K->X a b K)->X a b K
abbrev W6:Type:=List (Ex)->Ex->(List (Ex)->Prop)->Prop
def z0f(Wx:Bb)(q9f:Ru)(X:W6):W6:=fun l e K=>Jn1 (fun Qa=>Fits e.5->Lp2 (fun Qg Zn q7g=>CAt e.5 Zn (fun y3=>X Qg (Ex.mk y3.1 y3.2 y3.3 y3.4 y3.5) fun Qm=>InI (Zn+1)/\q7g Qm (Zn+1)) (K Qg)) Qa (0:Int)) fun z11=>Wx e.1 fun Qd=>Cnd (Qd=true) (Fits l->Lp1 (fun Qf j0e=>CAt l Qf (fun y4=>q9f (Ex.mk y4.1 y4.2 y4.3 y4.4 y4.5) (Ex.mk e.1 e.2 e.3 e.4 e.5) fun Ja=>Cnd (Ja=true) (Cnd ((0:Int)<=Qf) (z11 l) (Sml (l++[Ex.mk e.1 e.2 e.3 e.4 e.5]).length/\z11 (l++[Ex.mk e.1 e.2 e.3 e.4 e.5]))) (InI (Qf+1)/\j0e (Qf+1))) (Cnd ((0:Int)<=(-1:Int)) (z11 l) (Sml (l++[Ex.mk e.1 e.2 e.3 e.4 e.5]).length/\z11 (l++[Ex.mk e.1 e.2 e.3 e.4 e.5])))) (0:Int)) (Cnd (e.1=5) (Fits l->Lp1 (fun Qf j0e=>CAt l Qf (fun y4=>q9f (Ex.mk y4.1 y4.2 y4.3 y4.4 y4.5) (Ex.mk e.1 e.2 e.3 e.4 e.5) fun Ja=>Cnd (Ja=true) (Cnd ((0:Int)<=Qf) (z11 l) (Sml (l++[Ex.mk e.1 e.2 e.3 e.4 e.5]).length/\z11 (l++[Ex.mk e.1 e.2 e.3 e.4 e.5]))) (InI (Qf+1)/\j0e (Qf+1))) (Cnd ((0:Int)<=(-1:Int)) (z11 l) (Sml (l++[Ex.mk e.1 e.2 e.3 e.4 e.5]).length/\z11 (l++[Ex.mk e.1 e.2 e.3 e.4 e.5])))) (0:Int)) (z11 l))
def B5:W6:=fun l e K=> ∀X:W6,(∀l e K,z0f V3 q0y X l e K->X l e K)->X l e K
abbrev Gc:Type:=Ex->(Ex->Prop)->Prop
def z5c(Zv:V0)(X:Gc):Gc:=fun e K=>Fits e.4->((0:Int)<=(0:Int)/\(0:Int)<=(↑e.4.length:Int)/\Sml (↑e.4.length:Int).toNat)/\(Fits e.4->Lp2 (fun Qg Zn q7g=>CAt e.4 Zn (fun y3=>Zv y3 fun Qm=>Sml (Qg++[Qm]).length/\InI (Zn+1)/\q7g (Qg++[Qm]) (Zn+1)) (Fits e.5->((0:Int)<=(0:Int)/\(0:Int)<=(↑e.5.length:Int)/\Sml (↑e.5.length:Int).toNat)/\(Fits e.5->Lp2 (fun Qm q9g y83=>CAt e.5 q9g (fun y6=>X (Ex.mk y6.1 y6.2 y6.3 y6.4 y6.5) fun Uk=>Sml (Qm++[Ex.mk Uk.1 Uk.2 Uk.3 Uk.4 Uk.5]).length/\InI (q9g+1)/\y83 (Qm++[Ex.mk Uk.1 Uk.2 Uk.3 Uk.4 Uk.5]) (q9g+1)) (K (Ex.mk e.1 e.2 e.3 Qg Qm))) (List.replicate (Int.toNat (0:Int)) (Ex.mk (0:Int) (ByteArray.mk (Array.mk [])) (ByteArray.mk (Array.mk [])) [] [])) (0:Int)))) (List.replicate (Int.toNat (0:Int)) (Val.mk (0:Int) (0:Int) (ByteArray.mk (Array.mk [])) [])) (0:Int))
def q5h:Gc:=fun e K=> ∀X:Gc,(∀e K,z5c J9 X e K->X e K)->X e K
abbrev B6:Type:=Ex->(List (Ex)->Prop)->Prop
def z0g(q4y:W6)(q97:Gc):B6:=fun e K=>q4y [] (Ex.mk e.1 e.2 e.3 e.4 e.5) fun Qa=>Fits Qa->((0:Int)<=(0:Int)/\(0:Int)<=(↑Qa.length:Int)/\Sml (↑Qa.length:Int).toNat)/\(Fits Qa->Lp2 (fun Qf Uj j6e=>CAt Qa Uj (fun y4=>q97 (Ex.mk y4.1 y4.2 y4.3 y4.4 y4.5) fun Ja=>Sml (Qf++[Ex.mk Ja.1 Ja.2 Ja.3 Ja.4 Ja.5]).length/\InI (Uj+1)/\j6e (Qf++[Ex.mk Ja.1 Ja.2 Ja.3 Ja.4 Ja.5]) (Uj+1)) (K Qf)) (List.replicate (Int.toNat (0:Int)) (Ex.mk (0:Int) (ByteArray.mk (Array.mk [])) (ByteArray.mk (Array.mk [])) [] [])) (0:Int))
def q4n:B6:=z0g B5 q5h
abbrev Zs:Type:=List (ByteArray)->(List (ByteArray)->Prop)->Prop
def Zd(x:List (ByteArray))(K:List (ByteArray)->Prop):Prop:=K (srt x)
abbrev J4:Type:=List (ByteArray)->(List (ByteArray)->Prop)->Prop
def Z3(s:List (ByteArray))(K:List (ByteArray)->Prop):Prop:=K (cpt s)
abbrev Hb:Type:=Ex->(List (ByteArray)->Prop)->Prop
def q52(q4z:B6)(Qr:Zs)(Z7:J4):Hb:=fun e K=>q4z (Ex.mk e.1 e.2 e.3 e.4 e.5) fun Qa=>Fits Qa->Lp2 (fun Qg Zn q7g=>CAt Qa Zn (fun y3=>Cnd (y3.1=5) (Sml (Qg++[y3.3]).length/\InI (Zn+1)/\q7g (Qg++[y3.3]) (Zn+1)) (InI (Zn+1)/\q7g Qg (Zn+1))) (Qr Qg fun Qf=>Z7 Qf fun Qe=>K Qe)) [] (0:Int)
def Hc:Hb:=q52 q4n Zd Z3
abbrev z2l:Type:=List (ByteArray)->List (Edg)->(List (ByteArray)->Int->Prop)->Prop
def P_graph_Order(nodes:List (ByteArray))(edges:List (Edg))(K:List (ByteArray)->Int->Prop):Prop:=Go.Fl.P_graph_Order nodes (edges.map fun e=>(e.1,e.2)) K
abbrev Rv:Type:=List (Seg)->(List (ByteArray)->Int->Prop)->Prop
def q8j(q0q:Hb)(q62:z2l):Rv:=fun l K=>Fits l->Lp3 (fun Qd Z9 j2g y2s=>CAt l j2g (fun y2=>Sml (Qd++[y2.1]).length/\q0q (Ex.mk y2.5.1 y2.5.2 y2.5.3 y2.5.4 y2.5.5) fun Qe=>Fits Qe->Lp2 (fun Ja j0d y6m=>CAt Qe j0d (fun y7=>Sml (Ja++[Edg.mk y2.1 y7]).length/\InI (j0d+1)/\y6m (Ja++[Edg.mk y2.1 y7]) (j0d+1)) (InI (j2g+1)/\y2s (Qd++[y2.1]) Ja (j2g+1))) Z9 (0:Int)) (q62 Qd Z9 fun Qg Zn=>K Qg Zn)) [] [] (0:Int)
def Rw:Rv:=q8j Hc P_graph_Order
abbrev Hd:Type:=Subj->ByteArray->ByteArray->(Val->Bool->Prop)->Prop
def q53(Jv:U0)(Zv:V0):Hd:=fun s kind name K=>Jv (Subj.mk s.1) kind fun Qa=>Cnd (Qa<0) (K (Val.mk (0:Int) (0:Int) (ByteArray.mk (Array.mk [])) []) false) (At s.1 Qa fun y1=>Cnd (name=ByteArray.mk (Array.mk [107,101,121])) (K (Val.mk (3:Int) (0:Int) y1.2 []) true) (Fits y1.3->Lp5 (fun Qe Jz j2l v93 (u0h:List ByteArray) y9j=>CAt y1.3 Qe (fun y5=>Cnd (y5.1=name) (Zv (Val.mk y5.2.1 y5.2.2 y5.2.3 y5.2.4) fun W7=>K W7 true) (InI (Qe+1)/\y9j (Qe+1) Jz j2l v93 u0h)) (K (Val.mk (0:Int) (0:Int) (ByteArray.mk (Array.mk [])) []) false)) (0:Int) (0:Int) (0:Int) (ByteArray.mk (Array.mk [])) []))
def He:Hd:=q53 Vc J9
abbrev q2c:Type:=Val->Val->(Bool->Prop)->Prop
def z2m(Qo:Za):q2c:=fun a b K=>Cnd (a.1=b.1) (Cnd (a.2=b.2) (Cnd (a.3=b.3) (Qo a.4 b.4 fun Qa=>K Qa) (K false)) (K false)) (K false)
def Bc:q2c:=z2m Q2
abbrev Z4:Type:=ByteArray->ByteArray->(Bool->Prop)->Prop
def Zo:Z4:=fun s prefix_ K=>Cnd ((↑prefix_.size:Int)<=(↑s.size:Int)) (((0:Int)<=(0:Int)/\(0:Int)<=(↑prefix_.size:Int)/\(↑prefix_.size:Int)<=(↑s.size:Int))/\K (decide (s.extract (Int.toNat (0:Int)) (↑prefix_.size:Int).toNat=prefix_))) (K false)
abbrev Vf:Type:=ByteArray->ByteArray->(Bool->Prop)->Prop
def q0z(Q6:Z4):Vf:=fun s prefix_ K=>Q6 s prefix_ fun Qa=>K Qa
def Vg:Vf:=q0z Zo
abbrev Wp:Type:=ByteArray->ByteArray->(Bool->Prop)->Prop
def Wq:Wp:=fun s suffix K=>Cnd ((↑suffix.size:Int)<=(↑s.size:Int)) (InI ((↑s.size:Int) - (↑suffix.size:Int))/\((0:Int)<=(↑s.size:Int) - (↑suffix.size:Int)/\(↑s.size:Int) - (↑suffix.size:Int)<=(↑s.size:Int)/\(↑s.size:Int)<=(↑s.size:Int))/\K (decide (s.extract ((↑s.size:Int) - (↑suffix.size:Int)).toNat (↑s.size:Int).toNat=suffix))) (K false)
abbrev Vh:Type:=ByteArray->ByteArray->(Bool->Prop)->Prop
def q00(Wy:Wp):Vh:=fun s suffix K=>Wy s suffix fun Qa=>K Qa
def Vi:Vh:=q00 Wq
abbrev q2d:Type:=ByteArray->ByteArray->(Bool->Prop)->Prop
def Hu(s:ByteArray)(substr:ByteArray)(K:Bool->Prop):Prop:=s.size<4294967281/\K (Go.Lib.contains s.data.toList substr.data.toList)
abbrev q6l:Type:=Val->(Bool->Prop)->Prop
def q2e:q6l:=fun v K=>Jn1 (fun Qa=>Cnd (Qa=true) (Cnd (v.3=ByteArray.mk (Array.mk [])) (Fits v.4->K (decide ((↑v.4.length:Int)=0))) (K false)) (Jn1 (fun Qd=>Cnd (Qd=true) (Cnd (v.2=0) (Fits v.4->K (decide ((↑v.4.length:Int)=0))) (K false)) (Cnd (v.2=0) (K (decide (v.3=ByteArray.mk (Array.mk [])))) (K false))) fun w2t=>Cnd (v.1=3) (w2t (decide (v.1=3))) (w2t (decide (v.1=4))))) fun z11=>Cnd (v.1=1) (z11 (decide (v.1=1))) (z11 (decide (v.1=2)))
abbrev q5i:Type:=ByteArray->(Bool->Prop)->Prop
def z5d(Zu:Vx):q5i:=fun s K=>Cnd ((200:Int)<(↑s.size:Int)) (K false) (Zu s fun Qa=>Cnd (Qa=true) (Lp1 (fun (Qd:ByteArray×Nat) q1j=>Cnd (Qd.2<Qd.1.size) (Cnd ((↑(Go.Utf8.decode Qd.1 Qd.2).1:Int)<(32:Int)) (K false) (Cnd ((↑(Go.Utf8.decode Qd.1 Qd.2).1:Int)=(127:Int)) (K false) (q1j (Qd.1,Qd.2+(Go.Utf8.decode Qd.1 Qd.2).2)))) (K true)) (s,(0:Nat))) (K false))
def q5j:q5i:=z5d Js
abbrev q8k:Type:=ByteArray->ByteArray->(List (ByteArray)->Prop)->Prop
def q2f(s:ByteArray)(sep:ByteArray)(K:List (ByteArray)->Prop):Prop:=sep.size=1/\s.size<4294967281/\K (q1a s sep)
abbrev Jt:Type:=ByteArray->ByteArray->(ByteArray->Bool->Prop)->Prop
def Gk(Q6:Z4):Jt:=fun s prefix_ K=>Q6 s prefix_ fun Qa=>Cnd (Qa=true) (((0:Int)<=(↑prefix_.size:Int)/\(↑prefix_.size:Int)<=(↑s.size:Int)/\(↑s.size:Int)<=(↑s.size:Int))/\K (s.extract (↑prefix_.size:Int).toNat (↑s.size:Int).toNat) true) (K s false)
def Wr:Jt:=Gk Zo
abbrev Vj:Type:=ByteArray->ByteArray->(ByteArray->Bool->Prop)->Prop
def q01(Wz:Jt):Vj:=fun s prefix_ K=>Wz s prefix_ fun Qa Q0=>K Qa Q0
def Vk:Vj:=q01 Wr
abbrev z0h:Type:=ByteArray->(Int->Bool->Prop)->Prop
def B7(s:ByteArray)(K:Int->Bool->Prop):Prop:=s.size<=281474976710656/\y1m s K
abbrev V4:Type:=ByteArray->(Int->Int->Prop)->Prop
def q2g(Gz:Vj)(q0f:z0h):V4:=fun s K=>Gz s (ByteArray.mk (Array.mk [45])) fun Qa Q0=>Cnd (Qa=ByteArray.mk (Array.mk [])) (K (0:Int) (1:Int)) (((0:Int)<=(0:Int)/\(0:Int)<(↑Qa.size:Int))/\ ∀b1,Qa[Int.toNat (0:Int)]? =some b1->Cnd ((↑b1.toNat:Int)=48) (Cnd ((1:Int)<(↑Qa.size:Int)) (K (0:Int) (1:Int)) (Cnd (Q0=true) (K (0:Int) (1:Int)) (Lp1 (fun (Qf:ByteArray×Nat) j0e=>Cnd (Qf.2<Qf.1.size) (Cnd ((↑(Go.Utf8.decode Qf.1 Qf.2).1:Int)<(48:Int)) (K (0:Int) (1:Int)) (Cnd ((57:Int)<(↑(Go.Utf8.decode Qf.1 Qf.2).1:Int)) (K (0:Int) (1:Int)) (j0e (Qf.1,Qf.2+(Go.Utf8.decode Qf.1 Qf.2).2)))) (q0f s fun Qe Jz=>Cnd ((match (Qe,Jz,()).2.1 with|true=>false|false=>true)=true) (K (0:Int) (3:Int)) (Cnd (Qe<(-1099511627776:Int)) (K (0:Int) (3:Int)) (Cnd ((1099511627776:Int)<Qe) (K (0:Int) (3:Int)) (K Qe (0:Int)))))) (Qa,(0:Nat))))) (Lp1 (fun (Qf:ByteArray×Nat) j0e=>Cnd (Qf.2<Qf.1.size) (Cnd ((↑(Go.Utf8.decode Qf.1 Qf.2).1:Int)<(48:Int)) (K (0:Int) (1:Int)) (Cnd ((57:Int)<(↑(Go.Utf8.decode Qf.1 Qf.2).1:Int)) (K (0:Int) (1:Int)) (j0e (Qf.1,Qf.2+(Go.Utf8.decode Qf.1 Qf.2).2)))) (q0f s fun Qe Jz=>Cnd ((match (Qe,Jz,()).2.1 with|true=>false|false=>true)=true) (K (0:Int) (3:Int)) (Cnd (Qe<(-1099511627776:Int)) (K (0:Int) (3:Int)) (Cnd ((1099511627776:Int)<Qe) (K (0:Int) (3:Int)) (K Qe (0:Int)))))) (Qa,(0:Nat))))
def V5:V4:=q2g Vk B7
abbrev Gl:Type:=ByteArray->(A3->Bool->Prop)->Prop
def z2n(q3h:q8k)(Hz:V4):Gl:=fun s K=>q3h s (ByteArray.mk (Array.mk [46])) fun Qa=>Fits Qa->Cnd ((↑Qa.length:Int)=3) (Fits Qa->LpH (fun (Qf:Int×Int×Int×Int×Int×Int×Int×Unit) j0e=>CAt Qa Qf.1 (fun y4=>Hz y4 fun Ja j0d=>Cnd (j0d=0) (Cnd (Ja<0) (K ((0:Int),(0:Int),(0:Int)) false) (Cnd ((999999:Int)<Ja) (K ((0:Int),(0:Int),(0:Int)) false) (((0:Int)<=Qf.1/\Qf.1<(↑(3:Nat):Int))/\((True/\(Qf.1=(↑(nat_lit 0):Int)->InI (Qf.1+1)/\j0e (Qf.1+1,Ja,Qf.2.2.1,Qf.2.2.2.1,Qf.2.2.2.2.1,Qf.2.2.2.2.2.1,Qf.2.2.2.2.2.2.1,())))/\(Qf.1=(↑(nat_lit 1):Int)->InI (Qf.1+1)/\j0e (Qf.1+1,Qf.2.1,Ja,Qf.2.2.2.1,Qf.2.2.2.2.1,Qf.2.2.2.2.2.1,Qf.2.2.2.2.2.2.1,())))/\(Qf.1=(↑(nat_lit 2):Int)->InI (Qf.1+1)/\j0e (Qf.1+1,Qf.2.1,Qf.2.2.1,Ja,Qf.2.2.2.2.1,Qf.2.2.2.2.2.1,Qf.2.2.2.2.2.2.1,()))))) (K ((0:Int),(0:Int),(0:Int)) false)) (K (Qf.2.1,Qf.2.2.1,Qf.2.2.2.1) true)) ((0:Int),(0:Int),(0:Int),(0:Int),(0:Int),(0:Int),(0:Int),())) (K ((0:Int),(0:Int),(0:Int)) false)
def Gm:Gl:=z2n q2f V5
abbrev q2h:Type:=Val->(Int->Prop)->Prop
def z2o(q63:q6l)(q5v:q5i)(Wd:Gl):q2h:=fun v K=>Cnd (v.1<1) (K (7:Int)) (Cnd ((5:Int)<v.1) (K (7:Int)) (q63 v fun Qa=>Cnd (Qa=true) (Cnd (v.1=1) (Cnd (v.2=0) (K (0:Int)) (Cnd (v.2=1) (K (0:Int)) (K (3:Int)))) (Cnd (v.1=2) (Cnd (v.2<(-1099511627776:Int)) (K (3:Int)) (Cnd ((1099511627776:Int)<v.2) (K (3:Int)) (K (0:Int)))) (Cnd (v.1=3) (q5v v.3 fun Qd=>Cnd (Qd=true) (K (0:Int)) (K (2:Int))) (Cnd (v.1=4) (Wd v.3 fun (_:Int×Int×Int) Z9=>Cnd (Z9=true) (K (0:Int)) (K (1:Int))) (Cnd (v.1=5) (Fits v.4->Cnd ((20:Int)<(↑v.4.length:Int)) (K (5:Int)) (Fits v.4->Lp1 (fun Qf j0e=>CAt v.4 Qf (fun y4=>q5v y4 fun Ja=>Cnd (Ja=true) (InI (Qf+1)/\j0e (Qf+1)) (K (2:Int))) (Fits v.4->Lp1 (fun Qm j65=>Cnd (Qm<(↑v.4.length:Int)) (Cnd ((0:Int)<Qm) (InI (Qm - 1)/\((0:Int)<=Qm - 1/\Qm - 1<(↑v.4.length:Int))/\ ∀y6,v.4[(Qm - 1).toNat]? =some y6->At v.4 Qm fun y8=>Cnd (Lk.blt y6 y8) (InI (Qm+1)/\j65 (Qm+1)) (K (9:Int))) (InI (Qm+1)/\j65 (Qm+1))) (K (0:Int))) (0:Int))) (0:Int))) (K (0:Int))))))) (K (15:Int))))
def q2i:q2h:=z2o q2e q5j Gm
abbrev Rx:Type:=Val->Val->(Int->Int->Prop)->Prop
def q8l(q3i:q2h)(Wd:Gl):Rx:=fun a b K=>q3i a fun Qa=>Cnd (Qa=0) (q3i b fun Qd=>Cnd (Qd=0) (Cnd (a.1=b.1) (Cnd (a.1=1) (K (0:Int) (8:Int)) (Cnd (a.1=5) (K (0:Int) (8:Int)) (Cnd (a.1=2) (Cnd (a.2=a.2) (Cnd (b.2=b.2) (Cnd (a.2<b.2) (K (-1:Int) (0:Int)) (Cnd (b.2<a.2) (K (1:Int) (0:Int)) (K (0:Int) (0:Int)))) (K (1:Int) (0:Int))) (Cnd (b.2=b.2) (K (-1:Int) (0:Int)) (K (0:Int) (0:Int)))) (Cnd (a.1=3) (Cnd (a.3=a.3) (Cnd (b.3=b.3) (Cnd (Lk.blt a.3 b.3) (K (-1:Int) (0:Int)) (Cnd (Lk.blt b.3 a.3) (K (1:Int) (0:Int)) (K (0:Int) (0:Int)))) (K (1:Int) (0:Int))) (Cnd (b.3=b.3) (K (-1:Int) (0:Int)) (K (0:Int) (0:Int)))) (Wd a.3 fun (Qg:Int×Int×Int) _=>Wd b.3 fun (Qf:Int×Int×Int) _=>([Qg.1,Qg.2.1,Qg.2.2].length<=(9223372036854775807:Nat)->Lp1 (fun Qm j65=>Cnd (Qm<(↑[Qg.1,Qg.2.1,Qg.2.2].length:Int)) (((0:Int)<=Qm/\Qm<(↑[Qg.1,Qg.2.1,Qg.2.2].length:Int))/\ ∀y6,[Qg.1,Qg.2.1,Qg.2.2][Qm.toNat]? =some y6->[Qf.1,Qf.2.1,Qf.2.2].length<=(9223372036854775807:Nat)->Cnd ((↑[Qf.1,Qf.2.1,Qf.2.2].length:Int)<=Qm) (K (1:Int) (0:Int)) (((0:Int)<=Qm/\Qm<(↑[Qf.1,Qf.2.1,Qf.2.2].length:Int))/\ ∀y9,[Qf.1,Qf.2.1,Qf.2.2][Qm.toNat]? =some y9->Cnd (y6=y6) (Cnd (y9=y9) (Cnd (y6<y9) (Cnd ((-1:Int)=(0:Int)) (InI (Qm+1)/\j65 (Qm+1)) (K (-1:Int) (0:Int))) (Cnd (y9<y6) (Cnd ((1:Int)=(0:Int)) (InI (Qm+1)/\j65 (Qm+1)) (K (1:Int) (0:Int))) (Cnd ((0:Int)=(0:Int)) (InI (Qm+1)/\j65 (Qm+1)) (K (0:Int) (0:Int))))) (Cnd ((1:Int)=(0:Int)) (InI (Qm+1)/\j65 (Qm+1)) (K (1:Int) (0:Int)))) (Cnd (y9=y9) (Cnd ((-1:Int)=(0:Int)) (InI (Qm+1)/\j65 (Qm+1)) (K (-1:Int) (0:Int))) (Cnd ((0:Int)=(0:Int)) (InI (Qm+1)/\j65 (Qm+1)) (K (0:Int) (0:Int)))))) ([Qg.1,Qg.2.1,Qg.2.2].length<=(9223372036854775807:Nat)->[Qf.1,Qf.2.1,Qf.2.2].length<=(9223372036854775807:Nat)->Cnd ((↑[Qg.1,Qg.2.1,Qg.2.2].length:Int)<(↑[Qf.1,Qf.2.1,Qf.2.2].length:Int)) (K (-1:Int) (0:Int)) (K (0:Int) (0:Int)))) (0:Int))/\([Qg.1,Qg.2.1,Qg.2.2].length<=(9223372036854775807:Nat)->Lp1 (fun Qm j65=>Cnd (Qm<(↑[Qg.1,Qg.2.1,Qg.2.2].length:Int)) (((0:Int)<=Qm/\Qm<(↑[Qg.1,Qg.2.1,Qg.2.2].length:Int))/\ ∀y6,[Qg.1,Qg.2.1,Qg.2.2][Qm.toNat]? =some y6->[Qf.1,Qf.2.1,Qf.2.2].length<=(9223372036854775807:Nat)->Cnd ((↑[Qf.1,Qf.2.1,Qf.2.2].length:Int)<=Qm) (K (1:Int) (0:Int)) (((0:Int)<=Qm/\Qm<(↑[Qf.1,Qf.2.1,Qf.2.2].length:Int))/\ ∀y9,[Qf.1,Qf.2.1,Qf.2.2][Qm.toNat]? =some y9->Cnd (y6=y6) (Cnd (y9=y9) (Cnd (y6<y9) (Cnd ((-1:Int)=(0:Int)) (InI (Qm+1)/\j65 (Qm+1)) (K (-1:Int) (0:Int))) (Cnd (y9<y6) (Cnd ((1:Int)=(0:Int)) (InI (Qm+1)/\j65 (Qm+1)) (K (1:Int) (0:Int))) (Cnd ((0:Int)=(0:Int)) (InI (Qm+1)/\j65 (Qm+1)) (K (0:Int) (0:Int))))) (Cnd ((1:Int)=(0:Int)) (InI (Qm+1)/\j65 (Qm+1)) (K (1:Int) (0:Int)))) (Cnd (y9=y9) (Cnd ((-1:Int)=(0:Int)) (InI (Qm+1)/\j65 (Qm+1)) (K (-1:Int) (0:Int))) (Cnd ((0:Int)=(0:Int)) (InI (Qm+1)/\j65 (Qm+1)) (K (0:Int) (0:Int)))))) ([Qg.1,Qg.2.1,Qg.2.2].length<=(9223372036854775807:Nat)->[Qf.1,Qf.2.1,Qf.2.2].length<=(9223372036854775807:Nat)->Cnd ((↑[Qg.1,Qg.2.1,Qg.2.2].length:Int)<(↑[Qf.1,Qf.2.1,Qf.2.2].length:Int)) (K (-1:Int) (0:Int)) (K (0:Int) (0:Int)))) (0:Int))))))) (K (0:Int) (8:Int))) (K (0:Int) Qd)) (K (0:Int) Qa)
def U4:Rx:=q8l q2i Gm
abbrev q2j:Type:=Subj->Ex->(Bool->Prop)->Prop
def z2p(q0r:Hd)(Wx:Bb)(Bp:q2c)(G0:Vf)(G1:Vh)(H0:q2d)(R3:Rx):q2j:=fun s e K=>q0r (Subj.mk s.1) e.2 e.3 fun Qa Q0=>Cnd (Q0=true) (Wx e.1 fun Qd=>Cnd (Qd=true) (Cnd (e.1=6) (K true) (Cnd (e.1=8) (Fits e.4->Lp1 (fun Qf j0e=>CAt e.4 Qf (fun y4=>Bp Qa y4 fun Ja=>Cnd (Ja=true) (K (decide ((0:Int)<=Qf))) (InI (Qf+1)/\j0e (Qf+1))) (K (decide ((0:Int)<=(-1:Int))))) (0:Int)) (Fits e.4->Cnd ((↑e.4.length:Int)=0) (K false) (((0:Int)<=(0:Int)/\(0:Int)<(↑e.4.length:Int))/\ ∀y3,e.4[Int.toNat (0:Int)]? =some y3->Cnd (Qa.1=3) (Cnd (e.1=7) (Bp Qa y3 fun Qm=>K Qm) (Cnd (e.1=9) (Cnd (y3.1=3) (G0 Qa.3 y3.3 fun Qm=>K Qm) (K false)) (Cnd (e.1=10) (Cnd (y3.1=3) (G1 Qa.3 y3.3 fun Qm=>K Qm) (K false)) (Cnd (e.1=11) (Cnd (y3.1=3) (H0 Qa.3 y3.3 fun Qm=>Cnd (Qm=true) (K true) (Cnd (y3.1=3) (Cnd (Qa.1=5) (Fits Qa.4->Lp1 (fun W7 y6o=>CAt Qa.4 W7 (fun y8=>Cnd (y3.3=y8) (K (decide ((0:Int)<=W7))) (InI (W7+1)/\y6o (W7+1))) (K (decide ((0:Int)<=(-1:Int))))) (0:Int)) (K false)) (K false))) (Cnd (y3.1=3) (Cnd (Qa.1=5) (Fits Qa.4->Lp1 (fun Ja y6p=>CAt Qa.4 Ja (fun y7=>Cnd (y3.3=y7) (K (decide ((0:Int)<=Ja))) (InI (Ja+1)/\y6p (Ja+1))) (K (decide ((0:Int)<=(-1:Int))))) (0:Int)) (K false)) (K false))) (R3 Qa y3 fun Qm q9g=>Cnd (q9g=0) (Cnd (e.1=12) (K (decide (Qm<0))) (Cnd (e.1=13) (K (decide (Qm<=0))) (Cnd (e.1=14) (K (decide ((0:Int)<Qm))) (K (decide ((0:Int)<=Qm)))))) (K false)))))) (Cnd (e.1=7) (Bp Qa y3 fun Qm=>K Qm) (Cnd (e.1=9) (K false) (Cnd (e.1=10) (K false) (Cnd (e.1=11) (Cnd (y3.1=3) (Cnd (Qa.1=5) (Fits Qa.4->Lp1 (fun Ja y6p=>CAt Qa.4 Ja (fun y7=>Cnd (y3.3=y7) (K (decide ((0:Int)<=Ja))) (InI (Ja+1)/\y6p (Ja+1))) (K (decide ((0:Int)<=(-1:Int))))) (0:Int)) (K false)) (K false)) (R3 Qa y3 fun Qm q9g=>Cnd (q9g=0) (Cnd (e.1=12) (K (decide (Qm<0))) (Cnd (e.1=13) (K (decide (Qm<=0))) (Cnd (e.1=14) (K (decide ((0:Int)<Qm))) (K (decide ((0:Int)<=Qm)))))) (K false)))))))))) (K false)) (K false)
def Bd:q2j:=z2p He V3 Bc Vg Vi Hu U4
abbrev Wc:Type:=Subj->List (ByteArray)->Ex->(Bool->Prop)->Prop
def z2q(q64:q2j)(X:Wc):Wc:=fun s in_ e K=>Cnd (e.1=1) (K true) (Cnd (e.1=2) (Fits e.5->Lp1 (fun Qd q1j=>CAt e.5 Qd (fun y2=>X (Subj.mk s.1) in_ (Ex.mk y2.1 y2.2 y2.3 y2.4 y2.5) fun Qe=>Cnd (Qe=true) (InI (Qd+1)/\q1j (Qd+1)) (K (match decide ((0:Int)<=Qd) with|true=>false|false=>true))) (K true)) (0:Int)) (Cnd (e.1=3) (Fits e.5->Lp1 (fun Qd q1j=>CAt e.5 Qd (fun y2=>X (Subj.mk s.1) in_ (Ex.mk y2.1 y2.2 y2.3 y2.4 y2.5) fun Qe=>Cnd (Qe=true) (K (decide ((0:Int)<=Qd))) (InI (Qd+1)/\q1j (Qd+1))) (K (decide ((0:Int)<=(-1:Int))))) (0:Int)) (Cnd (e.1=4) (Fits e.5->Cnd ((0:Int)<(↑e.5.length:Int)) (((0:Int)<=(0:Int)/\(0:Int)<(↑e.5.length:Int))/\ ∀y1,e.5[Int.toNat (0:Int)]? =some y1->X (Subj.mk s.1) in_ (Ex.mk y1.1 y1.2 y1.3 y1.4 y1.5) fun Qf=>K (match decide ((Qf,()).1=true) with|true=>false|false=>true)) (K false)) (Cnd (e.1=5) (Fits in_->Lp1 (fun Qd q1j=>CAt in_ Qd (fun y2=>Cnd (e.3=y2) (K (decide ((0:Int)<=Qd))) (InI (Qd+1)/\q1j (Qd+1))) (K (decide ((0:Int)<=(-1:Int))))) (0:Int)) (q64 (Subj.mk s.1) (Ex.mk e.1 e.2 e.3 e.4 e.5) fun Qa=>K Qa)))))
def Gn:Wc:=fun s in_ e K=> ∀X:Wc,(∀s in_ e K,z2q Bd X s in_ e K->X s in_ e K)->X s in_ e K
abbrev V6:Type:=Seg->Subj->List (ByteArray)->(Bool->Prop)->Prop
def q2k(Zm:Wa)(Jm:Wc):V6:=fun g s in_ K=>Zm (Subj.mk s.1) g.2 fun Qa Q0=>Cnd (Q0=true) (Fits g.4->Lp1 (fun Qg j2j=>CAt g.4 Qg (fun y3=>Cnd (Qa.2=y3) (Cnd ((0:Int)<=Qg) (K false) (Fits g.3->Lp1 (fun Ja y6p=>CAt g.3 Ja (fun y7=>Cnd (Qa.2=y7) (Cnd ((0:Int)<=Ja) (K true) (Cnd (g.5.1=0) (K false) (Jm (Subj.mk s.1) in_ (Ex.mk g.5.1 g.5.2 g.5.3 g.5.4 g.5.5) fun Qq=>K Qq))) (InI (Ja+1)/\y6p (Ja+1))) (Cnd ((0:Int)<=(-1:Int)) (K true) (Cnd (g.5.1=0) (K false) (Jm (Subj.mk s.1) in_ (Ex.mk g.5.1 g.5.2 g.5.3 g.5.4 g.5.5) fun W7=>K W7)))) (0:Int))) (InI (Qg+1)/\j2j (Qg+1))) (Cnd ((0:Int)<=(-1:Int)) (K false) (Fits g.3->Lp1 (fun Qe w5p=>CAt g.3 Qe (fun y5=>Cnd (Qa.2=y5) (Cnd ((0:Int)<=Qe) (K true) (Cnd (g.5.1=0) (K false) (Jm (Subj.mk s.1) in_ (Ex.mk g.5.1 g.5.2 g.5.3 g.5.4 g.5.5) fun W7=>K W7))) (InI (Qe+1)/\w5p (Qe+1))) (Cnd ((0:Int)<=(-1:Int)) (K true) (Cnd (g.5.1=0) (K false) (Jm (Subj.mk s.1) in_ (Ex.mk g.5.1 g.5.2 g.5.3 g.5.4 g.5.5) fun Qm=>K Qm)))) (0:Int)))) (0:Int)) (K false)
def V7:V6:=q2k Wb Gn
abbrev U5:Type:=List (Seg)->Subj->(List (ByteArray)->Prop)->Prop
def q3v(q3j:Rv)(H1:V6)(Qr:Zs):U5:=fun l s K=>q3j l fun Qa Q0=>Cnd (Q0=0) (Fits l->Lp2 (fun Qg j2j q7g=>CAt l Qg (fun y3=>InI (Qg+1)/\q7g (Qg+1) (put j2j y3.1 (Seg.mk y3.1 y3.2 y3.3 y3.4 (Ex.mk y3.5.1 y3.5.2 y3.5.3 y3.5.4 y3.5.5)))) (Fits Qa->Lp2 (fun Qe Jz w8m=>CAt Qa Jz (fun y5=>H1 (Seg.mk ((j2j y5).getD (Seg.mk (ByteArray.mk (Array.mk [])) (ByteArray.mk (Array.mk [])) [] [] (Ex.mk (0:Int) (ByteArray.mk (Array.mk [])) (ByteArray.mk (Array.mk [])) [] []))).1 ((j2j y5).getD (Seg.mk (ByteArray.mk (Array.mk [])) (ByteArray.mk (Array.mk [])) [] [] (Ex.mk (0:Int) (ByteArray.mk (Array.mk [])) (ByteArray.mk (Array.mk [])) [] []))).2 ((j2j y5).getD (Seg.mk (ByteArray.mk (Array.mk [])) (ByteArray.mk (Array.mk [])) [] [] (Ex.mk (0:Int) (ByteArray.mk (Array.mk [])) (ByteArray.mk (Array.mk [])) [] []))).3 ((j2j y5).getD (Seg.mk (ByteArray.mk (Array.mk [])) (ByteArray.mk (Array.mk [])) [] [] (Ex.mk (0:Int) (ByteArray.mk (Array.mk [])) (ByteArray.mk (Array.mk [])) [] []))).4 (Ex.mk ((j2j y5).getD (Seg.mk (ByteArray.mk (Array.mk [])) (ByteArray.mk (Array.mk [])) [] [] (Ex.mk (0:Int) (ByteArray.mk (Array.mk [])) (ByteArray.mk (Array.mk [])) [] []))).5.1 ((j2j y5).getD (Seg.mk (ByteArray.mk (Array.mk [])) (ByteArray.mk (Array.mk [])) [] [] (Ex.mk (0:Int) (ByteArray.mk (Array.mk [])) (ByteArray.mk (Array.mk [])) [] []))).5.2 ((j2j y5).getD (Seg.mk (ByteArray.mk (Array.mk [])) (ByteArray.mk (Array.mk [])) [] [] (Ex.mk (0:Int) (ByteArray.mk (Array.mk [])) (ByteArray.mk (Array.mk [])) [] []))).5.3 ((j2j y5).getD (Seg.mk (ByteArray.mk (Array.mk [])) (ByteArray.mk (Array.mk [])) [] [] (Ex.mk (0:Int) (ByteArray.mk (Array.mk [])) (ByteArray.mk (Array.mk [])) [] []))).5.4 ((j2j y5).getD (Seg.mk (ByteArray.mk (Array.mk [])) (ByteArray.mk (Array.mk [])) [] [] (Ex.mk (0:Int) (ByteArray.mk (Array.mk [])) (ByteArray.mk (Array.mk [])) [] []))).5.5)) (Subj.mk s.1) Qe fun W7=>Cnd (W7=true) (Sml (Qe++[y5]).length/\InI (Jz+1)/\w8m (Qe++[y5]) (Jz+1)) (InI (Jz+1)/\w8m Qe (Jz+1))) (Qr Qe fun Qm=>K Qm)) [] (0:Int))) (0:Int) fun _=>none) (K [])
def U6:U5:=q3v Rw V7 Zd
abbrev J5:Type:=Envt->Subj->ByteArray->(Bool->Prop)->Prop
def q3w(Bq:U5)(Jm:Wc):J5:=fun v s experiment K=>Fits v.6->Lp1 (fun Qd q1j=>CAt v.6 Qd (fun y2=>Cnd (y2.1=experiment) (Bq v.3 (Subj.mk s.1) fun Qe=>Jm (Subj.mk s.1) Qe (Ex.mk y2.8.1 y2.8.2 y2.8.3 y2.8.4 y2.8.5) fun Qm=>K Qm) (InI (Qd+1)/\q1j (Qd+1))) (K false)) (0:Int)
def J6:J5:=q3w U6 Gn
abbrev q6m:Type:=List (Rng)->Int->(Int->Prop)->Prop
def q2l:q6m:=fun l bucket K=>Fits l->Lp1 (fun Qd q1j=>CAt l Qd (fun y2=>Cnd (y2.1<=bucket) (Cnd (bucket<y2.2) (K y2.3) (InI (Qd+1)/\q1j (Qd+1))) (InI (Qd+1)/\q1j (Qd+1))) (K (0:Int))) (0:Int)
abbrev Uh:Type:=Envt->Subj->List (Frc)->ByteArray->(Asg->Int->Prop)->Prop
def z0i(Zm:Wa)(Jw:U3)(Um:q0x)(q65:q6m)(Z8:J5)(W0:Gi)(q66:q6k):Uh:=fun v s forced key K=>Jn1 (fun Qa=>Cnd (Qa<0) (K (Asg.mk (ByteArray.mk (Array.mk [])) (ByteArray.mk (Array.mk [])) (0:Int) (0:Int) false) (11:Int)) (At v.5 Qa fun y1=>Zm (Subj.mk s.1) y1.2 fun Qf Uj=>Jn1 (fun Qe=>Jw forced key fun Qm q9g=>Jn1 (fun Ja=>Cnd (Ja=true) (Cnd (Qm.2=ByteArray.mk (Array.mk [])) (K (Asg.mk key (ByteArray.mk (Array.mk [])) Qe (0:Int) false) (0:Int)) (K (Asg.mk key Qm.2 Qe Qm.3 false) (0:Int))) (Jn1 (fun W7=>Cnd (W7=true) (K (Asg.mk key (ByteArray.mk (Array.mk [])) Qe (0:Int) true) (0:Int)) (Cnd (Uj=true) (Fits v.6->Lp3 (fun Qq j0c y9h u0g=>CAt v.6 Qq (fun y10=>Jn1 (fun Hk=>Jn1 (fun Q9=>Cnd (Q9=true) (Um y10.4 Qf.2 fun Wn=>q65 y10.7 Wn fun j2s=>K (Asg.mk key y10.1 Qe j2s false) (0:Int)) (InI (Qq+1)/\u0g (Qq+1) j0c y9h)) fun y2x=>Cnd (y10.2=key) (Cnd (y10.5=2) (Cnd (Hk=true) (Z8 (Envt.mk (Sett.mk v.1.1 v.1.2 v.1.3) v.2 v.3 v.4 v.5 v.6) (Subj.mk s.1) y10.1 fun Wn=>y2x Wn) (y2x false)) (y2x false)) (y2x false)) fun y9g=>Fits y10.6->Lp1 (fun Wn v9z=>CAt y10.6 Wn (fun y15=>Cnd (y15.1<=Qe) (Cnd (Qe<y15.2) (y9g (decide ((0:Int)<=Wn))) (InI (Wn+1)/\v9z (Wn+1))) (InI (Wn+1)/\v9z (Wn+1))) (y9g (decide ((0:Int)<=(-1:Int))))) (0:Int)) (K (Asg.mk key j0c Qe y9h false) (0:Int))) (0:Int) (ByteArray.mk (Array.mk [])) (0:Int)) (K (Asg.mk key (ByteArray.mk (Array.mk [])) Qe (0:Int) false) (0:Int)))) fun y65=>W0 (Envt.mk (Sett.mk v.1.1 v.1.2 v.1.3) v.2 v.3 v.4 v.5 v.6) (Subj.mk s.1) fun Uk=>Cnd (Uk=true) (y65 true) (Cnd (Uj=true) (y65 (decide (Qe<y1.4))) (y65 false)))) fun y30=>Cnd (q9g=true) (Cnd (Qm.2=ByteArray.mk (Array.mk [])) (y30 true) (q66 (Envt.mk (Sett.mk v.1.1 v.1.2 v.1.3) v.2 v.3 v.4 v.5 v.6) Qm fun W7=>y30 W7)) (y30 false)) fun v5k=>Cnd (Uj=true) (Um y1.3 Qf.2 fun Qm=>v5k Qm) (v5k (-1:Int)))) fun z11=>Fits v.5->Lp1 (fun Qg j2j=>CAt v.5 Qg (fun y3=>Cnd (y3.1=key) (z11 Qg) (InI (Qg+1)/\j2j (Qg+1))) (z11 (-1:Int))) (0:Int)
def Ui:Uh:=z0i Wb Ve Gh q2l J6 Gj q2b
abbrev z7c:Type:=List (List Int)->(List (Int)->Prop)->Prop
def z1j:z7c:=fun fields K=>Lp2 (fun Qa Q0 q3l=>Fits fields->CAt fields Q0 (fun y2=>Fits y2->Lp2 (fun Qm q9g y83=>Cnd ((0:Int)<=q9g) ((0:Int)<=Go.IntKind.u64.wrap q9g/\Sml (Qm++[Go.IntKind.u8.wrap ((Go.IntKind.u64.wrap (↑y2.length:Int)).fdiv ((2:Int) ^ Min.min (Go.IntKind.u64.wrap q9g).toNat (64:Nat)))]).length/\InI (q9g - 8)/\y83 (Qm++[Go.IntKind.u8.wrap ((Go.IntKind.u64.wrap (↑y2.length:Int)).fdiv ((2:Int) ^ Min.min (Go.IntKind.u64.wrap q9g).toNat (64:Nat)))]) (q9g - 8)) (At fields Q0 fun y6=>Sml (Qm++y6).length/\InI (Q0+1)/\q3l (Qm++y6) (Q0+1))) Qa (56:Int)) (K Qa)) [] (0:Int)
abbrev z2r:Type:=Int->Int->(Int->Prop)->Prop
def q8m:z2r:=fun x n K=>(0:Int)<=n/\(0:Int)<=Go.IntKind.u64.wrap ((64:Int) - n)/\K (Go.IntKind.u64.wrap (↑(BitVec.ofInt (64:Nat) (Go.IntKind.u64.wrap (x*2 ^ Min.min n.toNat (64:Nat)))|||BitVec.ofInt (64:Nat) (x.fdiv ((2:Int) ^ Min.min (Go.IntKind.u64.wrap ((64:Int) - n)).toNat (64:Nat)))).toNat:Int))
abbrev Hf:Type:=Sip->Int->(Sip->Prop)->Prop
def q54(G2:z2r):Hf:=fun v n K=>Lp5 (fun Qa Q0 j2i q6d w5n y7b=>Cnd (Qa<n) (G2 j2i (13:Int) fun Qd=>G2 (Go.IntKind.u64.wrap (Q0+j2i)) (32:Int) fun Qg=>G2 w5n (16:Int) fun Qf=>G2 (Go.IntKind.u64.wrap (↑(BitVec.ofInt (64:Nat) Qf ^^^ BitVec.ofInt (64:Nat) (Go.IntKind.u64.wrap (q6d+w5n))).toNat:Int)) (21:Int) fun Qe=>G2 (Go.IntKind.u64.wrap (↑(BitVec.ofInt (64:Nat) Qd ^^^ BitVec.ofInt (64:Nat) (Go.IntKind.u64.wrap (Q0+j2i))).toNat:Int)) (17:Int) fun Qm=>G2 (Go.IntKind.u64.wrap (Go.IntKind.u64.wrap (q6d+w5n)+Go.IntKind.u64.wrap (↑(BitVec.ofInt (64:Nat) Qd ^^^ BitVec.ofInt (64:Nat) (Go.IntKind.u64.wrap (Q0+j2i))).toNat:Int))) (32:Int) fun Ja=>InI (Qa+1)/\y7b (Qa+1) (Go.IntKind.u64.wrap (Qg+Go.IntKind.u64.wrap (↑(BitVec.ofInt (64:Nat) Qf ^^^ BitVec.ofInt (64:Nat) (Go.IntKind.u64.wrap (q6d+w5n))).toNat:Int))) (Go.IntKind.u64.wrap (↑(BitVec.ofInt (64:Nat) Qm ^^^ BitVec.ofInt (64:Nat) (Go.IntKind.u64.wrap (Go.IntKind.u64.wrap (q6d+w5n)+Go.IntKind.u64.wrap (↑(BitVec.ofInt (64:Nat) Qd ^^^ BitVec.ofInt (64:Nat) (Go.IntKind.u64.wrap (Q0+j2i))).toNat:Int)))).toNat:Int)) Ja (Go.IntKind.u64.wrap (↑(BitVec.ofInt (64:Nat) Qe ^^^ BitVec.ofInt (64:Nat) (Go.IntKind.u64.wrap (Qg+Go.IntKind.u64.wrap (↑(BitVec.ofInt (64:Nat) Qf ^^^ BitVec.ofInt (64:Nat) (Go.IntKind.u64.wrap (q6d+w5n))).toNat:Int)))).toNat:Int))) (K (Sip.mk Q0 j2i q6d w5n))) (0:Int) v.1 v.2 v.3 v.4
def Zz:Hf:=q54 q8m
abbrev j05:Type:=Int->Int->List (Int)->(Int->Prop)->Prop
def w3s(Vq:Hf):j05:=fun k0 k1 b K=>Lp5 (fun Qa Q0 j2i q6d w5n y7b=>Fits b->(8:Int)≠(0:Int)/\InI ((↑b.length:Int).tdiv (8:Int))/\Cnd (Qa<=(↑b.length:Int).tdiv (8:Int)) (Lp2 (fun Qg Zn q7g=>Cnd (Zn<8) (InI ((8:Int)*Qa)/\InI ((8:Int)*Qa+Zn)/\(Fits b->Cnd ((8:Int)*Qa+Zn<(↑b.length:Int)) (InI ((8:Int)*Qa)/\InI ((8:Int)*Qa+Zn)/\((0:Int)<=(8:Int)*Qa+Zn/\(8:Int)*Qa+Zn<(↑b.length:Int))/\ ∀y4,b[((8:Int)*Qa+Zn).toNat]? =some y4->InI ((8:Int)*Zn)/\(0:Int)<=Go.IntKind.u64.wrap ((8:Int)*Zn)/\InI (Zn+1)/\q7g (Go.IntKind.u64.wrap (↑(BitVec.ofInt (64:Nat) Qg|||BitVec.ofInt (64:Nat) (Go.IntKind.u64.wrap (Go.IntKind.u64.wrap y4*2 ^ Min.min (Go.IntKind.u64.wrap ((8:Int)*Zn)).toNat (64:Nat)))).toNat:Int)) (Zn+1)) (Jn1 (fun Qe=>Vq (Sip.mk Q0 j2i q6d (Go.IntKind.u64.wrap (↑(BitVec.ofInt (64:Nat) w5n ^^^ BitVec.ofInt (64:Nat) Qe).toNat:Int))) (2:Int) fun Qm=>InI (Qa+1)/\y7b (Qa+1) (Go.IntKind.u64.wrap (↑(BitVec.ofInt (64:Nat) Qm.1 ^^^ BitVec.ofInt (64:Nat) Qe).toNat:Int)) Qm.2 Qm.3 Qm.4) fun v5k=>Fits b->(8:Int)≠(0:Int)/\InI ((↑b.length:Int).tdiv (8:Int))/\Cnd (Qa=(↑b.length:Int).tdiv (8:Int)) (Fits b->(256:Int)≠(0:Int)/\(0:Int)<=(56:Int)/\v5k (Go.IntKind.u64.wrap (↑(BitVec.ofInt (64:Nat) Qg|||BitVec.ofInt (64:Nat) (Go.IntKind.u64.wrap (Go.IntKind.u64.wrap ((↑b.length:Int).tmod (256:Int))*(2:Int) ^ Min.min (Int.toNat (56:Int)) (64:Nat)))).toNat:Int))) (v5k Qg)))) (Jn1 (fun Qf=>Vq (Sip.mk Q0 j2i q6d (Go.IntKind.u64.wrap (↑(BitVec.ofInt (64:Nat) w5n ^^^ BitVec.ofInt (64:Nat) Qf).toNat:Int))) (2:Int) fun Qe=>InI (Qa+1)/\y7b (Qa+1) (Go.IntKind.u64.wrap (↑(BitVec.ofInt (64:Nat) Qe.1 ^^^ BitVec.ofInt (64:Nat) Qf).toNat:Int)) Qe.2 Qe.3 Qe.4) fun v9y=>Fits b->(8:Int)≠(0:Int)/\InI ((↑b.length:Int).tdiv (8:Int))/\Cnd (Qa=(↑b.length:Int).tdiv (8:Int)) (Fits b->(256:Int)≠(0:Int)/\(0:Int)<=(56:Int)/\v9y (Go.IntKind.u64.wrap (↑(BitVec.ofInt (64:Nat) Qg|||BitVec.ofInt (64:Nat) (Go.IntKind.u64.wrap (Go.IntKind.u64.wrap ((↑b.length:Int).tmod (256:Int))*(2:Int) ^ Min.min (Int.toNat (56:Int)) (64:Nat)))).toNat:Int))) (v9y Qg))) (0:Int) (0:Int)) (Vq (Sip.mk Q0 j2i (Go.IntKind.u64.wrap (↑(BitVec.ofInt (64:Nat) q6d ^^^ BitVec.ofInt (64:Nat) (255:Int)).toNat:Int)) w5n) (4:Int) fun Qg=>K (Go.IntKind.u64.wrap (↑(BitVec.ofInt (64:Nat) (Go.IntKind.u64.wrap (↑(BitVec.ofInt (64:Nat) (Go.IntKind.u64.wrap (↑(BitVec.ofInt (64:Nat) Qg.1 ^^^ BitVec.ofInt (64:Nat) Qg.2).toNat:Int)) ^^^ BitVec.ofInt (64:Nat) Qg.3).toNat:Int)) ^^^ BitVec.ofInt (64:Nat) Qg.4).toNat:Int)))) (0:Int) (Go.IntKind.u64.wrap (↑(BitVec.ofInt (64:Nat) k0 ^^^ BitVec.ofInt (64:Nat) (8317987319222330741:Int)).toNat:Int)) (Go.IntKind.u64.wrap (↑(BitVec.ofInt (64:Nat) k1 ^^^ BitVec.ofInt (64:Nat) (7237128888997146477:Int)).toNat:Int)) (Go.IntKind.u64.wrap (↑(BitVec.ofInt (64:Nat) k0 ^^^ BitVec.ofInt (64:Nat) (7816392313619706465:Int)).toNat:Int)) (Go.IntKind.u64.wrap (↑(BitVec.ofInt (64:Nat) k1 ^^^ BitVec.ofInt (64:Nat) (8387220255154660723:Int)).toNat:Int))
def j06:j05:=w3s Zz
abbrev z5e:Type:=Int->List (List Int)->(Int->Prop)->Prop
def j8a(z7u:z7c)(j66:j05):z5e:=fun domain fields K=>z7u fields fun Qa=>j66 domain (0:Int) Qa fun Qd=>K Qd
def z5f:z5e:=j8a z1j j06
abbrev z2s:Type:=ByteArray->ByteArray->(Int->Prop)->Prop
def w3t(j2v:z5e):z2s:=fun salt key K=>Sml salt.size/\Sml key.size/\j2v (1:Int) [List.map (fun b=>(↑b.toNat:Int)) (salt,key,()).1.data.toList,List.map (fun b=>(↑b.toNat:Int)) (salt,key,()).2.1.data.toList] fun Qa=>(10000:Int)≠(0:Int)/\InI (Qa.tmod (10000:Int))/\K (Qa.tmod (10000:Int))
def q6n:z2s:=w3t z5f
abbrev q5k:Type:=Envt->Subj->List (Frc)->(List (Asg)->Prop)->Prop
def z5g(Jq:Uh):q5k:=fun v s forced K=>Fits v.5->Lp2 (fun Qd Z9 z6q=>CAt v.5 Z9 (fun y2=>Jq (Envt.mk (Sett.mk v.1.1 v.1.2 v.1.3) v.2 v.3 v.4 v.5 v.6) (Subj.mk s.1) forced y2.1 fun Qe _=>Sml (Qd++[Qe]).length/\InI (Z9+1)/\z6q (Qd++[Qe]) (Z9+1)) (K Qd)) [] (0:Int)
def q5l:q5k:=z5g Ui
abbrev q2m:Type:=(Bool->Prop)->Prop
def z2t(q0g:q4k)(Jq:Uh)(q67:z2s)(q98:q5k):q2m:=fun K=>q0g fun Qa=>Jq (Envt.mk (Sett.mk Qa.1.1 Qa.1.2 Qa.1.3) Qa.2 Qa.3 Qa.4 Qa.5 Qa.6) (Subj.mk [Ctxt.mk (ByteArray.mk (Array.mk [117,115,101,114])) (ByteArray.mk (Array.mk [117])) []]) [] (ByteArray.mk (Array.mk [108])) fun Qd Z9=>q0g fun Qg=>Jq (Envt.mk (Sett.mk Qg.1.1 Qg.1.2 Qg.1.3) Qg.2 Qg.3 Qg.4 Qg.5 Qg.6) (Subj.mk []) [] (ByteArray.mk (Array.mk [108])) fun Qf Uj=>Cnd (Z9=0) (Cnd (Qd.2=ByteArray.mk (Array.mk [120])) (Cnd (Qd.4=2) (q67 (ByteArray.mk (Array.mk [])) (ByteArray.mk (Array.mk [117])) fun Qe=>Cnd (Qd.3=Qe) (Cnd (Uj=0) (Cnd (Qf.1=ByteArray.mk (Array.mk [108])/\Qf.2=ByteArray.mk (Array.mk [])/\Qf.3=(-1:Int)/\Qf.4=0/\Qf.5=false) (q98 (Envt.mk (Sett.mk (ByteArray.mk (Array.mk [])) (ByteArray.mk (Array.mk [])) (0:Int)) [] [] [] [] []) (Subj.mk []) [] fun Qm=>Fits Qm->K (decide ((↑Qm.length:Int)=0))) (K false)) (K false)) (K false)) (K false)) (K false)) (K false)
def q2n:q2m:=z2t q4l Ui q6n q5l
abbrev w3u:Type:=List (Int)->Int->(List (Int)->Int->Prop)->Prop
def j8b:w3u:=fun list_ most K=>Jn1 (fun Qa=>K Qa (0:Int)) fun z11=>Fits list_->Cnd (most<(↑list_.length:Int)) (((0:Int)<=(0:Int)/\(0:Int)<=most/\most<=(↑list_.length:Int))/\z11 (List.drop (Int.toNat (0:Int)) (List.take most.toNat list_))) (z11 list_)
abbrev q8n:Type:=List (Int)->Int->ByteArray->(Ctxt->Int->Prop)->Prop
def z9f(z3r:z8y)(Q3:W2)(Qb:Zg)(Jj:q1s):q8n:=fun list at_ kind K=>z3r list at_ fun Qa Q0=>Q3 fun Qd=>Lp3 (fun Qg Zn w5o y8w=>Fits Qd->CAt Qd Qg (fun y4=>Cnd (y4.1=kind) (Qb list w5o (4:Int) fun Ja j0d=>Cnd ((0:Int)<Ja) (At Qd Qg fun y7=>At Qd Qg fun y9=>Jj list j0d y9.3 fun Wm w0f=>Sml (Zn++[Attr.mk y7.2 Wm]).length/\InI (Qg+1)/\y8w (Qg+1) (Zn++[Attr.mk y7.2 Wm]) w0f) (InI (Qg+1)/\y8w (Qg+1) Zn j0d)) (InI (Qg+1)/\y8w (Qg+1) Zn w5o)) (K (Ctxt.mk kind Qa Zn) w5o)) (0:Int) [] Q0
def q3x:q8n:=z9f z8z Jx Zc Ur
abbrev q8o:Type:=List (Int)->Int->(Subj->Int->Prop)->Prop
def z9g(Qb:Zg)(q09:q8n):q8o:=fun list at_ K=>Qb list at_ (6:Int) fun Qa Q0=>Jn2 (fun Qd Z9=>Cnd (Qa=1) (K (Subj.mk Z9) Qd) (Cnd (Qa=5) (K (Subj.mk Z9) Qd) (q09 list Qd (ByteArray.mk (Array.mk [117,115,101,114])) fun Qg Zn=>Sml (Z9++[Qg]).length/\K (Subj.mk (Z9++[Qg])) Zn))) fun w2t=>Cnd (Qa=1) (q09 list Q0 (ByteArray.mk (Array.mk [100,101,118,105,99,101])) fun Qg Zn=>Sml ([]++[Qg]).length/\w2t Zn ([]++[Qg])) (Cnd (Qa=2) (q09 list Q0 (ByteArray.mk (Array.mk [100,101,118,105,99,101])) fun Qg Zn=>Sml ([]++[Qg]).length/\w2t Zn ([]++[Qg])) (Cnd (Qa=4) (q09 list Q0 (ByteArray.mk (Array.mk [100,101,118,105,99,101])) fun Qg Zn=>Sml ([]++[Qg]).length/\w2t Zn ([]++[Qg])) (w2t Q0 [])))
def q8p:q8o:=z9g Zc q3x
abbrev z1k:Type:=List (Int)->Int->Envt->(List (Frc)->Int->Prop)->Prop
def j3n(Qb:Zg):z1k:=fun list at_ v K=>Lp3 (fun Qa Q0 j2i u1l=>Qb list j2i (3:Int) fun Qd Z9=>Cnd (Q0<Qd) (Qb list Z9 (4:Int) fun Qg Zn=>InI ((1:Int)+Qg)/\Jn2 (fun Qf Uj=>Jn4 (fun Qe Jz j2l v93=>Sml (Qa++[Frc.mk Qe Jz j2l]).length/\InI (Q0+1)/\u1l (Qa++[Frc.mk Qe Jz j2l]) (Q0+1) v93) fun v5k=>Qb list Uj (4:Int) fun Qm q9g=>Fits v.6->CAt v.6 Qm (fun y7=>Jn2 (fun Qq j0c=>At v.6 Qm fun y10=>Qb list j0c (4:Int) fun Hk y62=>Cnd ((0:Int)<Hk) (Fits y10.7->Cnd ((0:Int)<(↑y10.7.length:Int)) (Fits y10.7->Qb list y62 (↑y10.7.length:Int) fun j2s y63=>At y10.7 j2s fun y16=>v5k Qq y7.1 y16.3 y63) (v5k Qq y7.1 ((1:Int)+Qg) y62)) (v5k Qq y7.1 ((1:Int)+Qg) y62)) fun y8x=>Qb list q9g (4:Int) fun H4 q26=>Cnd ((0:Int)<H4) (At v.6 Qm fun y11=>y8x y11.2 q26) (y8x Qf q26)) (v5k Qf (ByteArray.mk (Array.mk [])) ((1:Int)+Qg) q9g)) fun v9y=>Qb list Zn (3:Int) fun Qe Jz=>Cnd (Qe=1) (v9y (ByteArray.mk (Array.mk [108,98])) Jz) (v9y (ByteArray.mk (Array.mk [108,97])) Jz)) (K Qa Z9)) [] (0:Int) at_
def z1l:z1k:=j3n Zc
abbrev q2o:Type:=List (Int)->List (Int)->(Envt->Subj->List (Frc)->Prop)->Prop
def z2u(w0g:w3u)(q3k:Rq)(z3y:q8o)(z7v:z1k):q2o:=fun codes who K=>w0g codes (400:Int) fun Qa Q0=>q3k Qa Q0 (10:Int) fun Qd _=>w0g who (80:Int) fun Qg Zn=>z3y Qg Zn fun Qf Uj=>z7v Qg Uj (Envt.mk (Sett.mk Qd.1.1 Qd.1.2 Qd.1.3) Qd.2 Qd.3 Qd.4 Qd.5 Qd.6) fun Qe _=>K (Envt.mk (Sett.mk Qd.1.1 Qd.1.2 Qd.1.3) Qd.2 Qd.3 Qd.4 Qd.5 Qd.6) (Subj.mk Qf.1) Qe
def Be:q2o:=z2u j8b Rr q8p z1l
abbrev q5m:Type:=Subj->ByteArray->(Ctxt->Bool->Prop)->Prop
def q2p:q5m:=fun s kind K=>Lp4 (fun Qa Q0 j2i (q6d:List Attr) u01=>Fits s.1->CAt s.1 Qa (fun y2=>Cnd (y2.1=kind) (At s.1 Qa fun y4=>K y4 true) (InI (Qa+1)/\u01 (Qa+1) Q0 j2i q6d)) (K (Ctxt.mk (ByteArray.mk (Array.mk [])) (ByteArray.mk (Array.mk [])) []) false)) (0:Int) (ByteArray.mk (Array.mk [])) (ByteArray.mk (Array.mk [])) []
abbrev q9n:Type:=List (Frc)->ByteArray->(Frc->Bool->Prop)->Prop
def q5n:q9n:=fun l layer K=>Lp4 (fun Qa Q0 j2i q6d u01=>Fits l->CAt l Qa (fun y2=>Cnd (y2.1=layer) (At l Qa fun y4=>K y4 true) (InI (Qa+1)/\u01 (Qa+1) Q0 j2i q6d)) (K (Frc.mk (ByteArray.mk (Array.mk [])) (ByteArray.mk (Array.mk [])) (0:Int)) false)) (0:Int) (ByteArray.mk (Array.mk [])) (ByteArray.mk (Array.mk [])) (0:Int)
abbrev Hw:Type:=Envt->ByteArray->(Int->Prop)->Prop
def V8:Hw:=fun v key K=>Lp1 (fun Qa q1k=>Fits v.6->CAt v.6 Qa (fun y2=>Cnd (y2.1=key) (K Qa) (InI (Qa+1)/\q1k (Qa+1))) (K (-1:Int))) (0:Int)
abbrev z1m:Type:=Envt->Subj->(Bool->Prop)->Prop
def j3o(Ue:q5m)(q67:z2s):z1m:=fun v s K=>Ue (Subj.mk s.1) v.1.2 fun Qa Q0=>Cnd (Q0=true) (Cnd ((0:Int)<v.1.3) (q67 v.1.1 Qa.2 fun Qd=>K (decide (Qd<v.1.3))) (K false)) (K false)
def z1n:z1m:=j3o q2p q6n
abbrev z1o:Type:=List (ByteArray)->List (Edg)->ByteArray->(Bool->Prop)->Prop
def j3p(Qx:Vl):z1o:=fun order edges node K=>Lp1 (fun Qa q1k=>Fits edges->CAt edges Qa (fun y2=>Cnd (y2.1=node) (At edges Qa fun y4=>Qx order y4.2 fun Ja=>Cnd (Ja=true) (InI (Qa+1)/\q1k (Qa+1)) (K false)) (InI (Qa+1)/\q1k (Qa+1))) (Qx order node fun Qg=>K (match decide ((Qg,()).1=true) with|true=>false|false=>true))) (0:Int)
def z1p:z1o:=j3p J8
abbrev z1q:Type:=List (ByteArray)->List (Edg)->(List (ByteArray)->Int->Prop)->Prop
def j3q(Qx:Vl)(z7w:z1o):z1q:=fun nodes edges K=>Lp1 (fun Qa q1k=>Fits nodes->Cnd (Qa<(↑nodes.length:Int)) (((0:Int)<=(0:Int)/\(0:Int)<=Qa/\Qa<=(↑nodes.length:Int))/\At nodes Qa fun y2=>Qx (List.drop (Int.toNat (0:Int)) (List.take Qa.toNat nodes)) y2 fun Qe=>Cnd (Qe=true) (K [] (10:Int)) (InI (Qa+1)/\q1k (Qa+1))) (Lp1 (fun Qg j2j=>Fits edges->CAt edges Qg (fun y4=>Qx nodes y4.1 fun Ja=>Cnd (Ja=true) (At edges Qg fun y7=>Qx nodes y7.2 fun Qq=>Cnd (Qq=true) (InI (Qg+1)/\j2j (Qg+1)) (K [] (11:Int))) (K [] (11:Int))) (Lp1 (fun Qe w5p=>Fits Qe->Fits nodes->Cnd ((↑Qe.length:Int)<(↑nodes.length:Int)) (Lp4 (fun W7 z74 v5l v09 y7a=>Fits nodes->CAt nodes v5l (fun y9=>z7w v09 edges y9 fun Wm=>Cnd (Wm=true) (Cnd (z74=true) (At nodes v5l fun y12=>Cnd (Lk.blt y12 W7) (At nodes v5l fun y14=>InI (v5l+1)/\y7a y14 true (v5l+1) v09) (InI (v5l+1)/\y7a W7 z74 (v5l+1) v09)) (At nodes v5l fun y12=>InI (v5l+1)/\y7a y12 true (v5l+1) v09)) (InI (v5l+1)/\y7a W7 z74 (v5l+1) v09)) (Cnd (z74=true) (Sml ([]++v09).length/\Sml ([]++v09++[W7]).length/\w5p ([]++v09++[W7])) (K [] (12:Int)))) (ByteArray.mk (Array.mk [])) false (0:Int) Qe) (K Qe (0:Int))) [])) (0:Int))) (0:Int)
def z1r:z1q:=j3q J8 z1p
abbrev q8q:Type:=List (Seg)->(List (ByteArray)->Int->Prop)->Prop
def z9h(Z5:Ho)(Gy:q0w)(z7x:z1q):q8q:=fun l K=>Z5 l fun Qa=>Gy l fun Qd=>z7x Qa Qd fun Qg Zn=>K Qg Zn
def q8r:q8q:=z9h Hp Gf z1r
abbrev q8s:Type:=Subj->ByteArray->ByteArray->(Val->Bool->Prop)->Prop
def z9i(Ue:q5m):q8s:=fun s kind name K=>Ue (Subj.mk s.1) kind fun Qa Q0=>Cnd (Q0=true) (Cnd (name=ByteArray.mk (Array.mk [107,101,121])) (K (Val.mk (3:Int) (0:Int) Qa.2 []) true) (Lp5 (fun Qd Z9 j2g j4z (y66:List ByteArray) y8y=>Fits Qa.3->CAt Qa.3 Qd (fun y3=>Cnd (y3.1=name) (At Qa.3 Qd fun y5=>K (Val.mk y5.2.1 y5.2.2 y5.2.3 y5.2.4) true) (InI (Qd+1)/\y8y (Qd+1) Z9 j2g j4z y66)) (K (Val.mk (0:Int) (0:Int) (ByteArray.mk (Array.mk [])) []) false)) (0:Int) (0:Int) (0:Int) (ByteArray.mk (Array.mk [])) [])) (K (Val.mk (0:Int) (0:Int) (ByteArray.mk (Array.mk [])) []) false)
def q8t:q8s:=z9i q2p
abbrev q1g:Type:=ByteArray->ByteArray->Int->(Bool->Prop)->Prop
def Ry:q1g:=fun s t i K=>Cnd ((0:Int)<=i) (InI (i+(↑t.size:Int))/\Cnd (i+(↑t.size:Int)<=(↑s.size:Int)) (InI (i+(↑t.size:Int))/\((0:Int)<=i/\i<=i+(↑t.size:Int)/\i+(↑t.size:Int)<=(↑s.size:Int))/\K (decide (s.extract i.toNat (i+(↑t.size:Int)).toNat=t))) (K false)) (K false)
abbrev B8:Type:=Val->Val->(Bool->Prop)->Prop
def z0j(Qx:Vl)(W9:q1g):B8:=fun v w K=>Cnd (w.1=3) (Cnd (v.1=5) (Qx v.4 w.3 fun Qa=>K Qa) (Lp1 (fun Qa q1k=>Cnd (v.1=3) (InI (Qa+(↑w.3.size:Int))/\Cnd (Qa+(↑w.3.size:Int)<=(↑v.3.size:Int)) (W9 v.3 w.3 Qa fun Qd=>Cnd (Qd=true) (K true) (InI (Qa+1)/\q1k (Qa+1))) (K false)) (K false)) (0:Int))) (K false)
def B9:B8:=z0j J8 Ry
abbrev j07:Type:=Bool->Bool->(Int->Prop)->Prop
def q8u:j07:=fun less greater K=>Cnd (less=true) (K (-1:Int)) (Cnd (greater=true) (K (1:Int)) (K (0:Int)))
abbrev q5o:Type:=Val->Val->(Int->Int->Prop)->Prop
def z5h(Zw:Ba)(Qc:j07)(Hr:q3p):q5o:=fun a b K=>Zw a fun Qa=>Cnd (Qa=0) (Zw b fun Qd=>Cnd (Qd=0) (Cnd (a.1=b.1) (Cnd (a.1=1) (K (0:Int) (8:Int)) (Cnd (a.1=5) (K (0:Int) (8:Int)) (Cnd (a.1=2) (Qc (decide (a.2<b.2)) (decide (b.2<a.2)) fun Qg=>K Qg (0:Int)) (Cnd (a.1=3) (Qc (decide (Lk.blt a.3 b.3)) (decide (Lk.blt b.3 a.3)) fun Qg=>K Qg (0:Int)) (Hr a.3 fun (Qg:Int×Int×Int) _=>Hr b.3 fun (Qf:Int×Int×Int) _=>Lp1 (fun Qe w5p=>Cnd (Qe<3) (((0:Int)<=Qe/\Qe<(↑(3:Nat):Int))/\((True/\(Qe=(↑(nat_lit 0):Int)->((0:Int)<=Qe/\Qe<(↑(3:Nat):Int))/\((True/\(Qe=(↑(nat_lit 0):Int)->Cnd (Qg.1=Qf.1) (InI (Qe+1)/\w5p (Qe+1)) (((0:Int)<=Qe/\Qe<(↑(3:Nat):Int))/\((True/\(Qe=(↑(nat_lit 0):Int)->((0:Int)<=Qe/\Qe<(↑(3:Nat):Int))/\((True/\(Qe=(↑(nat_lit 0):Int)->Qc (decide (Qg.1<Qf.1)) true fun Qq=>K Qq (0:Int)))/\(Qe=(↑(nat_lit 1):Int)->Qc (decide (Qg.1<Qf.2.1)) true fun Qq=>K Qq (0:Int)))/\(Qe=(↑(nat_lit 2):Int)->Qc (decide (Qg.1<Qf.2.2)) true fun Qq=>K Qq (0:Int))))/\(Qe=(↑(nat_lit 1):Int)->((0:Int)<=Qe/\Qe<(↑(3:Nat):Int))/\((True/\(Qe=(↑(nat_lit 0):Int)->Qc (decide (Qg.2.1<Qf.1)) true fun Qq=>K Qq (0:Int)))/\(Qe=(↑(nat_lit 1):Int)->Qc (decide (Qg.2.1<Qf.2.1)) true fun Qq=>K Qq (0:Int)))/\(Qe=(↑(nat_lit 2):Int)->Qc (decide (Qg.2.1<Qf.2.2)) true fun Qq=>K Qq (0:Int))))/\(Qe=(↑(nat_lit 2):Int)->((0:Int)<=Qe/\Qe<(↑(3:Nat):Int))/\((True/\(Qe=(↑(nat_lit 0):Int)->Qc (decide (Qg.2.2<Qf.1)) true fun Qq=>K Qq (0:Int)))/\(Qe=(↑(nat_lit 1):Int)->Qc (decide (Qg.2.2<Qf.2.1)) true fun Qq=>K Qq (0:Int)))/\(Qe=(↑(nat_lit 2):Int)->Qc (decide (Qg.2.2<Qf.2.2)) true fun Qq=>K Qq (0:Int))))))/\(Qe=(↑(nat_lit 1):Int)->Cnd (Qg.1=Qf.2.1) (InI (Qe+1)/\w5p (Qe+1)) (((0:Int)<=Qe/\Qe<(↑(3:Nat):Int))/\((True/\(Qe=(↑(nat_lit 0):Int)->((0:Int)<=Qe/\Qe<(↑(3:Nat):Int))/\((True/\(Qe=(↑(nat_lit 0):Int)->Qc (decide (Qg.1<Qf.1)) true fun Qq=>K Qq (0:Int)))/\(Qe=(↑(nat_lit 1):Int)->Qc (decide (Qg.1<Qf.2.1)) true fun Qq=>K Qq (0:Int)))/\(Qe=(↑(nat_lit 2):Int)->Qc (decide (Qg.1<Qf.2.2)) true fun Qq=>K Qq (0:Int))))/\(Qe=(↑(nat_lit 1):Int)->((0:Int)<=Qe/\Qe<(↑(3:Nat):Int))/\((True/\(Qe=(↑(nat_lit 0):Int)->Qc (decide (Qg.2.1<Qf.1)) true fun Qq=>K Qq (0:Int)))/\(Qe=(↑(nat_lit 1):Int)->Qc (decide (Qg.2.1<Qf.2.1)) true fun Qq=>K Qq (0:Int)))/\(Qe=(↑(nat_lit 2):Int)->Qc (decide (Qg.2.1<Qf.2.2)) true fun Qq=>K Qq (0:Int))))/\(Qe=(↑(nat_lit 2):Int)->((0:Int)<=Qe/\Qe<(↑(3:Nat):Int))/\((True/\(Qe=(↑(nat_lit 0):Int)->Qc (decide (Qg.2.2<Qf.1)) true fun Qq=>K Qq (0:Int)))/\(Qe=(↑(nat_lit 1):Int)->Qc (decide (Qg.2.2<Qf.2.1)) true fun Qq=>K Qq (0:Int)))/\(Qe=(↑(nat_lit 2):Int)->Qc (decide (Qg.2.2<Qf.2.2)) true fun Qq=>K Qq (0:Int))))))/\(Qe=(↑(nat_lit 2):Int)->Cnd (Qg.1=Qf.2.2) (InI (Qe+1)/\w5p (Qe+1)) (((0:Int)<=Qe/\Qe<(↑(3:Nat):Int))/\((True/\(Qe=(↑(nat_lit 0):Int)->((0:Int)<=Qe/\Qe<(↑(3:Nat):Int))/\((True/\(Qe=(↑(nat_lit 0):Int)->Qc (decide (Qg.1<Qf.1)) true fun Qq=>K Qq (0:Int)))/\(Qe=(↑(nat_lit 1):Int)->Qc (decide (Qg.1<Qf.2.1)) true fun Qq=>K Qq (0:Int)))/\(Qe=(↑(nat_lit 2):Int)->Qc (decide (Qg.1<Qf.2.2)) true fun Qq=>K Qq (0:Int))))/\(Qe=(↑(nat_lit 1):Int)->((0:Int)<=Qe/\Qe<(↑(3:Nat):Int))/\((True/\(Qe=(↑(nat_lit 0):Int)->Qc (decide (Qg.2.1<Qf.1)) true fun Qq=>K Qq (0:Int)))/\(Qe=(↑(nat_lit 1):Int)->Qc (decide (Qg.2.1<Qf.2.1)) true fun Qq=>K Qq (0:Int)))/\(Qe=(↑(nat_lit 2):Int)->Qc (decide (Qg.2.1<Qf.2.2)) true fun Qq=>K Qq (0:Int))))/\(Qe=(↑(nat_lit 2):Int)->((0:Int)<=Qe/\Qe<(↑(3:Nat):Int))/\((True/\(Qe=(↑(nat_lit 0):Int)->Qc (decide (Qg.2.2<Qf.1)) true fun Qq=>K Qq (0:Int)))/\(Qe=(↑(nat_lit 1):Int)->Qc (decide (Qg.2.2<Qf.2.1)) true fun Qq=>K Qq (0:Int)))/\(Qe=(↑(nat_lit 2):Int)->Qc (decide (Qg.2.2<Qf.2.2)) true fun Qq=>K Qq (0:Int)))))))/\(Qe=(↑(nat_lit 1):Int)->((0:Int)<=Qe/\Qe<(↑(3:Nat):Int))/\((True/\(Qe=(↑(nat_lit 0):Int)->Cnd (Qg.2.1=Qf.1) (InI (Qe+1)/\w5p (Qe+1)) (((0:Int)<=Qe/\Qe<(↑(3:Nat):Int))/\((True/\(Qe=(↑(nat_lit 0):Int)->((0:Int)<=Qe/\Qe<(↑(3:Nat):Int))/\((True/\(Qe=(↑(nat_lit 0):Int)->Qc (decide (Qg.1<Qf.1)) true fun Qq=>K Qq (0:Int)))/\(Qe=(↑(nat_lit 1):Int)->Qc (decide (Qg.1<Qf.2.1)) true fun Qq=>K Qq (0:Int)))/\(Qe=(↑(nat_lit 2):Int)->Qc (decide (Qg.1<Qf.2.2)) true fun Qq=>K Qq (0:Int))))/\(Qe=(↑(nat_lit 1):Int)->((0:Int)<=Qe/\Qe<(↑(3:Nat):Int))/\((True/\(Qe=(↑(nat_lit 0):Int)->Qc (decide (Qg.2.1<Qf.1)) true fun Qq=>K Qq (0:Int)))/\(Qe=(↑(nat_lit 1):Int)->Qc (decide (Qg.2.1<Qf.2.1)) true fun Qq=>K Qq (0:Int)))/\(Qe=(↑(nat_lit 2):Int)->Qc (decide (Qg.2.1<Qf.2.2)) true fun Qq=>K Qq (0:Int))))/\(Qe=(↑(nat_lit 2):Int)->((0:Int)<=Qe/\Qe<(↑(3:Nat):Int))/\((True/\(Qe=(↑(nat_lit 0):Int)->Qc (decide (Qg.2.2<Qf.1)) true fun Qq=>K Qq (0:Int)))/\(Qe=(↑(nat_lit 1):Int)->Qc (decide (Qg.2.2<Qf.2.1)) true fun Qq=>K Qq (0:Int)))/\(Qe=(↑(nat_lit 2):Int)->Qc (decide (Qg.2.2<Qf.2.2)) true fun Qq=>K Qq (0:Int))))))/\(Qe=(↑(nat_lit 1):Int)->Cnd (Qg.2.1=Qf.2.1) (InI (Qe+1)/\w5p (Qe+1)) (((0:Int)<=Qe/\Qe<(↑(3:Nat):Int))/\((True/\(Qe=(↑(nat_lit 0):Int)->((0:Int)<=Qe/\Qe<(↑(3:Nat):Int))/\((True/\(Qe=(↑(nat_lit 0):Int)->Qc (decide (Qg.1<Qf.1)) true fun Qq=>K Qq (0:Int)))/\(Qe=(↑(nat_lit 1):Int)->Qc (decide (Qg.1<Qf.2.1)) true fun Qq=>K Qq (0:Int)))/\(Qe=(↑(nat_lit 2):Int)->Qc (decide (Qg.1<Qf.2.2)) true fun Qq=>K Qq (0:Int))))/\(Qe=(↑(nat_lit 1):Int)->((0:Int)<=Qe/\Qe<(↑(3:Nat):Int))/\((True/\(Qe=(↑(nat_lit 0):Int)->Qc (decide (Qg.2.1<Qf.1)) true fun Qq=>K Qq (0:Int)))/\(Qe=(↑(nat_lit 1):Int)->Qc (decide (Qg.2.1<Qf.2.1)) true fun Qq=>K Qq (0:Int)))/\(Qe=(↑(nat_lit 2):Int)->Qc (decide (Qg.2.1<Qf.2.2)) true fun Qq=>K Qq (0:Int))))/\(Qe=(↑(nat_lit 2):Int)->((0:Int)<=Qe/\Qe<(↑(3:Nat):Int))/\((True/\(Qe=(↑(nat_lit 0):Int)->Qc (decide (Qg.2.2<Qf.1)) true fun Qq=>K Qq (0:Int)))/\(Qe=(↑(nat_lit 1):Int)->Qc (decide (Qg.2.2<Qf.2.1)) true fun Qq=>K Qq (0:Int)))/\(Qe=(↑(nat_lit 2):Int)->Qc (decide (Qg.2.2<Qf.2.2)) true fun Qq=>K Qq (0:Int))))))/\(Qe=(↑(nat_lit 2):Int)->Cnd (Qg.2.1=Qf.2.2) (InI (Qe+1)/\w5p (Qe+1)) (((0:Int)<=Qe/\Qe<(↑(3:Nat):Int))/\((True/\(Qe=(↑(nat_lit 0):Int)->((0:Int)<=Qe/\Qe<(↑(3:Nat):Int))/\((True/\(Qe=(↑(nat_lit 0):Int)->Qc (decide (Qg.1<Qf.1)) true fun Qq=>K Qq (0:Int)))/\(Qe=(↑(nat_lit 1):Int)->Qc (decide (Qg.1<Qf.2.1)) true fun Qq=>K Qq (0:Int)))/\(Qe=(↑(nat_lit 2):Int)->Qc (decide (Qg.1<Qf.2.2)) true fun Qq=>K Qq (0:Int))))/\(Qe=(↑(nat_lit 1):Int)->((0:Int)<=Qe/\Qe<(↑(3:Nat):Int))/\((True/\(Qe=(↑(nat_lit 0):Int)->Qc (decide (Qg.2.1<Qf.1)) true fun Qq=>K Qq (0:Int)))/\(Qe=(↑(nat_lit 1):Int)->Qc (decide (Qg.2.1<Qf.2.1)) true fun Qq=>K Qq (0:Int)))/\(Qe=(↑(nat_lit 2):Int)->Qc (decide (Qg.2.1<Qf.2.2)) true fun Qq=>K Qq (0:Int))))/\(Qe=(↑(nat_lit 2):Int)->((0:Int)<=Qe/\Qe<(↑(3:Nat):Int))/\((True/\(Qe=(↑(nat_lit 0):Int)->Qc (decide (Qg.2.2<Qf.1)) true fun Qq=>K Qq (0:Int)))/\(Qe=(↑(nat_lit 1):Int)->Qc (decide (Qg.2.2<Qf.2.1)) true fun Qq=>K Qq (0:Int)))/\(Qe=(↑(nat_lit 2):Int)->Qc (decide (Qg.2.2<Qf.2.2)) true fun Qq=>K Qq (0:Int)))))))/\(Qe=(↑(nat_lit 2):Int)->((0:Int)<=Qe/\Qe<(↑(3:Nat):Int))/\((True/\(Qe=(↑(nat_lit 0):Int)->Cnd (Qg.2.2=Qf.1) (InI (Qe+1)/\w5p (Qe+1)) (((0:Int)<=Qe/\Qe<(↑(3:Nat):Int))/\((True/\(Qe=(↑(nat_lit 0):Int)->((0:Int)<=Qe/\Qe<(↑(3:Nat):Int))/\((True/\(Qe=(↑(nat_lit 0):Int)->Qc (decide (Qg.1<Qf.1)) true fun Qq=>K Qq (0:Int)))/\(Qe=(↑(nat_lit 1):Int)->Qc (decide (Qg.1<Qf.2.1)) true fun Qq=>K Qq (0:Int)))/\(Qe=(↑(nat_lit 2):Int)->Qc (decide (Qg.1<Qf.2.2)) true fun Qq=>K Qq (0:Int))))/\(Qe=(↑(nat_lit 1):Int)->((0:Int)<=Qe/\Qe<(↑(3:Nat):Int))/\((True/\(Qe=(↑(nat_lit 0):Int)->Qc (decide (Qg.2.1<Qf.1)) true fun Qq=>K Qq (0:Int)))/\(Qe=(↑(nat_lit 1):Int)->Qc (decide (Qg.2.1<Qf.2.1)) true fun Qq=>K Qq (0:Int)))/\(Qe=(↑(nat_lit 2):Int)->Qc (decide (Qg.2.1<Qf.2.2)) true fun Qq=>K Qq (0:Int))))/\(Qe=(↑(nat_lit 2):Int)->((0:Int)<=Qe/\Qe<(↑(3:Nat):Int))/\((True/\(Qe=(↑(nat_lit 0):Int)->Qc (decide (Qg.2.2<Qf.1)) true fun Qq=>K Qq (0:Int)))/\(Qe=(↑(nat_lit 1):Int)->Qc (decide (Qg.2.2<Qf.2.1)) true fun Qq=>K Qq (0:Int)))/\(Qe=(↑(nat_lit 2):Int)->Qc (decide (Qg.2.2<Qf.2.2)) true fun Qq=>K Qq (0:Int))))))/\(Qe=(↑(nat_lit 1):Int)->Cnd (Qg.2.2=Qf.2.1) (InI (Qe+1)/\w5p (Qe+1)) (((0:Int)<=Qe/\Qe<(↑(3:Nat):Int))/\((True/\(Qe=(↑(nat_lit 0):Int)->((0:Int)<=Qe/\Qe<(↑(3:Nat):Int))/\((True/\(Qe=(↑(nat_lit 0):Int)->Qc (decide (Qg.1<Qf.1)) true fun Qq=>K Qq (0:Int)))/\(Qe=(↑(nat_lit 1):Int)->Qc (decide (Qg.1<Qf.2.1)) true fun Qq=>K Qq (0:Int)))/\(Qe=(↑(nat_lit 2):Int)->Qc (decide (Qg.1<Qf.2.2)) true fun Qq=>K Qq (0:Int))))/\(Qe=(↑(nat_lit 1):Int)->((0:Int)<=Qe/\Qe<(↑(3:Nat):Int))/\((True/\(Qe=(↑(nat_lit 0):Int)->Qc (decide (Qg.2.1<Qf.1)) true fun Qq=>K Qq (0:Int)))/\(Qe=(↑(nat_lit 1):Int)->Qc (decide (Qg.2.1<Qf.2.1)) true fun Qq=>K Qq (0:Int)))/\(Qe=(↑(nat_lit 2):Int)->Qc (decide (Qg.2.1<Qf.2.2)) true fun Qq=>K Qq (0:Int))))/\(Qe=(↑(nat_lit 2):Int)->((0:Int)<=Qe/\Qe<(↑(3:Nat):Int))/\((True/\(Qe=(↑(nat_lit 0):Int)->Qc (decide (Qg.2.2<Qf.1)) true fun Qq=>K Qq (0:Int)))/\(Qe=(↑(nat_lit 1):Int)->Qc (decide (Qg.2.2<Qf.2.1)) true fun Qq=>K Qq (0:Int)))/\(Qe=(↑(nat_lit 2):Int)->Qc (decide (Qg.2.2<Qf.2.2)) true fun Qq=>K Qq (0:Int))))))/\(Qe=(↑(nat_lit 2):Int)->Cnd (Qg.2.2=Qf.2.2) (InI (Qe+1)/\w5p (Qe+1)) (((0:Int)<=Qe/\Qe<(↑(3:Nat):Int))/\((True/\(Qe=(↑(nat_lit 0):Int)->((0:Int)<=Qe/\Qe<(↑(3:Nat):Int))/\((True/\(Qe=(↑(nat_lit 0):Int)->Qc (decide (Qg.1<Qf.1)) true fun Qq=>K Qq (0:Int)))/\(Qe=(↑(nat_lit 1):Int)->Qc (decide (Qg.1<Qf.2.1)) true fun Qq=>K Qq (0:Int)))/\(Qe=(↑(nat_lit 2):Int)->Qc (decide (Qg.1<Qf.2.2)) true fun Qq=>K Qq (0:Int))))/\(Qe=(↑(nat_lit 1):Int)->((0:Int)<=Qe/\Qe<(↑(3:Nat):Int))/\((True/\(Qe=(↑(nat_lit 0):Int)->Qc (decide (Qg.2.1<Qf.1)) true fun Qq=>K Qq (0:Int)))/\(Qe=(↑(nat_lit 1):Int)->Qc (decide (Qg.2.1<Qf.2.1)) true fun Qq=>K Qq (0:Int)))/\(Qe=(↑(nat_lit 2):Int)->Qc (decide (Qg.2.1<Qf.2.2)) true fun Qq=>K Qq (0:Int))))/\(Qe=(↑(nat_lit 2):Int)->((0:Int)<=Qe/\Qe<(↑(3:Nat):Int))/\((True/\(Qe=(↑(nat_lit 0):Int)->Qc (decide (Qg.2.2<Qf.1)) true fun Qq=>K Qq (0:Int)))/\(Qe=(↑(nat_lit 1):Int)->Qc (decide (Qg.2.2<Qf.2.1)) true fun Qq=>K Qq (0:Int)))/\(Qe=(↑(nat_lit 2):Int)->Qc (decide (Qg.2.2<Qf.2.2)) true fun Qq=>K Qq (0:Int))))))) (K (0:Int) (0:Int))) (0:Int)))))) (K (0:Int) (8:Int))) (K (0:Int) Qd)) (K (0:Int) Qa)
def q1h:q5o:=z5h Ux q8u R9
abbrev z1s:Type:=Subj->Ex->(Bool->Prop)->Prop
def j3r(z3z:q8s)(Qv:Wi)(Ga:q3m)(W9:q1g)(q0h:B8)(q5w:q5o):z1s:=fun s e K=>z3z (Subj.mk s.1) e.2 e.3 fun Qa Q0=>Cnd (Q0=true) (Qv e.1 fun Qd=>Cnd (Qd=true) (Cnd (e.1=6) (K true) (Cnd (e.1=8) (Lp1 (fun Qg j2j=>Fits e.4->CAt e.4 Qg (fun y4=>Ga Qa y4 fun Ja=>Cnd (Ja=true) (K true) (InI (Qg+1)/\j2j (Qg+1))) (K false)) (0:Int)) (Fits e.4->Cnd ((↑e.4.length:Int)=0) (K false) (((0:Int)<=(0:Int)/\(0:Int)<(↑e.4.length:Int))/\ ∀y3,e.4[Int.toNat (0:Int)]? =some y3->Cnd (Qa.1=3) (Cnd (e.1=7) (Ga Qa y3 fun Qm=>K Qm) (Cnd (e.1=9) (Cnd (y3.1=3) (W9 Qa.3 y3.3 (0:Int) fun Qm=>K Qm) (K false)) (Cnd (e.1=10) (Cnd (y3.1=3) (InI ((↑Qa.3.size:Int) - (↑y3.3.size:Int))/\W9 Qa.3 y3.3 ((↑Qa.3.size:Int) - (↑y3.3.size:Int)) fun Qm=>K Qm) (K false)) (Cnd (e.1=11) (q0h Qa y3 fun Qm=>K Qm) (q5w Qa y3 fun Qm q9g=>Cnd (q9g=0) (Cnd (e.1=12) (K (decide (Qm<0))) (Cnd (e.1=13) (K (decide (Qm<=0))) (Cnd (e.1=14) (K (decide ((0:Int)<Qm))) (K (decide ((0:Int)<=Qm)))))) (K false)))))) (Cnd (e.1=7) (Ga Qa y3 fun Qm=>K Qm) (Cnd (e.1=9) (K false) (Cnd (e.1=10) (K false) (Cnd (e.1=11) (q0h Qa y3 fun Qm=>K Qm) (q5w Qa y3 fun Qm q9g=>Cnd (q9g=0) (Cnd (e.1=12) (K (decide (Qm<0))) (Cnd (e.1=13) (K (decide (Qm<=0))) (Cnd (e.1=14) (K (decide ((0:Int)<Qm))) (K (decide ((0:Int)<=Qm)))))) (K false)))))))))) (K false)) (K false)
def q7e:z1s:=j3r q8t Jd q1b Ry B9 q1h
abbrev Hq:Type:=Subj->List (ByteArray)->Ex->(Bool->Prop)->Prop
def j3s(Qx:Vl)(z7y:z1s)(X:Hq):Hq:=fun s in_ e K=>Cnd (e.1=1) (K true) (Cnd (e.1=2) (Lp1 (fun Qa q1k=>Fits e.5->CAt e.5 Qa (fun y2=>X (Subj.mk s.1) in_ (Ex.mk y2.1 y2.2 y2.3 y2.4 y2.5) fun Qe=>Cnd (Qe=true) (InI (Qa+1)/\q1k (Qa+1)) (K false)) (K true)) (0:Int)) (Cnd (e.1=3) (Lp1 (fun Qa q1k=>Fits e.5->CAt e.5 Qa (fun y2=>X (Subj.mk s.1) in_ (Ex.mk y2.1 y2.2 y2.3 y2.4 y2.5) fun Qe=>Cnd (Qe=true) (K true) (InI (Qa+1)/\q1k (Qa+1))) (K false)) (0:Int)) (Cnd (e.1=4) (Fits e.5->Cnd ((0:Int)<(↑e.5.length:Int)) (((0:Int)<=(0:Int)/\(0:Int)<(↑e.5.length:Int))/\ ∀y1,e.5[Int.toNat (0:Int)]? =some y1->X (Subj.mk s.1) in_ (Ex.mk y1.1 y1.2 y1.3 y1.4 y1.5) fun Qf=>K (match decide ((Qf,()).1=true) with|true=>false|false=>true)) (K false)) (Cnd (e.1=5) (Qx in_ e.3 fun Qa=>K Qa) (z7y (Subj.mk s.1) (Ex.mk e.1 e.2 e.3 e.4 e.5) fun Qa=>K Qa)))))
def q3y:Hq:=fun s in_ e K=> ∀X:Hq,(∀s in_ e K,j3s J8 q7e X s in_ e K->X s in_ e K)->X s in_ e K
abbrev q5p:Type:=Seg->Subj->List (ByteArray)->(Bool->Prop)->Prop
def z5i(Ue:q5m)(Qx:Vl)(Br:Hq):q5p:=fun g s in_ K=>Ue (Subj.mk s.1) g.2 fun Qa Q0=>Cnd (Q0=true) (Qx g.4 Qa.2 fun Qd=>Cnd (Qd=true) (K false) (Qx g.3 Qa.2 fun Qg=>Cnd (Qg=true) (K true) (Cnd (g.5.1=0) (K false) (Br (Subj.mk s.1) in_ (Ex.mk g.5.1 g.5.2 g.5.3 g.5.4 g.5.5) fun Qf=>K Qf)))) (K false)
def q5q:q5p:=z5i q2p J8 q3y
abbrev q2q:Type:=List (Seg)->Subj->(List (ByteArray)->Prop)->Prop
def z2v(z30:q8q)(q99:q5p)(Ww:q4h):q2q:=fun l s K=>z30 l fun Qa _=>Lp2 (fun Qd Z9 z6q=>Fits Qa->Cnd (Z9<(↑Qa.length:Int)) (Lp2 (fun Qf Uj j6e=>Fits l->CAt l Uj (fun y5=>At Qa Z9 fun y7=>Cnd (y5.1=y7) (At l Uj fun y9=>q99 (Seg.mk y9.1 y9.2 y9.3 y9.4 (Ex.mk y9.5.1 y9.5.2 y9.5.3 y9.5.4 y9.5.5)) (Subj.mk s.1) Qf fun Wm=>Cnd (Wm=true) (At Qa Z9 fun y12=>Ww Qf y12 fun Wn=>InI (Uj+1)/\j6e Wn (Uj+1)) (InI (Uj+1)/\j6e Qf (Uj+1))) (InI (Uj+1)/\j6e Qf (Uj+1))) (InI (Z9+1)/\z6q Qf (Z9+1))) Qd (0:Int)) (K Qd)) [] (0:Int)
def q2r:q2q:=z2v q8r q5q q0k
abbrev q0a:Type:=Envt->Subj->ByteArray->(Bool->Prop)->Prop
def z0k(H2:Hw)(q68:q2q)(Br:Hq):q0a:=fun v s experiment K=>H2 (Envt.mk (Sett.mk v.1.1 v.1.2 v.1.3) v.2 v.3 v.4 v.5 v.6) experiment fun Qa=>Cnd ((0:Int)<=Qa) (At v.6 Qa fun y1=>q68 v.3 (Subj.mk s.1) fun Qf=>Br (Subj.mk s.1) Qf (Ex.mk y1.8.1 y1.8.2 y1.8.3 y1.8.4 y1.8.5) fun Qe=>K Qe) (K false)
def q0b:q0a:=z0k V8 q2r q3y
abbrev Gq:Type:=List (Int)->List (Int)->Subj->List (Frc)->ByteArray->(Bool->Prop)->Prop
def Gs(q69:q2m)(q7a:q2o)(W0:Gi)(z7z:z1m)(Z8:J5)(q40:q0a)(Jw:U3)(z0a:q9n):Gq:=fun codes who s forced key K=>q69 fun Qa=>Cnd (Qa=true) (Fits s.1->Cnd ((8:Int)<(↑s.1.length:Int)) (K true) (Fits forced->Cnd ((8:Int)<(↑forced.length:Int)) (K true) (q7a codes who fun Qf Uj y67=>[Subj.mk Uj.1,Subj.mk s.1].length<=(9223372036854775807:Nat)->Lp1 (fun Qm j65=>Cnd (Qm<(↑[Subj.mk Uj.1,Subj.mk s.1].length:Int)) (((0:Int)<=Qm/\Qm<(↑[Subj.mk Uj.1,Subj.mk s.1].length:Int))/\ ∀y6,[Subj.mk Uj.1,Subj.mk s.1][Qm.toNat]? =some y6->W0 (Envt.mk (Sett.mk Qf.1.1 Qf.1.2 Qf.1.3) Qf.2 Qf.3 Qf.4 Qf.5 Qf.6) (Subj.mk y6.1) fun Uk=>z7z (Envt.mk (Sett.mk Qf.1.1 Qf.1.2 Qf.1.3) Qf.2 Qf.3 Qf.4 Qf.5 Qf.6) (Subj.mk y6.1) fun Qq=>Cnd (Uk=Qq) ([ByteArray.mk (Array.mk [120,97]),ByteArray.mk (Array.mk [120,98]),ByteArray.mk (Array.mk [120,99]),key].length<=(9223372036854775807:Nat)->Lp1 (fun Wm y64=>Cnd (Wm<(↑[ByteArray.mk (Array.mk [120,97]),ByteArray.mk (Array.mk [120,98]),ByteArray.mk (Array.mk [120,99]),key].length:Int)) (((0:Int)<=Wm/\Wm<(↑[ByteArray.mk (Array.mk [120,97]),ByteArray.mk (Array.mk [120,98]),ByteArray.mk (Array.mk [120,99]),key].length:Int))/\ ∀y12,[ByteArray.mk (Array.mk [120,97]),ByteArray.mk (Array.mk [120,98]),ByteArray.mk (Array.mk [120,99]),key][Wm.toNat]? =some y12->Z8 (Envt.mk (Sett.mk Qf.1.1 Qf.1.2 Qf.1.3) Qf.2 Qf.3 Qf.4 Qf.5 Qf.6) (Subj.mk y6.1) y12 fun Wn=>q40 (Envt.mk (Sett.mk Qf.1.1 Qf.1.2 Qf.1.3) Qf.2 Qf.3 Qf.4 Qf.5 Qf.6) (Subj.mk y6.1) y12 fun j2s=>Cnd (Wn=j2s) (InI (Wm+1)/\y64 (Wm+1)) (K false)) (InI (Qm+1)/\j65 (Qm+1))) (0:Int)) (K false)) ([y67,forced].length<=(9223372036854775807:Nat)->Lp1 (fun W7 y6o=>Cnd (W7<(↑[y67,forced].length:Int)) (((0:Int)<=W7/\W7<(↑[y67,forced].length:Int))/\ ∀y8,[y67,forced][W7.toNat]? =some y8->[ByteArray.mk (Array.mk [108,97]),ByteArray.mk (Array.mk [108,98]),key].length<=(9223372036854775807:Nat)->Lp1 (fun Wm y64=>Cnd (Wm<(↑[ByteArray.mk (Array.mk [108,97]),ByteArray.mk (Array.mk [108,98]),key].length:Int)) (((0:Int)<=Wm/\Wm<(↑[ByteArray.mk (Array.mk [108,97]),ByteArray.mk (Array.mk [108,98]),key].length:Int))/\ ∀y12,[ByteArray.mk (Array.mk [108,97]),ByteArray.mk (Array.mk [108,98]),key][Wm.toNat]? =some y12->Jw y8 y12 fun Wn u02=>z0a y8 y12 fun j2s y63=>Cnd (Wn.1=j2s.1/\Wn.2=j2s.2/\Wn.3=j2s.3) (Cnd (u02=y63) (InI (Wm+1)/\y64 (Wm+1)) (K false)) (K false)) (InI (W7+1)/\y6o (W7+1))) (0:Int)) (K true)) (0:Int))) (0:Int)))) (K false)
def Zp:Gq:=Gs q2n Be Gj z1n J6 q0b Ve q5n
end Go.En
end
noncomputable section
set_option maxRecDepth 100000
namespace Go.Proofs
open Go.Shelf
def Tryz.laysC172_ren:Go.Shelf.Ren:=⟨fun|172=>270|244=>287|245=>288|247=>296|279=>297|280=>298|281=>299|282=>300|287=>303|316=>304|171=>306|205=>305|321=>307|322=>308|243=>309|246=>310|283=>311|284=>312|285=>313|286=>314|129=>203|317=>315|318=>316|319=>317|320=>318|337=>319|338=>320|n=>n,fun|9=>9|3=>3|75=>326|76=>327|4=>4|5=>5|167=>354|37=>22|0=>0|85=>355|2=>2|168=>357|53=>112|175=>360|46=>221|210=>364|127=>368|145=>371|143=>369|21=>21|171=>373|173=>375|212=>378|51=>282|20=>20|213=>379|232=>380|233=>381|80=>124|n=>n,fun|15=>6|16=>7|17=>8|18=>9|19=>10|n=>n⟩
theorem Tryz.laysC172:Go.Proofs.LaysC.n172 Tryz.prog Tryz.laysC172_ren:={
 mixed:=by kernel_rfl
 f129:=Tryz.func203.trans (congrArg some (by kernel_rfl))
 f171:=Tryz.func306.trans (congrArg some (by kernel_rfl))
 f172:=Tryz.func270.trans (congrArg some (by kernel_rfl))
 f205:=Tryz.func305.trans (congrArg some (by kernel_rfl))
 f243:=Tryz.func309.trans (congrArg some (by kernel_rfl))
 f244:=Tryz.func287.trans (congrArg some (by kernel_rfl))
 f245:=Tryz.func288.trans (congrArg some (by kernel_rfl))
 f246:=Tryz.func310.trans (congrArg some (by kernel_rfl))
 f247:=Tryz.func296.trans (congrArg some (by kernel_rfl))
 f279:=Tryz.func297.trans (congrArg some (by kernel_rfl))
 f280:=Tryz.func298.trans (congrArg some (by kernel_rfl))
 f281:=Tryz.func299.trans (congrArg some (by kernel_rfl))
 f282:=Tryz.func300.trans (congrArg some (by kernel_rfl))
 f283:=Tryz.func311.trans (congrArg some (by kernel_rfl))
 f284:=Tryz.func312.trans (congrArg some (by kernel_rfl))
 f285:=Tryz.func313.trans (congrArg some (by kernel_rfl))
 f286:=Tryz.func314.trans (congrArg some (by kernel_rfl))
 f287:=Tryz.func303.trans (congrArg some (by kernel_rfl))
 f316:=Tryz.func304.trans (congrArg some (by kernel_rfl))
 f317:=Tryz.func315.trans (congrArg some (by kernel_rfl))
 f318:=Tryz.func316.trans (congrArg some (by kernel_rfl))
 f319:=Tryz.func317.trans (congrArg some (by kernel_rfl))
 f320:=Tryz.func318.trans (congrArg some (by kernel_rfl))
 f321:=Tryz.func307.trans (congrArg some (by kernel_rfl))
 f322:=Tryz.func308.trans (congrArg some (by kernel_rfl))
 f337:=Tryz.func319.trans (congrArg some (by kernel_rfl))
 f338:=Tryz.func320.trans (congrArg some (by kernel_rfl))
 t0:=Tryz.underlying0
 a0:=Tryz.isAgg0
 z0:=Tryz.sizeOf0
 v0:=Tryz.zeroValue0
 t2:=Tryz.underlying2
 a2:=Tryz.isAgg2
 z2:=Tryz.sizeOf2
 v2:=Tryz.zeroValue2
 t3:=Tryz.underlying3
 a3:=Tryz.isAgg3
 z3:=Tryz.sizeOf3
 v3:=Tryz.zeroValue3
 t4:=Tryz.underlying4
 a4:=Tryz.isAgg4
 z4:=Tryz.sizeOf4
 v4:=Tryz.zeroValue4
 t5:=Tryz.underlying5
 a5:=Tryz.isAgg5
 z5:=Tryz.sizeOf5
 v5:=Tryz.zeroValue5
 t9:=Tryz.underlying9
 a9:=Tryz.isAgg9
 z9:=Tryz.sizeOf9
 v9:=Tryz.zeroValue9
 t20:=Tryz.underlying20
 a20:=Tryz.isAgg20
 z20:=Tryz.sizeOf20
 v20:=Tryz.zeroValue20
 t21:=Tryz.underlying21
 a21:=Tryz.isAgg21
 z21:=Tryz.sizeOf21
 v21:=Tryz.zeroValue21
 t37:=Tryz.underlying22
 a37:=Tryz.isAgg22
 z37:=Tryz.sizeOf22
 v37:=Tryz.zeroValue22
 t46:=Tryz.underlying221
 a46:=Tryz.isAgg221
 z46:=Tryz.sizeOf221
 v46:=Tryz.zeroValue221
 t51:=Tryz.underlying282
 a51:=Tryz.isAgg282
 z51:=Tryz.sizeOf282
 v51:=Tryz.zeroValue282
 t53:=Tryz.underlying112
 a53:=Tryz.isAgg112
 z53:=Tryz.sizeOf112
 v53:=Tryz.zeroValue112
 t75:=Tryz.underlying326
 a75:=Tryz.isAgg326
 z75:=Tryz.sizeOf326
 v75:=Tryz.zeroValue326
 t76:=Tryz.underlying327
 a76:=Tryz.isAgg327
 z76:=Tryz.sizeOf327
 v76:=Tryz.zeroValue327
 t85:=Tryz.underlying355
 a85:=Tryz.isAgg355
 z85:=Tryz.sizeOf355
 v85:=Tryz.zeroValue355
 t127:=Tryz.underlying368
 a127:=Tryz.isAgg368
 z127:=Tryz.sizeOf368
 v127:=Tryz.zeroValue368
 t143:=Tryz.underlying369
 a143:=Tryz.isAgg369
 z143:=Tryz.sizeOf369
 v143:=Tryz.zeroValue369
 t145:=Tryz.underlying371
 a145:=Tryz.isAgg371
 z145:=Tryz.sizeOf371
 v145:=Tryz.zeroValue371
 t167:=Tryz.underlying354
 a167:=Tryz.isAgg354
 z167:=Tryz.sizeOf354
 v167:=Tryz.zeroValue354
 t168:=Tryz.underlying357
 a168:=Tryz.isAgg357
 z168:=Tryz.sizeOf357
 v168:=Tryz.zeroValue357
 t171:=Tryz.underlying373
 a171:=Tryz.isAgg373
 z171:=Tryz.sizeOf373
 v171:=Tryz.zeroValue373
 t173:=Tryz.underlying375
 a173:=Tryz.isAgg375
 z173:=Tryz.sizeOf375
 v173:=Tryz.zeroValue375
 t175:=Tryz.underlying360
 a175:=Tryz.isAgg360
 z175:=Tryz.sizeOf360
 v175:=Tryz.zeroValue360
 t210:=Tryz.underlying364
 a210:=Tryz.isAgg364
 z210:=Tryz.sizeOf364
 v210:=Tryz.zeroValue364
 t212:=Tryz.underlying378
 a212:=Tryz.isAgg378
 z212:=Tryz.sizeOf378
 v212:=Tryz.zeroValue378
 t213:=Tryz.underlying379
 a213:=Tryz.isAgg379
 z213:=Tryz.sizeOf379
 t232:=Tryz.underlying380
 a232:=Tryz.isAgg380
 z232:=Tryz.sizeOf380
 v232:=Tryz.zeroValue380
 t233:=Tryz.underlying381
 a233:=Tryz.isAgg381
 z233:=Tryz.sizeOf381
 v233:=Tryz.zeroValue381
 g15:=by kernel_rfl
 g16:=by kernel_rfl
 g17:=by kernel_rfl
 g18:=by kernel_rfl
 g19:=by kernel_rfl
 t80:=Tryz.underlying124
 a80:=Tryz.isAgg124
 z80:=Tryz.sizeOf124
 v80:=Tryz.zeroValue124
 i0:=by kernel_rfl
 i2:=by kernel_rfl
 i3:=by kernel_rfl
 i4:=by kernel_rfl
 i5:=by kernel_rfl
 i9:=by kernel_rfl
 i20:=by kernel_rfl
 i21:=by kernel_rfl
 i37:=by kernel_rfl
 i46:=by kernel_rfl
 i51:=by kernel_rfl
 i53:=by kernel_rfl
 i75:=by kernel_rfl
 i76:=by kernel_rfl
 i80:=by kernel_rfl
 i85:=by kernel_rfl
 i127:=by kernel_rfl
 i143:=by kernel_rfl
 i145:=by kernel_rfl
 i167:=by kernel_rfl
 i168:=by kernel_rfl
 i171:=by kernel_rfl
 i173:=by kernel_rfl
 i175:=by kernel_rfl
 i210:=by kernel_rfl
 i212:=by kernel_rfl
 i232:=by kernel_rfl
 i233:=by kernel_rfl
 m15:=by kernel_rfl
 m16:=by kernel_rfl
 m17:=by kernel_rfl
 m18:=by kernel_rfl
 m19:=by kernel_rfl
 c0:=by kernel_rfl
 c2:=by kernel_rfl
 c3:=by kernel_rfl
 c4:=by kernel_rfl
 c5:=by kernel_rfl
 c9:=by kernel_rfl
 c20:=by kernel_rfl
 c21:=by kernel_rfl
 c37:=by kernel_rfl
 c46:=by kernel_rfl
 c51:=by kernel_rfl
 c53:=by kernel_rfl
 c75:=by kernel_rfl
 c76:=by kernel_rfl
 c80:=by kernel_rfl
 c85:=by kernel_rfl
 c127:=by kernel_rfl
 c143:=by kernel_rfl
 c145:=by kernel_rfl
 c167:=by kernel_rfl
 c168:=by kernel_rfl
 c171:=by kernel_rfl
 c173:=by kernel_rfl
 c175:=by kernel_rfl
 c210:=by kernel_rfl
 c212:=by kernel_rfl
 c213:=by kernel_rfl
 c232:=by kernel_rfl
 c233:=by kernel_rfl}
open Go.RowKit in
theorem Tryz.strconv_Atoi_ok(s:ByteArray)(hmax:s.size<=9223372036854775806)(v:Int)(h:Lib.atoiAll s.data.toList= .ok v)(w:World):
  Calls Tryz.prog 270 #[.string s] w fun e w'=>e= .returned (.tuple #[.int .i64 v,.nilIface])/\(w'=w∨ ∃t,w'=Lib.bytesWorld w 5 t):=Any.strconv_Atoi_ok Tryz.laysC172 s hmax v h w
open Go.RowKit in
theorem Tryz.strconv_Atoi_syntax(s:ByteArray)(hlim:s.size<=281474976710656)(h:Lib.atoiAll s.data.toList=Go.Lib.NumEnd.syntax)(ev:Value)(w:World)(hv:w.cell? ⟨6,0,none⟩=some ev)(hev:ev= .nilIface∨ ∃te pe,ev= .iface te pe):
  Calls Tryz.prog 270 #[.string s] w fun e w'=> ∃N,e= .returned (.tuple #[.int .i64 (0),.iface 357 (.pointer (some ⟨N,0,none⟩))])/\w.heap.size<=N/\w'.heap[N]? =some (.cells #[.string ⟨#[65,116,111,105]⟩,.string s,ev] 364 (0,0))/\Below w.heap.size w w':=Any.strconv_Atoi_syntax Tryz.laysC172 s hlim h ev w hv hev
open Go.RowKit in
theorem Tryz.strconv_Atoi_range(s:ByteArray)(hlim:s.size<=281474976710656)(h:Lib.atoiAll s.data.toList= .range)(ev:Value)(w:World)(hv:w.cell? ⟨7,0,none⟩=some ev)(hev:ev= .nilIface∨ ∃te pe,ev= .iface te pe):
  Calls Tryz.prog 270 #[.string s] w fun e w'=> ∃N,e= .returned (.tuple #[.int .i64 (Lib.atoiSat s.data.toList),.iface 357 (.pointer (some ⟨N,0,none⟩))])/\w.heap.size<=N/\w'.heap[N]? =some (.cells #[.string ⟨#[65,116,111,105]⟩,.string s,ev] 364 (0,0))/\Below w.heap.size w w':=Any.strconv_Atoi_range Tryz.laysC172 s hlim h ev w hv hev
def Tryz.lays144_ren:Go.Shelf.Ren:=⟨fun|144=>136|143=>177|219=>226|217=>264|225=>265|224=>266|267=>267|266=>282|314=>283|n=>n,fun|9=>9|4=>4|3=>3|5=>5|46=>221|146=>345|51=>282|n=>n,fun|1=>3|n=>n⟩
theorem Tryz.lays144:Go.Proofs.Lays.n144 Tryz.prog Tryz.lays144_ren:={
 mixed:=by kernel_rfl
 f143:=Tryz.func177.trans (congrArg some (by kernel_rfl))
 f144:=Tryz.func136.trans (congrArg some (by kernel_rfl))
 f217:=Tryz.func264.trans (congrArg some (by kernel_rfl))
 f219:=Tryz.func226.trans (congrArg some (by kernel_rfl))
 f224:=Tryz.func266.trans (congrArg some (by kernel_rfl))
 f225:=Tryz.func265.trans (congrArg some (by kernel_rfl))
 f266:=Tryz.func282.trans (congrArg some (by kernel_rfl))
 f267:=Tryz.func267.trans (congrArg some (by kernel_rfl))
 f314:=Tryz.func283.trans (congrArg some (by kernel_rfl))
 t3:=Tryz.underlying3
 a3:=Tryz.isAgg3
 z3:=Tryz.sizeOf3
 v3:=Tryz.zeroValue3
 t4:=Tryz.underlying4
 a4:=Tryz.isAgg4
 z4:=Tryz.sizeOf4
 v4:=Tryz.zeroValue4
 t5:=Tryz.underlying5
 a5:=Tryz.isAgg5
 z5:=Tryz.sizeOf5
 v5:=Tryz.zeroValue5
 t9:=Tryz.underlying9
 a9:=Tryz.isAgg9
 z9:=Tryz.sizeOf9
 v9:=Tryz.zeroValue9
 t46:=Tryz.underlying221
 a46:=Tryz.isAgg221
 z46:=Tryz.sizeOf221
 v46:=Tryz.zeroValue221
 t51:=Tryz.underlying282
 a51:=Tryz.isAgg282
 z51:=Tryz.sizeOf282
 v51:=Tryz.zeroValue282
 t146:=Tryz.underlying345
 a146:=Tryz.isAgg345
 z146:=Tryz.sizeOf345
 v146:=Tryz.zeroValue345
 g1:=by kernel_rfl}
open Go.RowKit Go.Lib in
theorem Tryz.strings_Contains(s sub:ByteArray)(m:Int)(w:World)(hs:s.size<4294967281)(hm:w.cell? ⟨3,0,none⟩=some (.int .i64 m)):
  Calls Tryz.prog 136 #[.string s,.string sub] w fun e w'=>e= .returned (.bool (Lib.contains s.data.toList sub.data.toList))/\w'=w:=Any.strings_Contains Tryz.lays144 s sub m w hs hm
def Tryz.lays190_ren:Go.Shelf.Ren:=⟨fun|190=>80|125=>141|258=>140|128=>202|129=>203|302=>193|303=>194|304=>195|305=>196|306=>197|307=>198|308=>199|309=>200|310=>201|333=>238|329=>239|330=>240|334=>241|335=>242|336=>230|344=>275|n=>n,fun|31=>44|9=>9|3=>3|46=>221|0=>0|51=>282|53=>112|4=>4|183=>275|182=>274|131=>279|5=>5|218=>302|222=>306|228=>331|229=>332|n=>n,fun|n=>n⟩
theorem Tryz.lays190:Go.Proofs.Lays.n190 Tryz.prog Tryz.lays190_ren:={
 mixed:=by kernel_rfl
 f125:=Tryz.func141.trans (congrArg some (by kernel_rfl))
 f128:=Tryz.func202.trans (congrArg some (by kernel_rfl))
 f129:=Tryz.func203.trans (congrArg some (by kernel_rfl))
 f190:=Tryz.func80.trans (congrArg some (by kernel_rfl))
 f258:=Tryz.func140.trans (congrArg some (by kernel_rfl))
 f302:=Tryz.func193.trans (congrArg some (by kernel_rfl))
 f303:=Tryz.func194.trans (congrArg some (by kernel_rfl))
 f304:=Tryz.func195.trans (congrArg some (by kernel_rfl))
 f305:=Tryz.func196.trans (congrArg some (by kernel_rfl))
 f306:=Tryz.func197.trans (congrArg some (by kernel_rfl))
 f307:=Tryz.func198.trans (congrArg some (by kernel_rfl))
 f308:=Tryz.func199.trans (congrArg some (by kernel_rfl))
 f309:=Tryz.func200.trans (congrArg some (by kernel_rfl))
 f310:=Tryz.func201.trans (congrArg some (by kernel_rfl))
 f329:=Tryz.func239.trans (congrArg some (by kernel_rfl))
 f330:=Tryz.func240.trans (congrArg some (by kernel_rfl))
 f333:=Tryz.func238.trans (congrArg some (by kernel_rfl))
 f334:=Tryz.func241.trans (congrArg some (by kernel_rfl))
 f335:=Tryz.func242.trans (congrArg some (by kernel_rfl))
 f336:=Tryz.func230.trans (congrArg some (by kernel_rfl))
 f344:=Tryz.func275.trans (congrArg some (by kernel_rfl))
 t0:=Tryz.underlying0
 a0:=Tryz.isAgg0
 z0:=Tryz.sizeOf0
 v0:=Tryz.zeroValue0
 t3:=Tryz.underlying3
 a3:=Tryz.isAgg3
 z3:=Tryz.sizeOf3
 v3:=Tryz.zeroValue3
 t4:=Tryz.underlying4
 a4:=Tryz.isAgg4
 z4:=Tryz.sizeOf4
 v4:=Tryz.zeroValue4
 t5:=Tryz.underlying5
 a5:=Tryz.isAgg5
 z5:=Tryz.sizeOf5
 v5:=Tryz.zeroValue5
 t9:=Tryz.underlying9
 a9:=Tryz.isAgg9
 z9:=Tryz.sizeOf9
 v9:=Tryz.zeroValue9
 t31:=Tryz.underlying44
 a31:=Tryz.isAgg44
 z31:=Tryz.sizeOf44
 v31:=Tryz.zeroValue44
 t46:=Tryz.underlying221
 a46:=Tryz.isAgg221
 z46:=Tryz.sizeOf221
 v46:=Tryz.zeroValue221
 t51:=Tryz.underlying282
 a51:=Tryz.isAgg282
 z51:=Tryz.sizeOf282
 v51:=Tryz.zeroValue282
 t53:=Tryz.underlying112
 a53:=Tryz.isAgg112
 z53:=Tryz.sizeOf112
 v53:=Tryz.zeroValue112
 t131:=Tryz.underlying279
 a131:=Tryz.isAgg279
 z131:=Tryz.sizeOf279
 v131:=Tryz.zeroValue279
 t182:=Tryz.underlying274
 a182:=Tryz.isAgg274
 z182:=Tryz.sizeOf274
 v182:=Tryz.zeroValue274
 t183:=Tryz.underlying275
 a183:=Tryz.isAgg275
 z183:=Tryz.sizeOf275
 v183:=Tryz.zeroValue275
 t218:=Tryz.underlying302
 a218:=Tryz.isAgg302
 z218:=Tryz.sizeOf302
 v218:=Tryz.zeroValue302
 t222:=Tryz.underlying306
 a222:=Tryz.isAgg306
 z222:=Tryz.sizeOf306
 v222:=Tryz.zeroValue306
 t228:=Tryz.underlying331
 a228:=Tryz.isAgg331
 z228:=Tryz.sizeOf331
 v228:=Tryz.zeroValue331
 t229:=Tryz.underlying332
 a229:=Tryz.isAgg332
 z229:=Tryz.sizeOf332
 v229:=Tryz.zeroValue332}
open Go.Sort Go.RowKit in
theorem Tryz.slices_Sort_string(blk off cap:Nat)(ss:List (List UInt8))(w:World)(hH:Holds encStr w blk off ss.toArray)(hblk:blk<w.heap.size)(hsz:ss.length<4611686018427387904):
  Calls Tryz.prog 80 #[.slice (some ⟨blk,off,none⟩) ss.length cap] w fun e w'=>
   e= .returned (.tuple #[])/\ ∃n os,w'=grow (putRow encStr (Sort.ahead w n) blk off (ss.mergeSort fun x y=>decide (x<=y)).toArray) os:=Any.slices_Sort_string Tryz.lays190 blk off cap ss w hH hblk hsz
def Tryz.lays146_ren:Go.Shelf.Ren:=⟨fun|146=>231|221=>268|268=>284|138=>285|143=>177|195=>293|197=>294|218=>295|219=>226|260=>302|217=>264|225=>265|224=>266|267=>267|266=>282|314=>283|n=>n,fun|9=>9|31=>44|3=>3|4=>4|0=>0|105=>352|21=>21|5=>5|46=>221|119=>335|139=>338|138=>337|146=>345|51=>282|n=>n,fun|1=>3|3=>4|4=>5|n=>n⟩
theorem Tryz.lays146:Go.Proofs.Lays.n146 Tryz.prog Tryz.lays146_ren:={
 mixed:=by kernel_rfl
 f138:=Tryz.func285.trans (congrArg some (by kernel_rfl))
 f143:=Tryz.func177.trans (congrArg some (by kernel_rfl))
 f146:=Tryz.func231.trans (congrArg some (by kernel_rfl))
 f195:=Tryz.func293.trans (congrArg some (by kernel_rfl))
 f197:=Tryz.func294.trans (congrArg some (by kernel_rfl))
 f217:=Tryz.func264.trans (congrArg some (by kernel_rfl))
 f218:=Tryz.func295.trans (congrArg some (by kernel_rfl))
 f219:=Tryz.func226.trans (congrArg some (by kernel_rfl))
 f221:=Tryz.func268.trans (congrArg some (by kernel_rfl))
 f224:=Tryz.func266.trans (congrArg some (by kernel_rfl))
 f225:=Tryz.func265.trans (congrArg some (by kernel_rfl))
 f260:=Tryz.func302.trans (congrArg some (by kernel_rfl))
 f266:=Tryz.func282.trans (congrArg some (by kernel_rfl))
 f267:=Tryz.func267.trans (congrArg some (by kernel_rfl))
 f268:=Tryz.func284.trans (congrArg some (by kernel_rfl))
 f314:=Tryz.func283.trans (congrArg some (by kernel_rfl))
 t0:=Tryz.underlying0
 a0:=Tryz.isAgg0
 z0:=Tryz.sizeOf0
 v0:=Tryz.zeroValue0
 t3:=Tryz.underlying3
 a3:=Tryz.isAgg3
 z3:=Tryz.sizeOf3
 v3:=Tryz.zeroValue3
 t4:=Tryz.underlying4
 a4:=Tryz.isAgg4
 z4:=Tryz.sizeOf4
 v4:=Tryz.zeroValue4
 t5:=Tryz.underlying5
 a5:=Tryz.isAgg5
 z5:=Tryz.sizeOf5
 v5:=Tryz.zeroValue5
 t9:=Tryz.underlying9
 a9:=Tryz.isAgg9
 z9:=Tryz.sizeOf9
 v9:=Tryz.zeroValue9
 t21:=Tryz.underlying21
 a21:=Tryz.isAgg21
 z21:=Tryz.sizeOf21
 v21:=Tryz.zeroValue21
 t31:=Tryz.underlying44
 a31:=Tryz.isAgg44
 z31:=Tryz.sizeOf44
 v31:=Tryz.zeroValue44
 t46:=Tryz.underlying221
 a46:=Tryz.isAgg221
 z46:=Tryz.sizeOf221
 v46:=Tryz.zeroValue221
 t51:=Tryz.underlying282
 a51:=Tryz.isAgg282
 z51:=Tryz.sizeOf282
 v51:=Tryz.zeroValue282
 t105:=Tryz.underlying352
 a105:=Tryz.isAgg352
 z105:=Tryz.sizeOf352
 v105:=Tryz.zeroValue352
 t119:=Tryz.underlying335
 a119:=Tryz.isAgg335
 z119:=Tryz.sizeOf335
 t138:=Tryz.underlying337
 a138:=Tryz.isAgg337
 z138:=Tryz.sizeOf337
 v138:=Tryz.zeroValue337
 t139:=Tryz.underlying338
 a139:=Tryz.isAgg338
 z139:=Tryz.sizeOf338
 v139:=Tryz.zeroValue338
 t146:=Tryz.underlying345
 a146:=Tryz.isAgg345
 z146:=Tryz.sizeOf345
 v146:=Tryz.zeroValue345
 g1:=by kernel_rfl
 g3:=by kernel_rfl
 g4:=by kernel_rfl}
open Go.RowKit Go.Lib in
theorem Tryz.strings_Split(s sep:ByteArray)(m:Int)(w:World)(hs:s.size<4294967281)(hm:w.cell? ⟨3,0,none⟩=some (.int .i64 m))(h1:1<=sep.size):
  Calls Tryz.prog 231 #[.string s,.string sep] w fun e w'=>
   e= .returned (.slice (some ⟨w.heap.size,0,none⟩) (Lib.countB s sep+1) (Lib.countB s sep+1))/\w'=w.alloc (.cells ((Lib.splitB sep 0 (Lib.countB s sep) s).map Value.string).toArray 9):=Any.strings_Split Tryz.lays146 (by kernel_rfl) s sep m w hs hm h1
def Tryz.lays194_ren:Go.Shelf.Ren:=⟨fun|194=>184|n=>n,fun|31=>44|9=>9|3=>3|4=>4|0=>0|n=>n,fun|n=>n⟩
theorem Tryz.lays194:Go.Proofs.Lays.n194 Tryz.prog Tryz.lays194_ren:={
 mixed:=by kernel_rfl
 f194:=Tryz.func184.trans (congrArg some (by kernel_rfl))
 t0:=Tryz.underlying0
 a0:=Tryz.isAgg0
 z0:=Tryz.sizeOf0
 v0:=Tryz.zeroValue0
 t3:=Tryz.underlying3
 a3:=Tryz.isAgg3
 z3:=Tryz.sizeOf3
 v3:=Tryz.zeroValue3
 t4:=Tryz.underlying4
 a4:=Tryz.isAgg4
 z4:=Tryz.sizeOf4
 v4:=Tryz.zeroValue4
 t9:=Tryz.underlying9
 a9:=Tryz.isAgg9
 z9:=Tryz.sizeOf9
 v9:=Tryz.zeroValue9
 t31:=Tryz.underlying44
 a31:=Tryz.isAgg44
 z31:=Tryz.sizeOf44
 v31:=Tryz.zeroValue44}
open Go.RowKit Go.Lib Go.Sort in
theorem Tryz.slices_Compact_string(blk off cap:Nat)(zs:List (List UInt8))(w:World)(hH:Holds encStr w blk off zs.toArray)(hsz:zs.length<=9223372036854775807)(hcap:zs.length<=cap):
  Calls Tryz.prog 184 #[.slice (some ⟨blk,off,none⟩) zs.length cap] w fun e w'=>e= .returned (.slice (some ⟨blk,off,none⟩) (Lib.compact zs).length cap)/\ ∃q,w'=putRow encStr (Sort.ahead w q) blk off (Lib.compact zs++List.replicate (zs.length - (Lib.compact zs).length) []).toArray:=Any.slices_Compact_string Tryz.lays194 blk off cap zs w hH hsz hcap
open Go.RowKit Go.Lib Go.Sort in
theorem Tryz.slices_Compact_string_empty(a:Option Addr)(cap:Nat)(w:World):
  Calls Tryz.prog 184 #[.slice a 0 cap] w fun e w'=>e= .returned (.slice a 0 cap)/\w'=w:=Any.slices_Compact_string_empty Tryz.lays194 a cap w
def Tryz.laysNm224_ren:Go.Shelf.Ren:=⟨fun|24=>192|n=>n,fun|24=>44|9=>9|3=>3|4=>4|0=>0|n=>n,fun|n=>n⟩
theorem Tryz.laysNm224:Go.Proofs.Lays2.n24 Tryz.prog Tryz.laysNm224_ren:={
 mixed:=by kernel_rfl
 f24:=Tryz.func192.trans (congrArg some (by kernel_rfl))
 t0:=Tryz.underlying0
 a0:=Tryz.isAgg0
 z0:=Tryz.sizeOf0
 v0:=Tryz.zeroValue0
 t3:=Tryz.underlying3
 a3:=Tryz.isAgg3
 z3:=Tryz.sizeOf3
 v3:=Tryz.zeroValue3
 t4:=Tryz.underlying4
 a4:=Tryz.isAgg4
 z4:=Tryz.sizeOf4
 v4:=Tryz.zeroValue4
 t9:=Tryz.underlying9
 a9:=Tryz.isAgg9
 z9:=Tryz.sizeOf9
 v9:=Tryz.zeroValue9
 t24:=Tryz.underlying44
 a24:=Tryz.isAgg44
 z24:=Tryz.sizeOf44
 v24:=Tryz.zeroValue44
 i9:=by kernel_rfl}
open Go.RowKit Go.Lib Go.Sort in
theorem Tryz.slices_Delete_string(blk off cap i j:Nat)(zs:List (List UInt8))(w:World)(hH:Holds encStr w blk off zs.toArray)(hcap:zs.length<=cap)(hm:cap<=9223372036854775807)(hij:i<=j)(hj:j<=zs.length):
  Calls Tryz.prog 192 #[.slice (some ⟨blk,off,none⟩) zs.length cap,.int .i64 i,.int .i64 j] w fun e w'=>e= .returned (.slice (some ⟨blk,off,none⟩) (zs.length - (j - i)) cap)/\ ∃q,w'=putRow encStr (Sort.ahead w q) blk off (zs.take i++zs.drop j++List.replicate (j - i) []).toArray:=Any.slices_Delete_string Tryz.laysNm224 blk off cap i j zs w hH hcap hm hij hj
open Go.RowKit Go.Sort in
theorem Tryz.slices_Sort_string_none(p:Option Addr)(cap:Nat)(w:World):
  Calls Tryz.prog 80 #[.slice p 0 cap] w fun e w'=>e= .returned (.tuple #[])/\w'=w:=Any.slices_Sort_string_none Tryz.lays190 p cap w
def Tryz.lays196_ren:Go.Shelf.Ren:=⟨fun|196=>246|259=>276|n=>n,fun|9=>9|4=>4|3=>3|5=>5|12=>12|119=>335|0=>0|46=>221|139=>338|138=>337|53=>112|n=>n,fun|3=>4|4=>5|n=>n⟩
theorem Tryz.lays196:Go.Proofs.Lays.n196 Tryz.prog Tryz.lays196_ren:={
 mixed:=by kernel_rfl
 f196:=Tryz.func246.trans (congrArg some (by kernel_rfl))
 f259:=Tryz.func276.trans (congrArg some (by kernel_rfl))
 t0:=Tryz.underlying0
 a0:=Tryz.isAgg0
 z0:=Tryz.sizeOf0
 v0:=Tryz.zeroValue0
 t3:=Tryz.underlying3
 a3:=Tryz.isAgg3
 z3:=Tryz.sizeOf3
 v3:=Tryz.zeroValue3
 t4:=Tryz.underlying4
 a4:=Tryz.isAgg4
 z4:=Tryz.sizeOf4
 v4:=Tryz.zeroValue4
 t5:=Tryz.underlying5
 a5:=Tryz.isAgg5
 z5:=Tryz.sizeOf5
 v5:=Tryz.zeroValue5
 t9:=Tryz.underlying9
 a9:=Tryz.isAgg9
 z9:=Tryz.sizeOf9
 v9:=Tryz.zeroValue9
 t12:=Tryz.underlying12
 a12:=Tryz.isAgg12
 z12:=Tryz.sizeOf12
 v12:=Tryz.zeroValue12
 t46:=Tryz.underlying221
 a46:=Tryz.isAgg221
 z46:=Tryz.sizeOf221
 v46:=Tryz.zeroValue221
 t53:=Tryz.underlying112
 a53:=Tryz.isAgg112
 z53:=Tryz.sizeOf112
 v53:=Tryz.zeroValue112
 t119:=Tryz.underlying335
 a119:=Tryz.isAgg335
 z119:=Tryz.sizeOf335
 t138:=Tryz.underlying337
 a138:=Tryz.isAgg337
 z138:=Tryz.sizeOf337
 v138:=Tryz.zeroValue337
 t139:=Tryz.underlying338
 a139:=Tryz.isAgg338
 z139:=Tryz.sizeOf338
 v139:=Tryz.zeroValue338
 g3:=by kernel_rfl
 g4:=by kernel_rfl}
def Tryz.sorted185_ren:Go.Shelf.Ren:=⟨fun|6=>185|8=>236|9=>80|11=>274|13=>141|12=>140|23=>202|24=>203|14=>193|15=>194|16=>195|17=>196|18=>197|19=>198|20=>199|21=>200|22=>201|25=>238|26=>239|27=>240|28=>241|29=>242|30=>230|31=>275|n=>n,fun|26=>9|28=>265|24=>44|0=>0|3=>3|37=>221|48=>282|50=>112|4=>4|40=>275|39=>274|45=>279|5=>5|9=>9|51=>302|55=>306|57=>331|58=>332|33=>271|n=>n,fun|n=>n⟩
theorem Tryz.sorted185:Go.Proofs.SlLaysZ.n6 Tryz.prog Tryz.sorted185_ren:={
 mixed:=by kernel_rfl
 f6:=⟨Tryz.f185.name,by decide,Tryz.func185.trans (congrArg some (by kernel_rfl))⟩
 f8:=⟨Tryz.f236.name,by decide,Tryz.func236.trans (congrArg some (by kernel_rfl))⟩
 f11:=⟨Tryz.f274.name,by decide,Tryz.func274.trans (congrArg some (by kernel_rfl))⟩
 t0:=Tryz.underlying0
 a0:=Tryz.isAgg0
 z0:=Tryz.sizeOf0
 v0:=Tryz.zeroValue0
 t24:=Tryz.underlying44
 a24:=Tryz.isAgg44
 z24:=Tryz.sizeOf44
 v24:=Tryz.zeroValue44
 t26:=Tryz.underlying9
 a26:=Tryz.isAgg9
 z26:=Tryz.sizeOf9
 v26:=Tryz.zeroValue9
 t28:=Tryz.underlying265
 a28:=Tryz.isAgg265
 z28:=Tryz.sizeOf265
 v28:=Tryz.zeroValue265
 i26:=by kernel_rfl}
end Go.Proofs
end
noncomputable section
set_option maxRecDepth 100000
namespace Go.Fl
open Go Go.Proofs Go.RowKit Go.Maps Go.Sort Go.Shelf
variable {P:Program}{ρ:Ren}
def v7u(F:Fence)(n:Nat)(P:Program)(g:Nat)(lb:Array Value)(ss:List (List UInt8))(w:World):Prop:=
 ∀(l:Nat) (J:List (List UInt8)->World->Prop) (W:World),Below w.heap.size w W->AbidesFrom W.heap.size J->(∀pre W1,J pre W1->Below w.heap.size w W1)->
  (∀pre x W1,J pre W1->pre.length<ss.length->YieldAt F (n - 1) P l #[encStr x] W1 fun e W'=>e= .returned (.bool true)/\J (pre++[x]) W'/\KeepsWalks W1 W')->
  J [] W->CallsIn F n P g (#[.func (.yield l) #[] #[]]++lb) W fun e W'=>(∃v,e= .returned v)/\J ss W'
theorem w2c{W:World}{base j:Nat}{e:TypeId}{v:Value}{k:Nat}{xs:List Value}{o:Obj}(h:W.ownsRow base e 1 v k xs)(hj:W.heap[j]? =some o)(hno: ∀cur,o≠ .cells cur e (0,0))(o':Obj):(W.putObj j o').ownsRow base e 1 v k xs:=
 h.kept (grownBy_putObj_a W j o') (ownsRow_ne_a h hj hno)
set_option maxHeartbeats 2000000 in
theorem j8c(L:SlLaysZ.n11 P ρ)(F:Fence)(n:Nat)(hf:F.fn (ρ.f 11))(hro:F.round=none)(hn:2<=n)(g:Nat)(lb:Array Value)(hg:F.fn g)(eg: ∀args w,(callFunc g args).run P w= .ok (.enter g args) w)
  (ss:List (List UInt8))(hN:ss.length<=maxLen)(hNb:ss.length*16<=140737488355328)(w:World)(hseq:v7u F (n - 1) P g lb ss w):
  CallsIn F n P (ρ.f 11) #[.slice none 0 0,.func (.func g) #[] lb] w fun e w'=> ∃v,e= .returned v/\w'.ownsRow w.heap.size (ρ.t 26) 1 v ss.length (ss.map encStr)/\Below w.heap.size w w':=by
 have mixed:=L.mixed;have t0:=L.t0;have a0:=L.a0;have z0:=L.z0;have v0:=L.v0;have t24:=L.t24;have a24:=L.a24;have z24:=L.z24;have v24:=L.v24;have t26:=L.t26;have a26:=L.a26;have z26:=L.z26;have v26:=L.v26
 have u0:=run_underlying L.t0;have u24:=run_underlying L.t24;have u26:=run_underlying L.t26
 have apart:ρ.t 24≠ρ.t 26:=fun e=>by have h:=L.t24;rw[e,L.t26] at h;cases h
 obtain⟨_,_,body⟩:=L.f11
 refine callsIn_of_wp_marks body rfl hf ?_ hro
 simp only[SlBodyZ.n11_ntmps ρ,List.size_toArray,List.length_cons,List.length_nil,Nat.reduceAdd,Nat.reduceSub,Array.replicate_succ,Array.replicate_zero,List.push_toArray,List.append_toArray,List.nil_append,List.cons_append]
 gi_wp2
 refine wpIn_rangeFunc fun fn hfn=> ?_
 rw[hro]
 generalize hA:w.alloc (.cells #[.slice none 0 0] (ρ.t 24))=A
 have sA:A.heap.size=w.heap.size+1:=by rw[←hA];simp
 have bA:Below w.heap.size w A:=by rw[←hA];exact (Below.refl _ w).alloc (Nat.le_refl _) _
 have xA:A.heap[w.heap.size]? =some (.cells #[.slice none 0 0] (ρ.t 24) (0,0)):=by rw[←hA];exact World.alloc_heap_new w _
 generalize hrec:AnyZ.apRec ρ fn (.func (.func g) #[] lb) w.heap.size A.heap.size .ready none=rec
 generalize hB:(A.alloc (.deferred (some []))).alloc (.loop rec)=B
 have oldB: ∀k,k<A.heap.size->B.heap[k]? =A.heap[k]? :=fun k hk=>by rw[←hB];exact (Below.heap_alloc _ _ k (by simp;omega)).trans (Below.heap_alloc _ _ k hk)
 have bB:Below w.heap.size w B:=by rw[←hB];exact (bA.alloc bA.size _).alloc (by have:=bA.size;simp;omega) _
 have dB:B.heap[A.heap.size]? =some (.deferred (some [])):=by rw[←hB];exact (Below.heap_alloc _ _ _ (by simp)).trans (World.alloc_heap_new A _)
 have lB:B.heap[A.heap.size+1]? =some (.loop rec):=by rw[←hB];have:=World.alloc_heap_new (A.alloc (.deferred (some []))) (.loop rec);rwa [World.size_alloc] at this
 have start:AnyZ.ApAt ρ w fn (.func (.func g) #[] lb) w.heap.size (A.heap.size+1) A.heap.size [] B:=
  ⟨⟨_,(oldB _ (by omega)).trans xA,⟨rfl,.inl ⟨rfl,rfl⟩⟩,by simp⟩,by rw[hrec];exact lB,dB,bB⟩
 refine⟨A.heap.size+1,[{target:= .collected A.heap.size,args:= #[]}],B,{target:= .fn (.func g) lb,args:= #[.func (.yield (A.heap.size+1)) #[] #[]]},B,g,#[.func (.yield (A.heap.size+1)) #[] #[]]++lb,B,?_,?_,?_,?_,fun _=>(by omega),?_⟩
 ·rw[←hB,←hrec];exact run_enterLoop_outer _ _ _ _ _
 ·simp[resolve,go_sem]
 ·intro f' h';simp[Target.leads] at h';exact h'▸hg
 ·simp[invoke,go_sem,eg]
 refine (hseq _ (AnyZ.ApAt ρ w fn (.func (.func g) #[] lb) w.heap.size (A.heap.size+1) A.heap.size) B bB (AnyZ.ap_abides ρ _ _ _ _ _ _ _ bB.size) (fun _ _ h=>h.below)
  (fun pre x W h hl=>AnyZ.apYield {L with} F _ w fn hfn _ _ _ _ (by omega) (by omega) (by omega) (Nat.le_refl _) (by omega) ss.length hN hNb pre x W h hl) start).mono ?_
 rintro e C ⟨⟨_,rfl⟩,hC⟩
 obtain⟨v,hv,hrow,_⟩:=hC.box
 have hend:=run_endLoop (P:=P) hC.L (by simp[AnyZ.apRec])
 generalize hD:C.putObj (A.heap.size+1) (.loop {AnyZ.apRec ρ fn (.func (.func g) #[] lb) w.heap.size A.heap.size .ready none with state:= .exhausted})=D at hend
 have rowD:D.ownsRow w.heap.size (ρ.t 26) 1 v ss.length (ss.map encStr):=by rw[←hD];exact w2c hrow hC.L (fun _ h=>by cases h) _
 have boxD:D.heap[w.heap.size]? =some (.cells #[v] (ρ.t 24) (0,0)):=by rw[←hD];exact (World.putObj_heap_other (by omega)).trans hv
 have defD:D.heap[A.heap.size]? =some (.deferred (some [])):=by rw[←hD];exact (World.putObj_heap_other (by omega)).trans hC.K
 have belD:Below w.heap.size w D:=by rw[←hD];exact hC.below.grown (grownBy_putObj_a _ _ _) hC.below.size (fun k h=>by cases h;omega)
 obtain⟨cellD,markD⟩:=cell_of_box_a boxD
 clear hD
 refine⟨none,D,hend,?_⟩
 gi_wp2
 rw[←sA]
 refine⟨by simp,.inl ⟨_,_,rfl,run_takeDeferred defD,?_⟩⟩
 exact⟨_,results_tmp rfl _ _ _,v,rfl,w2c rowD defD (fun _ h=>by cases h) _,belD.grown (grownBy_putObj_a _ _ _) belD.size (fun k h=>by cases h;omega)⟩
end Go.Fl
end
noncomputable section
set_option maxRecDepth 100000
namespace Go.Proofs.YtfiomedjdipbgaaGreatDoor
open Go Go.Proofs Go.RowKit Go.Fl Go.Maps Go.Sort Go.Shelf
attribute [local go_sem] Oper.semAt_some
set_option maxHeartbeats 2000000 in
theorem w9g(n:Nat)(hn:1<=n)(w W:World)(l Bs b off cap:Nat)(zs:List (List UInt8))(hreach:zs.length<=140737488355328)(hBs:Bs<w.heap.size)(hb:b<w.heap.size)(J:List (List UInt8)->World->Prop)
  (hJ: ∀pre W1,J pre W1->Below w.heap.size w W1)(hc:w.cell? ⟨Bs,0,none⟩=some (.slice (some ⟨b,off,none⟩) zs.length cap))(hcs: ∀j,j<zs.length->w.cell? ⟨b,off+j,none⟩=some (encStr (zs[j]?.getD [])))
  (hY: ∀pre x W1,J pre W1->pre.length<zs.length->YieldAt Fence.wide (n - 1) Tryz.prog l #[encStr x] W1 fun e W'=>e= .returned (.bool true)/\J (pre++[x]) W'/\KeepsWalks W1 W')(h0:J [] W):
  CallsIn Fence.wide n Tryz.prog 237 #[.func (.yield l) #[] #[],.pointer (some ⟨Bs,0,none⟩)] W fun e W'=>(∃v,e= .returned v)/\J zs W':=by
 have hc0:=((hJ _ _ h0).cell (p:=⟨Bs,0,none⟩) hBs).trans hc
 refine callsIn_of_wp Tryz.func237 rfl trivial ?_ rfl
 simp only[Tryz.ntmps237,List.size_toArray,List.length_cons,List.length_nil,Nat.reduceAdd,Nat.reduceSub,Array.replicate_succ,Array.replicate_zero,List.push_toArray,List.append_toArray,List.nil_append,List.cons_append]
 gi_wp2
 gi_loopw [7] (fun i wr=> ∃k:Nat,k<=zs.length/\i= .int .i64 k/\J (zs.take k) wr) (fun i _=>zs.length - (intOf i).toNat)
 case atStart=>exact⟨0,Nat.zero_le _,rfl,h0⟩
 case round=>
  obtain⟨k,hk,rfl,hJk⟩:=hrel
  by_cases hlt:k<zs.length
  ·have hck:=((hJ _ _ hJk).cell (p:=⟨b,off+k,none⟩) hb).trans (hcs k hlt)
   obtain⟨fn,tmps,assign,body,hy,hR⟩:=hY _ zs[k] wr hJk (by rw[List.length_take];omega)
   gi_wp2
   refine hR.mono ?_
   rintro e W3 ⟨rfl,hJ3,_⟩
   gi_wp2
   go_roundw
   case rel=>exact⟨k+1,by omega,by simp,by rw[List.take_succ_eq_append_getElem hlt];exact hJ3⟩
   case measure=>simp[intOf];omega
  ·obtain rfl:k=zs.length:=by omega
   rw[List.take_length] at hJk
   gi_wp2
   go_end0
   exact⟨⟨_,rfl⟩,hJk⟩
set_option maxHeartbeats 2000000 in
theorem w9h(n:Nat)(w W:World)(l Bs cap:Nat)(a:Option Addr)(hBs:Bs<w.heap.size)(J:List (List UInt8)->World->Prop)(hJ: ∀pre W1,J pre W1->Below w.heap.size w W1)(hc:w.cell? ⟨Bs,0,none⟩=some (.slice a 0 cap))(h0:J [] W):
  CallsIn Fence.wide n Tryz.prog 237 #[.func (.yield l) #[] #[],.pointer (some ⟨Bs,0,none⟩)] W fun e W'=>(∃v,e= .returned v)/\J [] W':=by
 have hc0:=((hJ _ _ h0).cell (p:=⟨Bs,0,none⟩) hBs).trans hc
 refine callsIn_of_wp Tryz.func237 rfl trivial ?_ rfl
 simp only[Tryz.ntmps237,List.size_toArray,List.length_cons,List.length_nil,Nat.reduceAdd,Nat.reduceSub,Array.replicate_succ,Array.replicate_zero,List.push_toArray,List.append_toArray,List.nil_append,List.cons_append]
 gi_wp2
 gi_loopw [7] (fun i wr=>i= .int .i64 0/\J [] wr) (fun _ _=>0)
 case atStart=>exact⟨rfl,h0⟩
 case round=>
  obtain⟨rfl,hJs⟩:=hrel
  gi_wp2
  go_end0
  exact⟨⟨_,rfl⟩,hJs⟩
theorem u0c{σ:Hv}{w:World}(Bs:Nat)(v:Value)(l:List ByteArray)(hV:View σ w)(hB:σ Bs=some (.cells #[v] 44 (0,0)))(hr:RSl 1 (REnc Qi) σ v l)(hs:Sml l.length):
  Calls Tryz.prog 274 #[.slice none 0 0,.func (.func 237) #[] #[.pointer (some ⟨Bs,0,none⟩)]] w fun e w1=> ∃v1,e= .returned v1/\Grow [] σ w σ w1/\((vec v1 9 1 l.length (l.flatMap Qi)).ok w1/\ ∀k,(vec v1 9 1 l.length (l.flatMap Qi)).foot=some k->w.heap.size<=k/\σ k=none):=by
 have hBw:=hV _ _ hB
 have hBl:=lt_of_block hBw
 have hBc:w.cell? ⟨Bs,0,none⟩=some v:=by simp[World.cell?,hBw]
 have hlen:(l.map (·.data.toList)).length=l.length:=List.length_map _
 have hgive:v7u Fence.wide 2 Tryz.prog 237 #[.pointer (some ⟨Bs,0,none⟩)] (l.map (·.data.toList)) w:=by
  intro lp J W _ _ hJB hY h0
  obtain⟨a,cap,rfl,h1,h2,hel⟩:=hr
  cases hl0:l with
  |nil=>
   subst hl0
   exact w9h 2 w W lp Bs cap a hBl J hJB hBc h0
  |cons x l'=>
   obtain⟨ad,cs,rfl,_,hrow0,hcs0⟩:=hel 0 x (by rw[hl0];rfl)
   have cell0:=(hrow0.row hV) 0 _ (by rw[hcs0];rfl)
   obtain⟨ab,ao,asp⟩:=ad
   have hsp:asp=none:=by
    cases asp with
    |none=>rfl
    |some s=>
     have:=hrow0 0 (.string x) (by rw[hcs0];rfl)
     simp[Hv.cell,Addr.add] at this
     split at this<;>simp at this
   subst hsp
   have hbl:ab<w.heap.size:=by
    have:=hrow0 0 (.string x) (by rw[hcs0];rfl)
    simp only[Un] at this
    unfold Hv.cell at this
    simp only at this
    cases hq:σ ab with
    |none=>rw[hq] at this;simp at this
    |some o=>exact lt_of_block (hV _ _ hq)
   rw[←hl0]
   have hcome:=w9g 2 (by omega) w W lp Bs ab ao cap (l.map (·.data.toList)) (by rw[hlen];exact h2) hBl hbl J hJB (by rw[hlen];exact hBc) (fun j hj=>by
    rw[hlen] at hj
    obtain⟨y,hy⟩:=getq hj
    obtain⟨ad',cs',had,_,hrow,hcs⟩:=hel j y hy
    cases had
    have hc:=(hrow.row hV) 0 (.string y) (by rw[hcs];rfl)
    rw[q1m,Un] at hc
    rw[List.getElem?_map,hy]
    simpa [encStr] using hc) hY h0
   exact hcome
 refine (callsIn_wide (n:=3)).1 ((j8c (ρ:=Tryz.sorted185_ren) {Tryz.sorted185 with} Fence.wide 3 trivial rfl (by omega) 237 _ trivial (enters_of Tryz.func237 (by kernel_rfl) rfl) (l.map (·.data.toList)) (by rw[hlen];exact (q43 hs (show 16<=32768 by omega)).2) (by rw[hlen];exact (q43 hs (by omega)).1) w hgive).mono ?_)
 rintro e w1 ⟨v1,rfl,hown,hbel⟩
 rw[hlen] at hown
 have hfl:(l.map (·.data.toList)).map encStr=l.flatMap Qi:=(R5 l).symm
 rw[hfl] at hown
 have hsame: ∀b,b<w.heap.size->w1.heap[b]? =w.heap[b]? :=fun b hb=>hbel.block b hb
 refine⟨v1,rfl,⟨⟨hbel.os,hbel.tape,hbel.output,hbel.size,fun k hk _=>hbel.block k hk⟩,fun b o hb=>(hbel.block b (lt_of_block (hV b o hb))).trans (hV b o hb),.refl _,fun _ _ _=>rfl⟩,?_,?_⟩
 ·exact⟨hown.1,hown.2.imp id fun ⟨g,cap,cur,e1,_,e3⟩=>⟨g,cap,cur,e1,Nat.zero_le _,e3⟩⟩
 ·intro k hk
  have hge:w.heap.size<=k:=(hown.lt k hk).1
  refine⟨hge,?_⟩
  cases hq:σ k with
  |none=>rfl
  |some o=>have:=lt_of_block (hV k o hq);omega
end Go.Proofs.YtfiomedjdipbgaaGreatDoor
end
noncomputable section
set_option maxRecDepth 100000
namespace Go.Proofs.YtfiomedjdipbgaaGreatDoor
open Go Go.Proofs Go.RowKit Go.Fl
set_option maxHeartbeats 2000000 in
theorem q3z{σ:Hv}{w:World}(s_p:(List ByteArray))(v1:Value){K:(List ByteArray)->Prop}(hV:View σ w)(hr1:RSl 1 (REnc Qi) σ v1 s_p)(hP:Zk s_p K):
    Calls Tryz.prog 187 #[v1] w (fun e w1=> ∃(r1:(List ByteArray)) (v2:Value),e= .returned v2/\St ⟨w,σ,[]⟩ w1 σ [vec v2 9 1 r1.length ((r1).flatMap Qi)]/\Sml r1.length/\K r1):=by
 unfold Zk at hP
 obtain⟨a1,cap1,rfl⟩:=hr1.shape
 refine enter Tryz.func187 rfl rfl rfl ?_
 have hS:=St.start hV
 refine Qt (Qu (v:=(.slice none 0 0)) rfl (wpList_nil (Qn (wp_seq (Qt (Zb (v:=(.slice a1 s_p.length cap1)) rfl ?_))))))
 replace hP:=hP a1.isNone (RSl.isNil hr1)
 obtain⟨r1_,hn1⟩: ∃r:Bool,a1.isNone=r:=⟨_,rfl⟩
 rw[hn1] at hP
 refine y0l Tryz.underlying44 rfl hn1 (wpList_nil (Qn ?_))
 refine if_b rfl (fun ht1=> ?_) (fun ht1=> ?_)
 ·
  replace hP:=hP.1 ht1
  refine Qt (Qu (v:=(.slice none 0 0)) rfl (wpList_nil (Qn (wp_ret (Bt (ret1 rfl (show ev _ _ _=(.slice none 0 0) from rfl) ?_))))))
  have hS1:=hS.addNil 9 1
  exact⟨[],(.slice none 0 0),rfl,(St.back hS1 (Sub.refl _)),(by simp[Sml]),hP⟩
 ·
  replace hP:=hP.2 (by first|(rw[ht1];exact Bool.false_ne_true)|simp[ht1])
  refine wp_skip (Qn (Qt (j6f (cs:=[]) (e:=9) hS (fun _=>by kernel_rfl) ?_)))
  intro b1 w1 hS2
  refine Zb (v:=(.slice a1 s_p.length cap1)) rfl ?_
  have hS3:=hS2.asVec (i:=0) (ms':=[vec (.slice (some ⟨b1,0,none⟩) 0 0) 9 1 0 []]) (size:=1) rfl rfl (by unfold maxLen;omega) rfl
  obtain⟨hsm1,hP⟩:=hP
  refine y7m (enc:=Qi) (l:=s_p) (Ms:=fun v3=>[vec v3 9 1 s_p.length ((s_p).flatMap Qi)]) (k':=s_p.length) (xs':=(s_p).flatMap Qi) Tryz.underlying44 Tryz.type9 rfl rfl (bytes:=16) rfl rfl (Nat.succ_pos _) hS3 rfl (q:=0) rfl rfl hr1 hS3.view q42 v5z hsm1 (by omega) (by first|rfl|exact List.length_append.symm|simp) (List.nil_append _) (fun _=>rfl) ?_
  intro v3 w2 ho1 hS4
  refine Qu (v:=v3) rfl (wpList_nil (Qn (wp_ret (ret1 rfl (show ev _ _ _=v3 from rfl) ?_))))
  exact⟨s_p,v3,rfl,(St.back hS4 (Sub.refl _)),hsm1,hP⟩
set_option maxHeartbeats 2000000 in
theorem q30{σ:Hv}{w:World}(s_p:(List ByteArray))(v_p:ByteArray)(v1:Value){K:Int->Prop}(hV:View σ w)(hr1:RSl 1 (REnc Qi) σ v1 s_p)(hP:Zl s_p v_p K):
    Calls Tryz.prog 128 #[v1,(.string v_p)] w (fun e w1=> ∃(r1:Int),e= .returned (.int .i64 r1)/\Grow [] σ w σ w1/\K r1):=by
 unfold Zl at hP
 obtain⟨a1,cap1,rfl⟩:=hr1.shape
 refine enter Tryz.func128 rfl rfl rfl ?_
 have hS:=St.start hV
 refine Qt (Qu (v:=(.int .i64 (0:Int))) rfl (wpList_nil (Qn (wp_seq (Qt (Zb (v:=(.slice a1 s_p.length cap1)) rfl (z14 rfl Tryz.underlying44 ?_)))))))
 have hlen1:=RSl.len63 hr1
 replace hP:=hP hlen1
 refine Zb (v:=(.int .i64 (0:Int))) rfl (wpList_nil (Qn (wp_block ?_)))
 refine w2x (fun k_2 f z=> ∃(σ1:Hv) (g:Fr),f=(upd (upd (upd (upd g 0 (.slice a1 s_p.length cap1)) 1 (.string v_p)) 7 (.int .i64 ((s_p.length:Nat):Int))) 8 (.int .i64 ((k_2:Nat):Int)))/\St ⟨w,σ,[]⟩ z σ1 []/\Sub σ σ1) hP ⟨σ,_,(Zy rfl (Zy rfl (Zy rfl (Zy rfl rfl)))),hS,(Sub.refl _)⟩ ?_
 clear hP
 rintro k_2 Y1 hP f w1 ⟨σ1,g,rfl,hS1,hsub1⟩
 refine Qt (v5o (r:=(decide (((k_2:Nat):Int)<((s_p.length:Nat):Int)))) rfl rfl rfl (wpList_nil (Qn (wp_seq ?_))))
 refine if_d (((k_2:Nat):Int)<((s_p.length:Nat):Int)) rfl (fun ht1=> ?_) (fun ht1=> ?_)
 ·
  replace hP:=hP.1 ht1
  refine wp_skip (Qn (wp_seq (wp_block (Qt (Zb (v:=(.int .i64 ((k_2:Nat):Int))) rfl (Qu (v:=(.int .i64 ((k_2:Nat):Int))) rfl (wpList_nil (Qn (Qt (Zb (v:=(.string v_p)) rfl (Zb (v:=(.slice a1 s_p.length cap1)) rfl (Zb (v:=(.int .i64 ((k_2:Nat):Int))) rfl ?_))))))))))))
  obtain⟨x1_,hx1⟩:=getq (l:=s_p) (k:=k_2) (by have:=ht1;omega)
  replace hP:=hP x1_ hx1
  obtain⟨ad1,cs1,ha1,hl1,hr2,hR1,hlt1⟩:=RSl.at hr1 hx1
  cases hR1
  refine R4 (k:=k_2) (a':=(ad1.add (k_2*1))) (congrArg (fun z=>Value.slice z _ _) ha1) rfl rfl hlt1 Tryz.underlying44 Tryz.sizeOf9 rfl (q7h (v:=(.string x1_)) rfl Tryz.isAgg9 (hr2.cell (View.of hsub1 hS1.view) 0 rfl rfl) (y7d (r:=(decide (v_p=x1_))) rfl rfl rfl (wpList_nil (Qn ?_))))
  refine if_d (v_p=x1_) rfl (fun ht2=> ?_) (fun ht2=> ?_)
  ·
   replace hP:=hP.1 ht2
   refine Qt (Zb (v:=(.int .i64 ((k_2:Nat):Int))) rfl (Qu (v:=(.int .i64 ((k_2:Nat):Int))) rfl (wpList_nil (Qn (wp_ret (j5j (Bt (Bt (j5j (Bt (ret1 rfl (show ev _ _ _=(.int .i64 ((k_2:Nat):Int)) from rfl) ?_)))))))))))
   exact⟨((k_2:Nat):Int),rfl,hS1.done.forget,hP⟩
  ·
   replace hP:=hP.2 ht2
   refine wp_skip (v3a (Qn (j2w (v29 (r:=((k_2+1:Nat):Int)) rfl rfl (nw (by omega) (by omega) (by have:=hlen1;omega)) (Zb (v:=(.int .i64 ((k_2+1:Nat):Int))) rfl (wpList_nil (Qn ?_)))))))
   exact⟨k_2+1,_,rfl,hP,σ1,_,(Zy rfl (Zy rfl (Zy rfl (Zy rfl rfl)))),hS1,hsub1⟩
 ·
  replace hP:=hP.2 ht1
  refine wp_exit (z77 (z77 (j69 (Qn (Qt (Qu (v:=(.int .i64 (-1:Int))) rfl (wpList_nil (Qn (wp_ret (ret1 rfl (show ev _ _ _=(.int .i64 (-1:Int)) from rfl) ?_))))))))))
  exact⟨(-1:Int),rfl,hS1.done.forget,hP⟩
set_option maxHeartbeats 2000000 in
theorem Vo{σ:Hv}{w:World}(s_p:(List ByteArray))(v_p:ByteArray)(v1:Value){K:Bool->Prop}(hV:View σ w)(hr1:RSl 1 (REnc Qi) σ v1 s_p)(hP:Qy s_p v_p K):
    Calls Tryz.prog 76 #[v1,(.string v_p)] w (fun e w1=> ∃(r1:Bool),e= .returned (.bool (r1))/\Grow [] σ w σ w1/\K r1):=by
 unfold Qy at hP
 obtain⟨a1,cap1,rfl⟩:=hr1.shape
 refine enter Tryz.func76 rfl rfl rfl ?_
 have hS:=St.start hV
 refine Qt (Qu (v:=(.bool false)) rfl (wpList_nil (Qn (Qt (Zb (v:=(.slice a1 s_p.length cap1)) rfl (Zb (v:=(.string v_p)) rfl ?_))))))
 obtain⟨Y1,hK1,hc1⟩:=hP
 refine q9h (args:=[(.slice a1 s_p.length cap1),(.string v_p)]) rfl Tryz.call128 (Calls.mono (q30 s_p v_p (.slice a1 s_p.length cap1) hS.view hr1 hc1) ?_)
 rintro _ w1 ⟨r1_,rfl,hg1,hY1⟩
 refine⟨_,rfl,?_⟩
 have hS1:=hS.grow hg1
 replace hP:=hK1 r1_ hY1
 refine y7c (r:=(decide ((0:Int)<=r1_))) rfl rfl rfl (Qu (v:=(.bool (decide ((0:Int)<=r1_)))) rfl (wpList_nil (Qn (wp_ret (ret1 rfl (show ev _ _ _=(.bool (decide ((0:Int)<=r1_))) from rfl) ?_)))))
 exact⟨(decide ((0:Int)<=r1_)),rfl,hS1.done.forget,hP⟩
set_option maxHeartbeats 2000000 in
theorem w_graph_Order{σ:Hv}{w:World}(nodes_p:(List ByteArray))(edges_p:(List (ByteArray×ByteArray)))(v1:Value)(v2:Value){K:(List ByteArray)->Int->Prop}(hV:View σ w)(hr1:RSl 1 (REnc Qi) σ v1 nodes_p)(hr2:RSl 2 (REnc y7n) σ v2 edges_p)(hP:P_graph_Order nodes_p edges_p K):
    Calls Tryz.prog 139 #[v1,v2] w (fun e w1=> ∃(r1:(List ByteArray)) (r2:Int) (v3:Value),e= .returned (.tuple #[v3,(.int .i64 r2)])/\St ⟨w,σ,[]⟩ w1 σ [vec v3 9 1 r1.length ((r1).flatMap Qi)]/\Sml r1.length/\K r1 r2):=by
 unfold P_graph_Order at hP
 obtain⟨a1,cap1,rfl⟩:=hr1.shape
 obtain⟨a2,cap2,rfl⟩:=hr2.shape
 refine enter Tryz.func139 rfl rfl rfl ?_
 have hS:=St.start hV
 refine Qt (Qu (v:=(.slice none 0 0)) rfl (Qu (v:=(.int .i64 (0:Int))) rfl (wpList_nil (Qn (Qt (Zb (v:=(.slice a1 nodes_p.length cap1)) rfl (q9h (args:=[(.slice a1 nodes_p.length cap1)]) rfl Tryz.call186 ?_)))))))
 refine enter Tryz.func186 rfl rfl rfl ?_
 refine Qt (y9m (cs:=[(.slice a1 nodes_p.length cap1)]) hS rfl rfl ?_)
 intro b1 w1 hS1
 refine Qu (v:= .nilFunc) rfl (wpList_nil (Qn (Qt (j2x (la:=[]) (lb:=[(.pointer (some ⟨b1,0,none⟩))]) rfl rfl (Qu (v:=(.func (.func 237) #[] #[(.pointer (some ⟨b1,0,none⟩))])) rfl (wpList_nil (Qn (wp_ret (ret1 rfl (show ev _ _ _=(.func (.func 237) #[] #[(.pointer (some ⟨b1,0,none⟩))]) from rfl) ?_)))))))))
 refine⟨_,rfl,?_⟩
 refine q9h (args:=[(.func (.func 237) #[] #[(.pointer (some ⟨b1,0,none⟩))])]) rfl Tryz.call185 ?_
 refine enter Tryz.func185 rfl rfl rfl ?_
 refine Qt (Qu (v:=(.slice none 0 0)) rfl (wpList_nil (Qn (Qt (Zb (v:=(.func (.func 237) #[] #[(.pointer (some ⟨b1,0,none⟩))])) rfl (q9h (args:=[(.func (.func 237) #[] #[(.pointer (some ⟨b1,0,none⟩))])]) rfl Tryz.call236 ?_))))))
 refine enter Tryz.func236 rfl rfl rfl ?_
 refine Qt (Qu (v:=(.slice none 0 0)) rfl (wpList_nil (Qn (Qt (Zb (v:=(.func (.func 237) #[] #[(.pointer (some ⟨b1,0,none⟩))])) rfl ?_)))))
 obtain⟨σ1,hS2,hsub1,hfr1⟩:=hS1.freeze' (i:=0) rfl rfl
 have hB1:σ1 b1=some (.cells #[(.slice a1 nodes_p.length cap1)] 44 (0,0)):=(hfr1 _ rfl).trans (hS1.get (i:=0) rfl)
 obtain⟨hsm1,hP⟩:=hP
 refine q9h (args:=[(.slice none 0 0),(.func (.func 237) #[] #[(.pointer (some ⟨b1,0,none⟩))])]) rfl Tryz.call274 (Calls.mono (u0c b1 (.slice a1 nodes_p.length cap1) nodes_p hS2.view hB1 (RSl.menc hsub1 hr1) hsm1) ?_)
 rintro _ w2 ⟨v4,rfl,hg1,ho1⟩
 refine⟨_,rfl,?_⟩
 have hS3:=hS2.growAdd hg1 (o:=vec v4 9 1 nodes_p.length ((nodes_p).flatMap Qi)) ho1
 refine Qu (v:=v4) rfl (wpList_nil (Qn (wp_ret (ret1 rfl (show ev _ _ _=v4 from rfl) ?_))))
 refine⟨_,rfl,?_⟩
 refine Qu (v:=v4) rfl (wpList_nil (Qn (Qt (Zb (v:=v4) rfl ?_))))
 refine q9h (args:=[v4]) rfl Tryz.call80 (Calls.mono (v1e Tryz.slices_Sort_string Tryz.slices_Sort_string_none hS3.view (hS3.get (i:=0) rfl) rfl (fun b hb=>hS3.off _ (List.mem_of_getElem? (i:=0) rfl) b hb) (by have:=hsm1;unfold Sml at this;omega)) ?_)
 rintro _ w3 ⟨rfl,hg2,ho2⟩
 refine⟨_,rfl,?_⟩
 have hS4:=hS3.growV (i:=0) (o':=vec v4 9 1 nodes_p.length ((srt nodes_p).flatMap Qi)) rfl hg2 rfl ho2 (ms':=[vec v4 9 1 nodes_p.length ((srt nodes_p).flatMap Qi)]) rfl
 have hS5:=hS4.re (ms':=[vec v4 9 1 ((srt nodes_p).length) ((srt nodes_p).flatMap Qi)]) (by simp only[J0])
 refine wpList_nil (Qn (Qt (Zb (v:=v4) rfl (Qu (v:=v4) rfl (wpList_nil (Qn (wp_ret (ret1 rfl (show ev _ _ _=v4 from rfl) ?_))))))))
 refine⟨_,rfl,?_⟩
 refine Qu (v:=v4) rfl (wpList_nil (Qn (wp_seq (Qt (Zb (v:=v4) rfl ?_)))))
 obtain⟨σ2,hS6,hsub2,hr4⟩:=hS5.peek (i:=0) rfl q42 (show Sml (srt nodes_p).length by rw[J0];exact hsm1)
 obtain⟨Y1,hK1,hc1⟩:=hP
 refine q9h (args:=[v4]) rfl Tryz.call187 (Calls.mono (q3z (srt nodes_p) v4 hS6.view hr4 hc1) ?_)
 rintro _ w4 ⟨r1_,v5,rfl,hg3,hl1,hY1⟩
 refine⟨_,rfl,?_⟩
 have hS7:=St.callM (ins:=[]) (rest:=[vec v4 9 1 ((srt nodes_p).length) ((srt nodes_p).flatMap Qi)]) (ms':=[vec v5 9 1 r1_.length ((r1_).flatMap Qi),vec v4 9 1 ((srt nodes_p).length) ((srt nodes_p).flatMap Qi)]) hS5 (St.back hg3 hsub2) rfl
 replace hP:=hK1 r1_ hY1
 obtain⟨hsm2,hP⟩:=hP
 refine q9h (args:=[v5]) rfl Tryz.call184 (Calls.mono (j7d Tryz.slices_Compact_string Tryz.slices_Compact_string_empty hS7.view (hS7.get (i:=0) rfl) rfl (fun b hb=>hS7.off _ (List.mem_of_getElem? (i:=0) rfl) b hb) (by have:=hl1;unfold Sml at this;omega)) ?_)
 rintro _ w5 ⟨v6,rfl,hf1,hg4,ho3⟩
 refine⟨_,rfl,?_⟩
 have ho4:=q1n ho3
 have hS8:=hS7.growV (i:=0) (o':=vec v6 9 1 ((cpt r1_).length) ((cpt r1_).flatMap Qi)) rfl hg4 hf1 ho3 (ms':=[vec v6 9 1 ((cpt r1_).length) ((cpt r1_).flatMap Qi),vec v4 9 1 ((srt nodes_p).length) ((srt nodes_p).flatMap Qi)]) rfl
 refine j0g hS8 rfl (i:=0) rfl Tryz.underlying44 ?_
 have hlen1:(cpt r1_).length<=9223372036854775807:=by have:=hsm2;unfold Sml at this;omega
 replace hP:=hP hlen1
 refine Zb (v:=v4) rfl (j0g hS8 rfl (i:=1) rfl Tryz.underlying44 ?_)
 have hlen2:(srt nodes_p).length<=9223372036854775807:=by have:=(show Sml (srt nodes_p).length by rw[J0];exact hsm1);unfold Sml at this;omega
 replace hP:=hP hlen2
 refine y9k (r:=(!decide ((((cpt r1_).length:Nat):Int)=(((srt nodes_p).length:Nat):Int)))) rfl rfl rfl (wpList_nil (Qn ?_))
 refine y7e ((((cpt r1_).length:Nat):Int)=(((srt nodes_p).length:Nat):Int)) rfl (fun ht1=> ?_) (fun ht1=> ?_)
 ·
  replace hP:=hP.2 ht1
  refine Qt (Qu (v:=(.slice none 0 0)) rfl (Qu (v:=(.int .i64 (10:Int))) rfl (wpList_nil (Qn (wp_ret (Bt (ret2 rfl (show ev _ _ _=(.slice none 0 0) from rfl) (show ev _ _ _=(.int .i64 (10:Int)) from rfl) ?_)))))))
  have hS9:=hS8.addNil 9 1
  exact⟨[],(10:Int),(.slice none 0 0),rfl,(St.back (hS9.keep 1 (ms':=[vec (.slice none 0 0) 9 1 0 []]) rfl) (Sub.refl _)),(by simp[Sml]),hP⟩
 ·
  replace hP:=hP.1 ht1
  refine wp_skip (Qn (Qt (v3f 9 1 Qi hS8 ?_)))
  intro b2 w6 hS10
  refine w8o (cs:=[(.map none)]) hS10 Tryz.zeroValue267 rfl ?_
  intro b3 w7 hS11
  refine w8n (T:=267) (vs:=[(.map (some b2))]) (cs':=[(.map (some b2))]) (ms':=(blk b3 267 [(.map (some b2))]::smap b2 (asl [])::vec v6 9 1 ((cpt r1_).length) ((cpt r1_).flatMap Qi)::vec v4 9 1 ((srt nodes_p).length) ((srt nodes_p).flatMap Qi)::Vn 9 1 Qi [])) (i:=0) hS11 rfl rfl rfl Tryz.sizeOf267 rfl (ones rfl) rfl (Nat.le_of_ble_eq_true rfl) rfl rfl ?_
  intro w8 hS12
  refine wpList_nil (Qn (wp_seq (Qt (Zb (v:=(.slice a2 edges_p.length cap2)) rfl (z14 rfl Tryz.underlying170 ?_)))))
  have hlen3:=RSl.len63 hr2
  replace hP:=hP hlen3
  refine Zb (v:=(.int .i64 (0:Int))) rfl (wpList_nil (Qn (wp_block ?_)))
  have hS13:=hS12.front 3 rfl (ms':=(vec v4 9 1 ((srt nodes_p).length) ((srt nodes_p).flatMap Qi)::blk b3 267 [(.map (some b2))]::smap b2 (asl [])::vec v6 9 1 ((cpt r1_).length) ((cpt r1_).flatMap Qi)::Vn 9 1 Qi [])) rfl
  have hS14:=hS13.front 3 rfl (ms':=(vec v6 9 1 ((cpt r1_).length) ((cpt r1_).flatMap Qi)::vec v4 9 1 ((srt nodes_p).length) ((srt nodes_p).flatMap Qi)::blk b3 267 [(.map (some b2))]::smap b2 (asl [])::Vn 9 1 Qi [])) rfl
  have hS15:=hS14.front 2 rfl (ms':=(blk b3 267 [(.map (some b2))]::vec v6 9 1 ((cpt r1_).length) ((cpt r1_).flatMap Qi)::vec v4 9 1 ((srt nodes_p).length) ((srt nodes_p).flatMap Qi)::smap b2 (asl [])::Vn 9 1 Qi [])) rfl
  have hS16:=hS15.front 3 rfl (ms':=(smap b2 (asl [])::blk b3 267 [(.map (some b2))]::vec v6 9 1 ((cpt r1_).length) ((cpt r1_).flatMap Qi)::vec v4 9 1 ((srt nodes_p).length) ((srt nodes_p).flatMap Qi)::Vn 9 1 Qi [])) rfl
  refine y0i (fun k_3 F_2 f z=> ∃(es2:EL ByteArray) (σ3:Hv) (g:Fr),f=(upd (upd (upd (upd (upd g 6 v4) 7 (.pointer (some ⟨b3,0,none⟩))) 24 (.slice a2 edges_p.length cap2)) 25 (.int .i64 ((edges_p.length:Nat):Int))) 26 (.int .i64 ((k_3:Nat):Int)))/\St ⟨w,σ,[]⟩ z σ3 (smap b2 (asl es2)::blk b3 267 [(.map (some b2))]::vec v6 9 1 ((cpt r1_).length) ((cpt r1_).flatMap Qi)::vec v4 9 1 ((srt nodes_p).length) ((srt nodes_p).flatMap Qi)::Vn 9 1 Qi es2)/\Sub σ1 σ3/\ELF es2 F_2) hP ⟨[],σ1,_,(Zy rfl (Zy rfl (Zy rfl (Zy rfl (Zy rfl rfl))))),hS16,(Sub.refl _),ELF.nil⟩ ?_
  clear hP
  rintro k_3 F_2 Y2 hP f w9 ⟨es2,σ3,g,rfl,hS17,hsub3,hF2⟩
  refine Qt (v5o (r:=(decide (((k_3:Nat):Int)<((edges_p.length:Nat):Int)))) rfl rfl rfl (wpList_nil (Qn (wp_seq ?_))))
  refine if_d (((k_3:Nat):Int)<((edges_p.length:Nat):Int)) rfl (fun ht2=> ?_) (fun ht2=> ?_)
  ·
   replace hP:=hP.1 ht2
   refine wp_skip (Qn (wp_seq (wp_block (Qt ?_))))
   obtain⟨x1_,hx1⟩:=getq (l:=edges_p) (k:=k_3) (by have:=ht2;omega)
   replace hP:=hP x1_ hx1
   obtain⟨ad1,cs1,ha1,hl2,hr6,hR1,hlt1⟩:=RSl.at hr2 hx1
   cases hR1
   refine R4 (k:=k_3) (a':=(ad1.add (k_3*2))) (congrArg (fun z=>Value.slice z _ _) ha1) rfl rfl hlt1 Tryz.underlying170 Tryz.sizeOf217 rfl (y35 (cs:=[(.string x1_.1),(.string x1_.2)]) rfl Tryz.isAgg217 Tryz.sizeOf217 rfl (hr6.row (View.of (Sub.trans hsub1 hsub3) hS17.view)) (w8o (cs:=[(.string (⟨#[]⟩:ByteArray)),(.string (⟨#[]⟩:ByteArray))]) hS17 Tryz.zeroValue217 rfl ?_))
   intro b4 w10 hS18
   refine w8n (T:=217) (vs:=[(.string x1_.1),(.string x1_.2)]) (cs':=[(.string x1_.1),(.string x1_.2)]) (ms':=(blk b4 217 [(.string x1_.1),(.string x1_.2)]::smap b2 (asl es2)::blk b3 267 [(.map (some b2))]::vec v6 9 1 ((cpt r1_).length) ((cpt r1_).flatMap Qi)::vec v4 9 1 ((srt nodes_p).length) ((srt nodes_p).flatMap Qi)::Vn 9 1 Qi es2)) (i:=0) hS18 rfl rfl rfl Tryz.sizeOf217 rfl (ones rfl) rfl (Nat.le_of_ble_eq_true rfl) rfl rfl ?_
   intro w11 hS19
   refine wpList_nil (Qn (wp_seq (Qt (Zb (v:=v4) rfl (j67 (a':=⟨b4,0,none⟩) rfl Tryz.underlying217 rfl Tryz.sizeOf9 rfl (q7h (v:=(.string x1_.1)) rfl Tryz.isAgg9 (hS19.cell (i:=0) rfl rfl) ?_))))))
   obtain⟨σ4,hS20,hsub4,hr7⟩:=hS19.peek (i:=4) rfl q42 (show Sml (srt nodes_p).length by rw[J0];exact hsm1)
   obtain⟨Y3,hK2,hc2⟩:=hP
   refine q9h (args:=[v4,(.string x1_.1)]) rfl Tryz.call76 (Calls.mono (Vo (srt nodes_p) x1_.1 v4 hS20.view hr7 hc2) ?_)
   rintro _ w12 ⟨r2_,rfl,hg5,hY2⟩
   refine⟨_,rfl,?_⟩
   have hg5b:=hg5.back hsub4
   have hS21:=hS19.grow hg5b
   replace hP:=hK2 r2_ hY2
   refine y0a (r:=(!r2_)) rfl rfl ?_
   rcases Bool.eq_false_or_eq_true (r2_) with hb1|hb1
   ·
    replace hP:=hP.1 hb1
    refine Zb (v:=(.bool false)) (congrArg Value.bool (congrArg Bool.not hb1)) (o_on rfl rfl (Zb (v:=v4) rfl (o_on rfl rfl (j67 (a':=⟨b4,1,none⟩) rfl Tryz.underlying217 rfl Tryz.sizeOf9 rfl (o_on rfl rfl (q7h (v:=(.string x1_.2)) rfl Tryz.isAgg9 (hS21.cell (i:=0) rfl rfl) (o_on rfl rfl ?_)))))))
    obtain⟨σ5,hS22,hsub5,hr8⟩:=hS21.peek (i:=4) rfl q42 (show Sml (srt nodes_p).length by rw[J0];exact hsm1)
    obtain⟨Y4,hK3,hc3⟩:=hP
    refine q9h (args:=[v4,(.string x1_.2)]) rfl Tryz.call76 (Calls.mono (Vo (srt nodes_p) x1_.2 v4 hS22.view hr8 hc3) ?_)
    rintro _ w13 ⟨r3_,rfl,hg6,hY3⟩
    refine⟨_,rfl,?_⟩
    have hg6b:=hg6.back hsub5
    have hS23:=hS21.grow hg6b
    replace hP:=hK3 r3_ hY3
    refine o_on rfl rfl (y0a (r:=(!r3_)) rfl rfl (v98 (v:=(.bool (!r3_))) rfl rfl (wpList_nil (Qn ?_))))
    refine y7f rfl (fun ht3=> ?_) (fun ht3=> ?_)
    ·
     replace hP:=hP.2 (by first|(rw[ht3];exact Bool.false_ne_true)|simp[ht3])
     refine Qt (Qu (v:=(.slice none 0 0)) rfl (Qu (v:=(.int .i64 (11:Int))) rfl (wpList_nil (Qn (wp_ret (Bt (j5j (Bt (Bt (j5j (Bt (ret2 rfl (show ev _ _ _=(.slice none 0 0) from rfl) (show ev _ _ _=(.int .i64 (11:Int)) from rfl) ?_))))))))))))
     have hS24:=hS23.addNil 9 1
     exact⟨[],(11:Int),(.slice none 0 0),rfl,(St.back (hS24.keep 1 (ms':=[vec (.slice none 0 0) 9 1 0 []]) rfl) (Sub.refl _)),(by simp[Sml]),hP⟩
    ·
     replace hP:=hP.1 ht3
     refine wp_skip (Qn (dr (fun z=>St ⟨w,σ,[]⟩ z σ3 [blk b4 217 [(.string x1_.1),(.string x1_.2)],blk b3 267 [(.map (some b2))],vec v6 9 1 ((cpt r1_).length) ((cpt r1_).flatMap Qi),vec v4 9 1 ((srt nodes_p).length) ((srt nodes_p).flatMap Qi)]) (by kernel_rfl) rfl ?_))
     have hS25:=hS23.drew
     refine dt 0 1 (v:=(.map (some b2))) (by kernel_rfl) rfl rfl (fun _ _ _ h=>h) (hS25.sublist (.cons_cons _ (.cons _ (.cons_cons _ (.cons_cons _ (.cons_cons _ (List.nil_sublist _))))))) (fun _ hJ _ hK=>q7h (v:=(.map (some b2))) rfl Tryz.isAgg267 (hJ.cell (i:=1) rfl rfl) ⟨rfl,hK⟩) (dt 1 3 (v:=(.pointer (some ⟨b4,0,none⟩))) (by kernel_rfl) rfl rfl (fun _ _ _ h=>h) (hS25.sublist (.cons_cons _ (.cons _ (.cons_cons _ (.cons_cons _ (.cons_cons _ (List.nil_sublist _))))))) (fun _ _ _ hK=>j67 (a':=⟨b4,0,none⟩) rfl Tryz.underlying217 rfl Tryz.sizeOf9 rfl ⟨rfl,hK⟩) (dt 2 7 (v:=(.string x1_.1)) (by kernel_rfl) rfl rfl (fun _ _ _ h=>h) (hS25.sublist (.cons_cons _ (.cons _ (.cons_cons _ (.cons_cons _ (.cons_cons _ (List.nil_sublist _))))))) (fun _ hJ _ hK=>q7h (v:=(.string x1_.1)) rfl Tryz.isAgg9 (hJ.cell (i:=0) rfl rfl) ⟨rfl,hK⟩) (dt 3 15 (v:=(.map (some b2))) (by kernel_rfl) rfl rfl (fun _ _ _ h=>h) (hS25.sublist (.cons_cons _ (.cons _ (.cons_cons _ (.cons_cons _ (.cons_cons _ (List.nil_sublist _))))))) (fun _ hJ _ hK=>q7h (v:=(.map (some b2))) rfl Tryz.isAgg267 (hJ.cell (i:=1) rfl rfl) ⟨rfl,hK⟩) (dt 4 31 (v:=(.pointer (some ⟨b4,0,none⟩))) (by kernel_rfl) rfl rfl (fun _ _ _ h=>h) (hS25.sublist (.cons_cons _ (.cons _ (.cons_cons _ (.cons_cons _ (.cons_cons _ (List.nil_sublist _))))))) (fun _ _ _ hK=>j67 (a':=⟨b4,0,none⟩) rfl Tryz.underlying217 rfl Tryz.sizeOf9 rfl ⟨rfl,hK⟩) (dt 5 63 (v:=(.string x1_.1)) (by kernel_rfl) rfl rfl (fun _ _ _ h=>h) (hS25.sublist (.cons_cons _ (.cons _ (.cons_cons _ (.cons_cons _ (.cons_cons _ (List.nil_sublist _))))))) (fun _ hJ _ hK=>q7h (v:=(.string x1_.1)) rfl Tryz.isAgg9 (hJ.cell (i:=0) rfl rfl) ⟨rfl,hK⟩) (dt 7 191 (v:=(.pointer (some ⟨b4,1,none⟩))) (by kernel_rfl) rfl rfl (fun _ _ _ h=>h) (hS25.sublist (.cons_cons _ (.cons _ (.cons_cons _ (.cons_cons _ (.cons_cons _ (List.nil_sublist _))))))) (fun _ _ _ hK=>j67 (a':=⟨b4,1,none⟩) rfl Tryz.underlying217 rfl Tryz.sizeOf9 rfl ⟨rfl,hK⟩) (dt 8 447 (v:=(.string x1_.2)) (by kernel_rfl) rfl rfl (fun _ _ _ h=>h) (hS25.sublist (.cons_cons _ (.cons _ (.cons_cons _ (.cons_cons _ (.cons_cons _ (List.nil_sublist _))))))) (fun _ hJ _ hK=>q7h (v:=(.string x1_.2)) rfl Tryz.isAgg9 (hJ.cell (i:=0) rfl rfl) ⟨rfl,hK⟩) ?_)))))))
     refine d2 6 9 511 959 (by kernel_rfl) rfl rfl rfl rfl ?_ ?_
     ·
      obtain⟨v7,hv1⟩: ∃v,(asl es2 x1_.1).getD (.slice none 0 0)=v:=⟨_,rfl⟩
      refine v5x (i:=1) (v:=v7) hS25 rfl rfl rfl Tryz.underlying267 Tryz.underlying9 Tryz.zeroValue44 hv1 (wpList_nil ?_)
      refine⟨rfl,(hS25.sublist (.cons_cons _ (.cons _ (.cons_cons _ (.cons_cons _ (.cons_cons _ (List.nil_sublist _))))))),?_⟩
      refine d1 9 1023 (by kernel_rfl) rfl (j6f (cs:=[(.string x1_.2)]) (e:=9) hS25 (fun _=>by kernel_rfl) ?_)
      intro b5 w14 hS26
      refine wpList_nil ?_
      refine⟨rfl,(hS26.sublist (.cons _ (.cons_cons _ (.cons _ (.cons_cons _ (.cons_cons _ (.cons_cons _ (List.nil_sublist _)))))))),?_⟩
      refine d1 10 2047 (by kernel_rfl) rfl ?_
      obtain⟨es3,hS27,hL1,hl3⟩:=St.borrow (ms:=[blk b5 9 [(.string x1_.2)],blk b4 217 [(.string x1_.1),(.string x1_.2)],smap b2 (asl es2),blk b3 267 [(.map (some b2))],vec v6 9 1 ((cpt r1_).length) ((cpt r1_).flatMap Qi),vec v4 9 1 ((srt nodes_p).length) ((srt nodes_p).flatMap Qi)]) hS26 hF2 x1_.1 hv1
      obtain⟨hsm3,hP⟩:=hP
      refine y4d (Ms:=fun v8=>(vec v8 9 1 ((((F_2 x1_.1).getD [])++[x1_.2]).length) ((((F_2 x1_.1).getD [])++[x1_.2]).flatMap Qi)::blk b5 9 [(.string x1_.2)]::blk b4 217 [(.string x1_.1),(.string x1_.2)]::smap b2 (asl es2)::blk b3 267 [(.map (some b2))]::vec v6 9 1 ((cpt r1_).length) ((cpt r1_).flatMap Qi)::vec v4 9 1 ((srt nodes_p).length) ((srt nodes_p).flatMap Qi)::Vn 9 1 Qi es3)) (k':=(((F_2 x1_.1).getD [])++[x1_.2]).length) (xs':=(((F_2 x1_.1).getD [])++[x1_.2]).flatMap Qi) Tryz.underlying44 Tryz.type9 rfl rfl (bytes:=16) rfl rfl (Nat.succ_pos _) hS27 rfl (q:=0) rfl rfl rfl (z0b (hS27.get (i:=1) rfl)) (ones rfl) hsm3 (by omega) (by first|rfl|exact List.length_append.symm|simp) (by simp[Qi]) (fun _=>rfl) ?_
      intro v8 w15 ho5 hS28
      have hS29:=hS28.drop 1 (ms':=(vec v8 9 1 ((((F_2 x1_.1).getD [])++[x1_.2]).length) ((((F_2 x1_.1).getD [])++[x1_.2]).flatMap Qi)::blk b4 217 [(.string x1_.1),(.string x1_.2)]::smap b2 (asl es2)::blk b3 267 [(.map (some b2))]::vec v6 9 1 ((cpt r1_).length) ((cpt r1_).flatMap Qi)::vec v4 9 1 ((srt nodes_p).length) ((srt nodes_p).flatMap Qi)::Vn 9 1 Qi es3)) rfl
      refine wpList_nil ?_
      refine⟨rfl,(hS29.sublist (.cons _ (.cons_cons _ (.cons _ (.cons_cons _ (.cons_cons _ (.cons_cons _ (List.nil_sublist _)))))))),?_⟩
      refine d1 11 4095 (by kernel_rfl) rfl (y4a (v:=v8) (i:=2) (ms':=(vec v8 9 1 ((((F_2 x1_.1).getD [])++[x1_.2]).length) ((((F_2 x1_.1).getD [])++[x1_.2]).flatMap Qi)::blk b4 217 [(.string x1_.1),(.string x1_.2)]::smap b2 (fun k'=>if k'=x1_.1 then some v8 else asl es2 k')::blk b3 267 [(.map (some b2))]::vec v6 9 1 ((cpt r1_).length) ((cpt r1_).flatMap Qi)::vec v4 9 1 ((srt nodes_p).length) ((srt nodes_p).flatMap Qi)::Vn 9 1 Qi es3)) hS29 rfl rfl rfl rfl Tryz.underlying267 Tryz.underlying9 rfl ?_)
      intro w16 hS30
      have hS32:=St.giveback (ms:=[blk b4 217 [(.string x1_.1),(.string x1_.2)],smap b2 (fun k'=>if k'=x1_.1 then some v8 else asl es2 k'),blk b3 267 [(.map (some b2))],vec v6 9 1 ((cpt r1_).length) ((cpt r1_).flatMap Qi),vec v4 9 1 ((srt nodes_p).length) ((srt nodes_p).flatMap Qi)]) (ms':=[blk b4 217 [(.string x1_.1),(.string x1_.2)],smap b2 (asl ((x1_.1,v8,((F_2 x1_.1).getD [])++[x1_.2])::es3)),blk b3 267 [(.map (some b2))],vec v6 9 1 ((cpt r1_).length) ((cpt r1_).flatMap Qi),vec v4 9 1 ((srt nodes_p).length) ((srt nodes_p).flatMap Qi)]) (i:=1) hS30 hL1 rfl rfl
      have hF3:=ELF.put (v:=v8) hF2 hL1 hsm3
      refine wpList_nil ?_
      refine⟨rfl,(hS32.sublist (.cons_cons _ (.cons _ (.cons_cons _ (.cons_cons _ (.cons_cons _ (List.nil_sublist _))))))),j6g (J':=fun z=>St ⟨w,σ,[]⟩ z σ3 (blk b4 217 [(.string x1_.1),(.string x1_.2)]::smap b2 (asl ((x1_.1,v8,((F_2 x1_.1).getD [])++[x1_.2])::es3))::blk b3 267 [(.map (some b2))]::vec v6 9 1 ((cpt r1_).length) ((cpt r1_).flatMap Qi)::vec v4 9 1 ((srt nodes_p).length) ((srt nodes_p).flatMap Qi)::Vn 9 1 Qi ((x1_.1,v8,((F_2 x1_.1).getD [])++[x1_.2])::es3))) (fun w h=>h.sublist (.cons_cons _ (.cons _ (.cons_cons _ (.cons_cons _ (.cons_cons _ (List.nil_sublist _))))))) _ _ _ _ ?_⟩
      refine dz (by kernel_rfl) (v3a (Qn (j2w (v29 (r:=((k_3+1:Nat):Int)) rfl rfl (nw (by omega) (by omega) (by have:=hlen3;omega)) (Zb (v:=(.int .i64 ((k_3+1:Nat):Int))) rfl (wpList_nil (Qn ?_)))))))
      exact⟨k_3+1,(put F_2 x1_.1 (((F_2 x1_.1).getD [])++[x1_.2])),_,rfl,hP,((x1_.1,v8,((F_2 x1_.1).getD [])++[x1_.2])::es3),σ3,_,(Zy rfl (Zy rfl (Zy rfl (Zy rfl (Zy rfl rfl))))),(hS32.sublist (ms':=(smap b2 (asl ((x1_.1,v8,((F_2 x1_.1).getD [])++[x1_.2])::es3))::blk b3 267 [(.map (some b2))]::vec v6 9 1 ((cpt r1_).length) ((cpt r1_).flatMap Qi)::vec v4 9 1 ((srt nodes_p).length) ((srt nodes_p).flatMap Qi)::Vn 9 1 Qi ((x1_.1,v8,((F_2 x1_.1).getD [])++[x1_.2])::es3))) (.cons _ (List.Sublist.refl _))),hsub3,hF3⟩
     ·
      refine j6f (cs:=[(.string x1_.2)]) (e:=9) hS25 (fun _=>by kernel_rfl) ?_
      intro b5 w14 hS26
      refine wpList_nil ?_
      refine⟨rfl,(hS26.sublist (.cons _ (.cons_cons _ (.cons _ (.cons_cons _ (.cons_cons _ (.cons_cons _ (List.nil_sublist _)))))))),?_⟩
      refine d1 6 1023 (by kernel_rfl) rfl ?_
      obtain⟨v7,hv1⟩: ∃v,(asl es2 x1_.1).getD (.slice none 0 0)=v:=⟨_,rfl⟩
      refine v5x (i:=2) (v:=v7) hS26 rfl rfl rfl Tryz.underlying267 Tryz.underlying9 Tryz.zeroValue44 hv1 (wpList_nil ?_)
      refine⟨rfl,(hS26.sublist (.cons _ (.cons_cons _ (.cons _ (.cons_cons _ (.cons_cons _ (.cons_cons _ (List.nil_sublist _)))))))),?_⟩
      refine d1 10 2047 (by kernel_rfl) rfl ?_
      obtain⟨es3,hS27,hL1,hl3⟩:=St.borrow (ms:=[blk b5 9 [(.string x1_.2)],blk b4 217 [(.string x1_.1),(.string x1_.2)],smap b2 (asl es2),blk b3 267 [(.map (some b2))],vec v6 9 1 ((cpt r1_).length) ((cpt r1_).flatMap Qi),vec v4 9 1 ((srt nodes_p).length) ((srt nodes_p).flatMap Qi)]) hS26 hF2 x1_.1 hv1
      obtain⟨hsm3,hP⟩:=hP
      refine y4d (Ms:=fun v8=>(vec v8 9 1 ((((F_2 x1_.1).getD [])++[x1_.2]).length) ((((F_2 x1_.1).getD [])++[x1_.2]).flatMap Qi)::blk b5 9 [(.string x1_.2)]::blk b4 217 [(.string x1_.1),(.string x1_.2)]::smap b2 (asl es2)::blk b3 267 [(.map (some b2))]::vec v6 9 1 ((cpt r1_).length) ((cpt r1_).flatMap Qi)::vec v4 9 1 ((srt nodes_p).length) ((srt nodes_p).flatMap Qi)::Vn 9 1 Qi es3)) (k':=(((F_2 x1_.1).getD [])++[x1_.2]).length) (xs':=(((F_2 x1_.1).getD [])++[x1_.2]).flatMap Qi) Tryz.underlying44 Tryz.type9 rfl rfl (bytes:=16) rfl rfl (Nat.succ_pos _) hS27 rfl (q:=0) rfl rfl rfl (z0b (hS27.get (i:=1) rfl)) (ones rfl) hsm3 (by omega) (by first|rfl|exact List.length_append.symm|simp) (by simp[Qi]) (fun _=>rfl) ?_
      intro v8 w15 ho5 hS28
      have hS29:=hS28.drop 1 (ms':=(vec v8 9 1 ((((F_2 x1_.1).getD [])++[x1_.2]).length) ((((F_2 x1_.1).getD [])++[x1_.2]).flatMap Qi)::blk b4 217 [(.string x1_.1),(.string x1_.2)]::smap b2 (asl es2)::blk b3 267 [(.map (some b2))]::vec v6 9 1 ((cpt r1_).length) ((cpt r1_).flatMap Qi)::vec v4 9 1 ((srt nodes_p).length) ((srt nodes_p).flatMap Qi)::Vn 9 1 Qi es3)) rfl
      refine wpList_nil ?_
      refine⟨rfl,(hS29.sublist (.cons _ (.cons_cons _ (.cons _ (.cons_cons _ (.cons_cons _ (.cons_cons _ (List.nil_sublist _)))))))),?_⟩
      refine d1 11 4095 (by kernel_rfl) rfl (y4a (v:=v8) (i:=2) (ms':=(vec v8 9 1 ((((F_2 x1_.1).getD [])++[x1_.2]).length) ((((F_2 x1_.1).getD [])++[x1_.2]).flatMap Qi)::blk b4 217 [(.string x1_.1),(.string x1_.2)]::smap b2 (fun k'=>if k'=x1_.1 then some v8 else asl es2 k')::blk b3 267 [(.map (some b2))]::vec v6 9 1 ((cpt r1_).length) ((cpt r1_).flatMap Qi)::vec v4 9 1 ((srt nodes_p).length) ((srt nodes_p).flatMap Qi)::Vn 9 1 Qi es3)) hS29 rfl rfl rfl rfl Tryz.underlying267 Tryz.underlying9 rfl ?_)
      intro w16 hS30
      have hS32:=St.giveback (ms:=[blk b4 217 [(.string x1_.1),(.string x1_.2)],smap b2 (fun k'=>if k'=x1_.1 then some v8 else asl es2 k'),blk b3 267 [(.map (some b2))],vec v6 9 1 ((cpt r1_).length) ((cpt r1_).flatMap Qi),vec v4 9 1 ((srt nodes_p).length) ((srt nodes_p).flatMap Qi)]) (ms':=[blk b4 217 [(.string x1_.1),(.string x1_.2)],smap b2 (asl ((x1_.1,v8,((F_2 x1_.1).getD [])++[x1_.2])::es3)),blk b3 267 [(.map (some b2))],vec v6 9 1 ((cpt r1_).length) ((cpt r1_).flatMap Qi),vec v4 9 1 ((srt nodes_p).length) ((srt nodes_p).flatMap Qi)]) (i:=1) hS30 hL1 rfl rfl
      have hF3:=ELF.put (v:=v8) hF2 hL1 hsm3
      refine wpList_nil ?_
      refine⟨rfl,(hS32.sublist (.cons_cons _ (.cons _ (.cons_cons _ (.cons_cons _ (.cons_cons _ (List.nil_sublist _))))))),j6g (J':=fun z=>St ⟨w,σ,[]⟩ z σ3 (blk b4 217 [(.string x1_.1),(.string x1_.2)]::smap b2 (asl ((x1_.1,v8,((F_2 x1_.1).getD [])++[x1_.2])::es3))::blk b3 267 [(.map (some b2))]::vec v6 9 1 ((cpt r1_).length) ((cpt r1_).flatMap Qi)::vec v4 9 1 ((srt nodes_p).length) ((srt nodes_p).flatMap Qi)::Vn 9 1 Qi ((x1_.1,v8,((F_2 x1_.1).getD [])++[x1_.2])::es3))) (fun w h=>h.sublist (.cons_cons _ (.cons _ (.cons_cons _ (.cons_cons _ (.cons_cons _ (List.nil_sublist _))))))) _ _ _ _ ?_⟩
      refine dz (by kernel_rfl) (v3a (Qn (j2w (v29 (r:=((k_3+1:Nat):Int)) rfl rfl (nw (by omega) (by omega) (by have:=hlen3;omega)) (Zb (v:=(.int .i64 ((k_3+1:Nat):Int))) rfl (wpList_nil (Qn ?_)))))))
      exact⟨k_3+1,(put F_2 x1_.1 (((F_2 x1_.1).getD [])++[x1_.2])),_,rfl,hP,((x1_.1,v8,((F_2 x1_.1).getD [])++[x1_.2])::es3),σ3,_,(Zy rfl (Zy rfl (Zy rfl (Zy rfl (Zy rfl rfl))))),(hS32.sublist (ms':=(smap b2 (asl ((x1_.1,v8,((F_2 x1_.1).getD [])++[x1_.2])::es3))::blk b3 267 [(.map (some b2))]::vec v6 9 1 ((cpt r1_).length) ((cpt r1_).flatMap Qi)::vec v4 9 1 ((srt nodes_p).length) ((srt nodes_p).flatMap Qi)::Vn 9 1 Qi ((x1_.1,v8,((F_2 x1_.1).getD [])++[x1_.2])::es3))) (.cons _ (List.Sublist.refl _))),hsub3,hF3⟩
   ·
    replace hP:=hP.2 (by first|(rw[hb1];exact Bool.false_ne_true)|simp[hb1])
    refine Zb (v:=(.bool true)) (congrArg Value.bool (congrArg Bool.not hb1)) (v5n rfl rfl (v5n rfl rfl (v5n rfl rfl (v5n rfl rfl (v5n rfl rfl (v97 (v:=(.bool true)) rfl rfl (wpList_nil (Qn (if_t rfl (Qt (Qu (v:=(.slice none 0 0)) rfl (Qu (v:=(.int .i64 (11:Int))) rfl (wpList_nil (Qn (wp_ret (Bt (j5j (Bt (Bt (j5j (Bt (ret2 rfl (show ev _ _ _=(.slice none 0 0) from rfl) (show ev _ _ _=(.int .i64 (11:Int)) from rfl) ?_))))))))))))))))))))))
    have hS33:=hS21.addNil 9 1
    exact⟨[],(11:Int),(.slice none 0 0),rfl,(St.back (hS33.keep 1 (ms':=[vec (.slice none 0 0) 9 1 0 []]) rfl) (Sub.refl _)),(by simp[Sml]),hP⟩
  ·
   replace hP:=hP.2 ht2
   refine wp_exit (z77 (z77 (j69 (Qn (Qt (Qu (v:=(.slice none 0 0)) rfl (wpList_nil (Qn (Qt (y4b (fun y:Bool=>(Value.bool (y))) hS17 ?_))))))))))
   intro b6 w17 hS34
   refine w8o (cs:=[(.map none)]) hS34 Tryz.zeroValue268 rfl ?_
   intro b7 w18 hS35
   refine w8n (T:=268) (vs:=[(.map (some b6))]) (cs':=[(.map (some b6))]) (ms':=(blk b7 268 [(.map (some b6))]::emap b6 (fun y:Bool=>(Value.bool (y))) (fun _=>none)::smap b2 (asl es2)::blk b3 267 [(.map (some b2))]::vec v6 9 1 ((cpt r1_).length) ((cpt r1_).flatMap Qi)::vec v4 9 1 ((srt nodes_p).length) ((srt nodes_p).flatMap Qi)::Vn 9 1 Qi es2)) (i:=0) hS35 rfl rfl rfl Tryz.sizeOf268 rfl (ones rfl) rfl (Nat.le_of_ble_eq_true rfl) rfl rfl ?_
   intro w19 hS36
   refine wpList_nil (Qn (wp_seq (wp_block ?_)))
   obtain⟨σ6,hS37,hsub6,hr9⟩:=St.freezeL (ms:=[blk b7 268 [(.map (some b6))],emap b6 (fun y:Bool=>(Value.bool (y))) (fun _=>none),smap b2 (asl es2),blk b3 267 [(.map (some b2))],vec v6 9 1 ((cpt r1_).length) ((cpt r1_).flatMap Qi),vec v4 9 1 ((srt nodes_p).length) ((srt nodes_p).flatMap Qi)]) (ms':=[blk b7 268 [(.map (some b6))],emap b6 (fun y:Bool=>(Value.bool (y))) (fun _=>none),blk b3 267 [(.map (some b2))],vec v6 9 1 ((cpt r1_).length) ((cpt r1_).flatMap Qi),vec v4 9 1 ((srt nodes_p).length) ((srt nodes_p).flatMap Qi)]) (i:=2) hS36 hF2 q42 rfl rfl
   have hS38:=hS37.addNil 9 1
   have hS39:=hS38.front 4 rfl (ms':=[vec v6 9 1 ((cpt r1_).length) ((cpt r1_).flatMap Qi),vec (.slice none 0 0) 9 1 0 [],blk b7 268 [(.map (some b6))],emap b6 (fun y:Bool=>(Value.bool (y))) (fun _=>none),blk b3 267 [(.map (some b2))],vec v4 9 1 ((srt nodes_p).length) ((srt nodes_p).flatMap Qi)]) rfl
   have hS40:=hS39.front 4 rfl (ms':=[blk b3 267 [(.map (some b2))],vec v6 9 1 ((cpt r1_).length) ((cpt r1_).flatMap Qi),vec (.slice none 0 0) 9 1 0 [],blk b7 268 [(.map (some b6))],emap b6 (fun y:Bool=>(Value.bool (y))) (fun _=>none),vec v4 9 1 ((srt nodes_p).length) ((srt nodes_p).flatMap Qi)]) rfl
   have hS41:=hS40.front 3 rfl (ms':=[blk b7 268 [(.map (some b6))],blk b3 267 [(.map (some b2))],vec v6 9 1 ((cpt r1_).length) ((cpt r1_).flatMap Qi),vec (.slice none 0 0) 9 1 0 [],emap b6 (fun y:Bool=>(Value.bool (y))) (fun _=>none),vec v4 9 1 ((srt nodes_p).length) ((srt nodes_p).flatMap Qi)]) rfl
   have hS42:=hS41.front 4 rfl (ms':=[emap b6 (fun y:Bool=>(Value.bool (y))) (fun _=>none),blk b7 268 [(.map (some b6))],blk b3 267 [(.map (some b2))],vec v6 9 1 ((cpt r1_).length) ((cpt r1_).flatMap Qi),vec (.slice none 0 0) 9 1 0 [],vec v4 9 1 ((srt nodes_p).length) ((srt nodes_p).flatMap Qi)]) rfl
   have hS43:=hS42.front 4 rfl (ms':=[vec (.slice none 0 0) 9 1 0 [],emap b6 (fun y:Bool=>(Value.bool (y))) (fun _=>none),blk b7 268 [(.map (some b6))],blk b3 267 [(.map (some b2))],vec v6 9 1 ((cpt r1_).length) ((cpt r1_).flatMap Qi),vec v4 9 1 ((srt nodes_p).length) ((srt nodes_p).flatMap Qi)]) rfl
   have hS44:=hS43.front 5 rfl (ms':=[vec v4 9 1 ((srt nodes_p).length) ((srt nodes_p).flatMap Qi),vec (.slice none 0 0) 9 1 0 [],emap b6 (fun y:Bool=>(Value.bool (y))) (fun _=>none),blk b7 268 [(.map (some b6))],blk b3 267 [(.map (some b2))],vec v6 9 1 ((cpt r1_).length) ((cpt r1_).flatMap Qi)]) rfl
   refine y0j (fun left_3 out_3 F_4 f z=> ∃(v13:Value) (v14:Value) (σ7:Hv) (g:Fr),f=(upd (upd (upd (upd g 6 v13) 7 (.pointer (some ⟨b3,0,none⟩))) 10 v14) 11 (.pointer (some ⟨b7,0,none⟩)))/\St ⟨w,σ,[]⟩ z σ7 [vec v13 9 1 left_3.length ((left_3).flatMap Qi),vec v14 9 1 out_3.length ((out_3).flatMap Qi),emap b6 (fun y:Bool=>(Value.bool (y))) F_4,blk b7 268 [(.map (some b6))],blk b3 267 [(.map (some b2))],vec v6 9 1 ((cpt r1_).length) ((cpt r1_).flatMap Qi)]/\Sub σ6 σ7/\v13.oneCell'=true/\Sml left_3.length/\v14.oneCell'=true/\Sml out_3.length) hP ⟨v4,(.slice none 0 0),σ6,_,(Zy rfl (Zy rfl (Zy rfl (Zy rfl rfl)))),hS44,(Sub.refl _),(q1n ho1.1),(show Sml (srt nodes_p).length by rw[J0];exact hsm1),rfl,(by simp[Sml])⟩ ?_
   clear hP
   rintro left_3 out_3 F_4 Y5 hP f w20 ⟨v13,v14,σ7,g,rfl,hS45,hsub7,ho10,hl8,ho11,hl9⟩
   refine wp_seq (Qt (Zb (v:=v13) rfl (j0g hS45 rfl (i:=0) rfl Tryz.underlying44 ?_)))
   have hlen4:left_3.length<=9223372036854775807:=by have:=hl8;unfold Sml at this;omega
   replace hP:=hP hlen4
   refine y9l (r:=(decide ((0:Int)<((left_3.length:Nat):Int)))) rfl rfl rfl (wpList_nil (Qn ?_))
   refine if_d ((0:Int)<((left_3.length:Nat):Int)) rfl (fun ht4=> ?_) (fun ht4=> ?_)
   ·
    replace hP:=hP.1 ht4
    refine wp_skip (Qn (wp_block (Qt (Zb (v:=v13) rfl (j2x (la:=[]) (lb:=[(.pointer (some ⟨b3,0,none⟩)),(.pointer (some ⟨b7,0,none⟩))]) rfl rfl ?_)))))
    obtain⟨Y6,hK4,hP⟩:=hP
    refine q9h (args:=[v13,(.func (.func 189) #[] #[(.pointer (some ⟨b3,0,none⟩)),(.pointer (some ⟨b7,0,none⟩))])]) rfl Tryz.call188 (Calls.mono (R:=fun e z=> ∃(r_1:Int) (σ8:Hv),e= .returned (.int .i64 r_1)/\Y6 r_1/\St ⟨w,σ,[]⟩ z σ8 [vec v13 9 1 left_3.length ((left_3).flatMap Qi),vec v14 9 1 out_3.length ((out_3).flatMap Qi),emap b6 (fun y:Bool=>(Value.bool (y))) F_4,blk b7 268 [(.map (some b6))],blk b3 267 [(.map (some b2))],vec v6 9 1 ((cpt r1_).length) ((cpt r1_).flatMap Qi)]/\Sub σ7 σ8) ?_ ?_)
    ·
     refine enter Tryz.func188 rfl rfl rfl ?_
     refine Qt (Qu (v:=(.int .i64 (0:Int))) rfl (wpList_nil (Qn (wp_seq (Qt (Zb (v:=v13) rfl (j0g hS45 rfl (i:=0) rfl Tryz.underlying44 (Zb (v:=(.int .i64 (0:Int))) rfl (wpList_nil (Qn (wp_block ?_)))))))))))
     refine w2x (fun k_5 f z=> ∃(σ9:Hv) (g:Fr),f=(upd (upd (upd (upd g 0 v13) 1 (.func (.func 189) #[] #[(.pointer (some ⟨b3,0,none⟩)),(.pointer (some ⟨b7,0,none⟩))])) 7 (.int .i64 ((left_3.length:Nat):Int))) 8 (.int .i64 ((k_5:Nat):Int)))/\St ⟨w,σ,[]⟩ z σ9 [vec v13 9 1 left_3.length ((left_3).flatMap Qi),vec v14 9 1 out_3.length ((out_3).flatMap Qi),emap b6 (fun y:Bool=>(Value.bool (y))) F_4,blk b7 268 [(.map (some b6))],blk b3 267 [(.map (some b2))],vec v6 9 1 ((cpt r1_).length) ((cpt r1_).flatMap Qi)]/\Sub σ7 σ9) hP ⟨σ7,_,(Zy rfl (Zy rfl (Zy rfl (Zy rfl rfl)))),hS45,(Sub.refl _)⟩ ?_
     clear hP
     rintro k_5 Y7 hP f w21 ⟨σ9,g,rfl,hS46,hsub9⟩
     refine Qt (v5o (r:=(decide (((k_5:Nat):Int)<((left_3.length:Nat):Int)))) rfl rfl rfl (wpList_nil (Qn (wp_seq ?_))))
     refine if_d (((k_5:Nat):Int)<((left_3.length:Nat):Int)) rfl (fun ht5=> ?_) (fun ht5=> ?_)
     ·
      replace hP:=hP.1 ht5
      refine wp_skip (Qn (wp_seq (wp_block (Qt (Zb (v:=(.int .i64 ((k_5:Nat):Int))) rfl (Qu (v:=(.int .i64 ((k_5:Nat):Int))) rfl (wpList_nil (Qn (Qt (Zb (v:=(.func (.func 189) #[] #[(.pointer (some ⟨b3,0,none⟩)),(.pointer (some ⟨b7,0,none⟩))])) rfl (Zb (v:=v13) rfl (Zb (v:=(.int .i64 ((k_5:Nat):Int))) rfl ?_))))))))))))
      obtain⟨x2_,hx2⟩:=getq (l:=left_3) (k:=k_5) (by have:=ht5;omega)
      replace hP:=hP x2_ hx2
      obtain⟨g1,cp1,hv2⟩:=w2y (hS46.get (i:=0) rfl) (Ql hx2)
      refine R4 (k:=k_5) (a':=⟨g1,k_5*1,none⟩) hv2 rfl rfl (Ql hx2) Tryz.underlying44 Tryz.sizeOf9 (by simp[Un]) (q7h (v:=(.string x2_)) rfl Tryz.isAgg9 (j7e q42 (j:=0) hv2 (hS46.get (i:=0) rfl) hx2 rfl) (v5r (args:=[(.string x2_),(.pointer (some ⟨b3,0,none⟩)),(.pointer (some ⟨b7,0,none⟩))]) rfl rfl Tryz.call189 ?_))
      refine enter Tryz.func189 rfl rfl rfl ?_
      refine Qt (Qu (v:=(.bool false)) rfl (wpList_nil (Qn (Qt (q7h (v:=(.map (some b2))) rfl Tryz.isAgg267 (hS46.cell (i:=4) rfl rfl) (Zb (v:=(.string x2_)) rfl ?_))))))
      obtain⟨v15,hl10,hz1⟩:=RMp.at (z:= .slice none 0 0) (z0:=[]) RSl.nil hr9 x2_
      obtain⟨a3,cap3,rfl⟩:=hz1.shape
      refine y4e (v:=(.slice a3 ((F_2 x2_).getD []).length cap3)) hl10 (View.of (Sub.trans hsub7 hsub9) hS46.view) rfl rfl Tryz.underlying267 Tryz.underlying9 Tryz.zeroValue44 (j2x (la:=[]) (lb:=[(.pointer (some ⟨b7,0,none⟩))]) rfl rfl (q9h (args:=[(.slice a3 ((F_2 x2_).getD []).length cap3),(.func (.func 191) #[] #[(.pointer (some ⟨b7,0,none⟩))])]) rfl Tryz.call190 ?_))
      refine enter Tryz.func190 rfl rfl rfl ?_
      refine Qt (Qu (v:=(.bool false)) rfl (wpList_nil (Qn (Qt (Zb (v:=(.slice a3 ((F_2 x2_).getD []).length cap3)) rfl (Zb (v:=(.func (.func 191) #[] #[(.pointer (some ⟨b7,0,none⟩))])) rfl ?_))))))
      obtain⟨Y8,hK5,hP⟩:=hP
      refine q9h (args:=[(.slice a3 ((F_2 x2_).getD []).length cap3),(.func (.func 191) #[] #[(.pointer (some ⟨b7,0,none⟩))])]) rfl Tryz.call188 (Calls.mono (R:=fun e z=> ∃(r_2:Int) (σ10:Hv),e= .returned (.int .i64 r_2)/\Y8 r_2/\St ⟨w,σ,[]⟩ z σ10 [vec v13 9 1 left_3.length ((left_3).flatMap Qi),vec v14 9 1 out_3.length ((out_3).flatMap Qi),emap b6 (fun y:Bool=>(Value.bool (y))) F_4,blk b7 268 [(.map (some b6))],blk b3 267 [(.map (some b2))],vec v6 9 1 ((cpt r1_).length) ((cpt r1_).flatMap Qi)]/\Sub σ9 σ10) ?_ ?_)
      ·
       refine enter Tryz.func188 rfl rfl rfl ?_
       refine Qt (Qu (v:=(.int .i64 (0:Int))) rfl (wpList_nil (Qn (wp_seq (Qt (Zb (v:=(.slice a3 ((F_2 x2_).getD []).length cap3)) rfl (z14 rfl Tryz.underlying44 ?_)))))))
       have hlen6:=RSl.len63 hz1
       replace hP:=hP hlen6
       refine Zb (v:=(.int .i64 (0:Int))) rfl (wpList_nil (Qn (wp_block ?_)))
       refine w2x (fun k_7 f z=> ∃(σ11:Hv) (g:Fr),f=(upd (upd (upd (upd g 0 (.slice a3 ((F_2 x2_).getD []).length cap3)) 1 (.func (.func 191) #[] #[(.pointer (some ⟨b7,0,none⟩))])) 7 (.int .i64 ((((F_2 x2_).getD []).length:Nat):Int))) 8 (.int .i64 ((k_7:Nat):Int)))/\St ⟨w,σ,[]⟩ z σ11 [vec v13 9 1 left_3.length ((left_3).flatMap Qi),vec v14 9 1 out_3.length ((out_3).flatMap Qi),emap b6 (fun y:Bool=>(Value.bool (y))) F_4,blk b7 268 [(.map (some b6))],blk b3 267 [(.map (some b2))],vec v6 9 1 ((cpt r1_).length) ((cpt r1_).flatMap Qi)]/\Sub σ9 σ11) hP ⟨σ9,_,(Zy rfl (Zy rfl (Zy rfl (Zy rfl rfl)))),hS46,(Sub.refl _)⟩ ?_
       clear hP
       rintro k_7 Y9 hP f w22 ⟨σ11,g,rfl,hS47,hsub11⟩
       refine Qt (v5o (r:=(decide (((k_7:Nat):Int)<((((F_2 x2_).getD []).length:Nat):Int)))) rfl rfl rfl (wpList_nil (Qn (wp_seq ?_))))
       refine if_d (((k_7:Nat):Int)<((((F_2 x2_).getD []).length:Nat):Int)) rfl (fun ht6=> ?_) (fun ht6=> ?_)
       ·
        replace hP:=hP.1 ht6
        refine wp_skip (Qn (wp_seq (wp_block (Qt (Zb (v:=(.int .i64 ((k_7:Nat):Int))) rfl (Qu (v:=(.int .i64 ((k_7:Nat):Int))) rfl (wpList_nil (Qn (Qt (Zb (v:=(.func (.func 191) #[] #[(.pointer (some ⟨b7,0,none⟩))])) rfl (Zb (v:=(.slice a3 ((F_2 x2_).getD []).length cap3)) rfl (Zb (v:=(.int .i64 ((k_7:Nat):Int))) rfl ?_))))))))))))
        obtain⟨x3_,hx3⟩:=getq (l:=((F_2 x2_).getD [])) (k:=k_7) (by have:=ht6;omega)
        replace hP:=hP x3_ hx3
        obtain⟨ad2,cs2,ha2,hl11,hr10,hR2,hlt2⟩:=RSl.at hz1 hx3
        cases hR2
        refine R4 (k:=k_7) (a':=(ad2.add (k_7*1))) (congrArg (fun z=>Value.slice z _ _) ha2) rfl rfl hlt2 Tryz.underlying44 Tryz.sizeOf9 rfl (q7h (v:=(.string x3_)) rfl Tryz.isAgg9 (hr10.cell (View.of (Sub.trans (Sub.trans hsub7 hsub9) hsub11) hS47.view) 0 rfl rfl) (v5r (args:=[(.string x3_),(.pointer (some ⟨b7,0,none⟩))]) rfl rfl Tryz.call191 ?_))
        refine enter Tryz.func191 rfl rfl rfl ?_
        refine Qt (Qu (v:=(.bool false)) rfl (wpList_nil (Qn (Qt (q7h (v:=(.map (some b6))) rfl Tryz.isAgg268 (hS47.cell (i:=3) rfl rfl) (Zb (v:=(.string x3_)) rfl (y4c (v:=(.bool (((F_4 x3_).getD false)))) (i:=2) hS47 rfl rfl rfl Tryz.underlying268 Tryz.underlying9 Tryz.zeroValue4 (y0k (fun y:Bool=>(Value.bool (y))) _ rfl) (y0a (r:=(!((F_4 x3_).getD false))) rfl rfl (Qu (v:=(.bool (!((F_4 x3_).getD false)))) rfl (wpList_nil (Qn (wp_ret (ret1 rfl (show ev _ _ _=(.bool (!((F_4 x3_).getD false))) from rfl) ?_)))))))))))))
        refine⟨_,rfl,?_⟩
        refine wpList_nil (Qn ?_)
        refine y7f rfl (fun ht7=> ?_) (fun ht7=> ?_)
        ·
         replace hP:=hP.2 (by first|(rw[ht7];exact Bool.false_ne_true)|simp[ht7])
         refine Qt (Zb (v:=(.int .i64 ((k_7:Nat):Int))) rfl (Qu (v:=(.int .i64 ((k_7:Nat):Int))) rfl (wpList_nil (Qn (wp_ret (j5j (Bt (Bt (j5j (Bt (ret1 rfl (show ev _ _ _=(.int .i64 ((k_7:Nat):Int)) from rfl) ?_)))))))))))
         exact⟨((k_7:Nat):Int),σ11,rfl,hP,hS47,hsub11⟩
        ·
         replace hP:=hP.1 ht7
         refine wp_skip (v3a (Qn (j2w (v29 (r:=((k_7+1:Nat):Int)) rfl rfl (nw (by omega) (by omega) (by have:=hlen6;omega)) (Zb (v:=(.int .i64 ((k_7+1:Nat):Int))) rfl (wpList_nil (Qn ?_)))))))
         exact⟨k_7+1,_,rfl,hP,σ11,_,(Zy rfl (Zy rfl (Zy rfl (Zy rfl rfl)))),hS47,hsub11⟩
       ·
        replace hP:=hP.2 ht6
        refine wp_exit (z77 (z77 (j69 (Qn (Qt (Qu (v:=(.int .i64 (-1:Int))) rfl (wpList_nil (Qn (wp_ret (ret1 rfl (show ev _ _ _=(.int .i64 (-1:Int)) from rfl) ?_))))))))))
        exact⟨(-1:Int),σ11,rfl,hP,hS47,hsub11⟩
      ·
       rintro _ w23 ⟨r_2,σ10,rfl,hY4,hS48,hsub10⟩
       refine⟨_,rfl,?_⟩
       replace hP:=hK5 r_2 hY4
       refine y7c (r:=(decide ((0:Int)<=r_2))) rfl rfl rfl (Qu (v:=(.bool (decide ((0:Int)<=r_2)))) rfl (wpList_nil (Qn (wp_ret (ret1 rfl (show ev _ _ _=(.bool (decide ((0:Int)<=r_2))) from rfl) ?_)))))
       refine⟨_,rfl,?_⟩
       refine y0a (r:=(!decide ((0:Int)<=r_2))) rfl rfl (Qu (v:=(.bool (!decide ((0:Int)<=r_2)))) rfl (wpList_nil (Qn (wp_ret (ret1 rfl (show ev _ _ _=(.bool (!decide ((0:Int)<=r_2))) from rfl) ?_)))))
       refine⟨_,rfl,?_⟩
       refine wpList_nil (Qn ?_)
       refine y7e ((0:Int)<=r_2) rfl (fun ht8=> ?_) (fun ht8=> ?_)
       ·
        replace hP:=hP.2 ht8
        refine Qt (Zb (v:=(.int .i64 ((k_5:Nat):Int))) rfl (Qu (v:=(.int .i64 ((k_5:Nat):Int))) rfl (wpList_nil (Qn (wp_ret (j5j (Bt (Bt (j5j (Bt (ret1 rfl (show ev _ _ _=(.int .i64 ((k_5:Nat):Int)) from rfl) ?_)))))))))))
        exact⟨((k_5:Nat):Int),σ10,rfl,hP,hS48,(Sub.trans hsub9 hsub10)⟩
       ·
        replace hP:=hP.1 ht8
        refine wp_skip (v3a (Qn (j2w (v29 (r:=((k_5+1:Nat):Int)) rfl rfl (nw (by omega) (by omega) (by have:=hlen4;omega)) (Zb (v:=(.int .i64 ((k_5+1:Nat):Int))) rfl (wpList_nil (Qn ?_)))))))
        exact⟨k_5+1,_,rfl,hP,σ10,_,(Zy rfl (Zy rfl (Zy rfl (Zy rfl rfl)))),hS48,(Sub.trans hsub9 hsub10)⟩
     ·
      replace hP:=hP.2 ht5
      refine wp_exit (z77 (z77 (j69 (Qn (Qt (Qu (v:=(.int .i64 (-1:Int))) rfl (wpList_nil (Qn (wp_ret (ret1 rfl (show ev _ _ _=(.int .i64 (-1:Int)) from rfl) ?_))))))))))
      exact⟨(-1:Int),σ9,rfl,hP,hS46,hsub9⟩
    ·
     rintro _ w24 ⟨r_1,σ8,rfl,hY5,hS49,hsub8⟩
     refine⟨_,rfl,?_⟩
     replace hP:=hK4 r_1 hY5
     refine Qu (v:=(.int .i64 r_1)) rfl (wpList_nil (Qn (wp_seq (Qt (Zb (v:=(.int .i64 r_1)) rfl (v5o (r:=(decide (r_1<(0:Int)))) rfl rfl rfl (wpList_nil (Qn ?_))))))))
     refine if_d (r_1<(0:Int)) rfl (fun ht9=> ?_) (fun ht9=> ?_)
     ·
      replace hP:=hP.1 ht9
      refine Qt (Qu (v:=(.slice none 0 0)) rfl (Qu (v:=(.int .i64 (12:Int))) rfl (wpList_nil (Qn (wp_ret (Bt (j5j (Bt (j5j (Bt (ret2 rfl (show ev _ _ _=(.slice none 0 0) from rfl) (show ev _ _ _=(.int .i64 (12:Int)) from rfl) ?_)))))))))))
      have hS50:=hS49.addNil 9 1
      exact⟨[],(12:Int),(.slice none 0 0),rfl,(St.back (hS50.keep 1 (ms':=[vec (.slice none 0 0) 9 1 0 []]) rfl) (Sub.refl _)),(by simp[Sml]),hP⟩
     ·
      replace hP:=hP.2 ht9
      refine wp_skip (Qn (Qt (Zb (v:=v14) rfl (Zb (v:=v13) rfl (Zb (v:=(.int .i64 r_1)) rfl ?_)))))
      obtain⟨j1_,hj1,hP⟩:=hP
      obtain⟨x4_,hx4,hP⟩:=hP
      obtain⟨g2,cp2,hv3⟩:=w2y (hS49.get (i:=0) rfl) (Ql hx4)
      refine R4 (k:=j1_) (a':=⟨g2,j1_*1,none⟩) hv3 rfl hj1 (Ql hx4) Tryz.underlying44 Tryz.sizeOf9 (by simp[Un]) (q7h (v:=(.string x4_)) rfl Tryz.isAgg9 (j7e q42 (j:=0) hv3 (hS49.get (i:=0) rfl) hx4 rfl) (j6f (cs:=[(.string x4_)]) (e:=9) hS49 (fun _=>by kernel_rfl) ?_))
      intro b8 w25 hS51
      obtain⟨hsm4,hP⟩:=hP
      refine y4d (Ms:=fun v16=>[blk b8 9 [(.string x4_)],vec v13 9 1 left_3.length ((left_3).flatMap Qi),vec v16 9 1 ((out_3++[x4_]).length) ((out_3++[x4_]).flatMap Qi),emap b6 (fun y:Bool=>(Value.bool (y))) F_4,blk b7 268 [(.map (some b6))],blk b3 267 [(.map (some b2))],vec v6 9 1 ((cpt r1_).length) ((cpt r1_).flatMap Qi)]) (k':=(out_3++[x4_]).length) (xs':=(out_3++[x4_]).flatMap Qi) Tryz.underlying44 Tryz.type9 rfl rfl (bytes:=16) rfl rfl (Nat.succ_pos _) hS51 rfl (q:=2) rfl rfl rfl (z0b (hS51.get (i:=0) rfl)) (ones rfl) hsm4 (by omega) (by first|rfl|exact List.length_append.symm|simp) (by simp[Qi]) (fun _=>rfl) ?_
      intro v16 w26 ho12 hS52
      have hS53:=hS52.drop 0 (ms':=[vec v13 9 1 left_3.length ((left_3).flatMap Qi),vec v16 9 1 ((out_3++[x4_]).length) ((out_3++[x4_]).flatMap Qi),emap b6 (fun y:Bool=>(Value.bool (y))) F_4,blk b7 268 [(.map (some b6))],blk b3 267 [(.map (some b2))],vec v6 9 1 ((cpt r1_).length) ((cpt r1_).flatMap Qi)]) rfl
      refine Qu (v:=v16) rfl (wpList_nil (Qn (wp_seq (dr (fun z=>St ⟨w,σ,[]⟩ z σ8 [vec v13 9 1 left_3.length ((left_3).flatMap Qi),vec v16 9 1 ((out_3++[x4_]).length) ((out_3++[x4_]).flatMap Qi),blk b7 268 [(.map (some b6))],blk b3 267 [(.map (some b2))],vec v6 9 1 ((cpt r1_).length) ((cpt r1_).flatMap Qi)]) (by kernel_rfl) rfl ?_))))
      have hS54:=hS53.drew
      refine dt 0 1 (v:=(.map (some b6))) (by kernel_rfl) rfl rfl (fun _ _ _ h=>h) (hS54.sublist (.cons_cons _ (.cons_cons _ (.cons _ (List.Sublist.refl _))))) (fun _ hJ _ hK=>q7h (v:=(.map (some b6))) rfl Tryz.isAgg268 (hJ.cell (i:=2) rfl rfl) ⟨rfl,hK⟩) (dt 1 3 (v:=v13) (by kernel_rfl) rfl rfl (fun _ _ _ h=>h) (hS54.sublist (.cons_cons _ (.cons_cons _ (.cons _ (List.Sublist.refl _))))) (fun _ _ _ hK=>Zb (v:=v13) rfl ⟨rfl,hK⟩) (dt 2 7 (v:=(.int .i64 r_1)) (by kernel_rfl) rfl rfl (fun _ _ _ h=>h) (hS54.sublist (.cons_cons _ (.cons_cons _ (.cons _ (List.Sublist.refl _))))) (fun _ _ _ hK=>Zb (v:=(.int .i64 r_1)) rfl ⟨rfl,hK⟩) ?_))
      obtain⟨j2_,hj2,hP⟩:=hP
      obtain⟨x5_,hx5,hP⟩:=hP
      obtain⟨g3,cp3,hv4⟩:=w2y (hS54.get (i:=0) rfl) (Ql hx5)
      refine dt 3 15 (v:=(.pointer (some ⟨g3,j2_*1,none⟩))) (by kernel_rfl) rfl rfl (fun _ _ _ h=>h) (hS54.sublist (.cons_cons _ (.cons_cons _ (.cons _ (List.Sublist.refl _))))) (fun _ _ _ hK=>R4 (k:=j2_) (a':=⟨g3,j2_*1,none⟩) hv4 rfl hj2 (Ql hx5) Tryz.underlying44 Tryz.sizeOf9 (by simp[Un]) ⟨rfl,hK⟩) (dt 4 31 (v:=(.string x5_)) (by kernel_rfl) rfl rfl (fun _ _ _ h=>h) (hS54.sublist (.cons_cons _ (.cons_cons _ (.cons _ (List.Sublist.refl _))))) (fun _ hJ _ hK=>q7h (v:=(.string x5_)) rfl Tryz.isAgg9 (j7e q42 (j:=0) hv4 (hJ.get (i:=0) rfl) hx5 rfl) ⟨rfl,hK⟩) (d1 5 63 (by kernel_rfl) rfl (y7l (y0:=true) (i:=2) (ms':=[vec v13 9 1 left_3.length ((left_3).flatMap Qi),vec v16 9 1 ((out_3++[x4_]).length) ((out_3++[x4_]).flatMap Qi),emap b6 (fun y:Bool=>(Value.bool (y))) (put F_4 x5_ true),blk b7 268 [(.map (some b6))],blk b3 267 [(.map (some b2))],vec v6 9 1 ((cpt r1_).length) ((cpt r1_).flatMap Qi)]) hS54 rfl rfl rfl rfl Tryz.underlying268 Tryz.underlying9 rfl ?_)))
      intro w27 hS55
      refine wpList_nil ?_
      refine⟨rfl,(hS55.sublist (.cons_cons _ (.cons_cons _ (.cons _ (List.Sublist.refl _))))),j6g (J':=fun z=>St ⟨w,σ,[]⟩ z σ8 [vec v13 9 1 left_3.length ((left_3).flatMap Qi),vec v16 9 1 ((out_3++[x4_]).length) ((out_3++[x4_]).flatMap Qi),emap b6 (fun y:Bool=>(Value.bool (y))) (put F_4 x5_ true),blk b7 268 [(.map (some b6))],blk b3 267 [(.map (some b2))],vec v6 9 1 ((cpt r1_).length) ((cpt r1_).flatMap Qi)]) (fun w h=>h.sublist (.cons_cons _ (.cons_cons _ (.cons _ (List.Sublist.refl _))))) _ _ _ _ ?_⟩
      refine dz (by kernel_rfl) (Qn (j2w (Zb (v:=v13) rfl (Zb (v:=(.int .i64 r_1)) rfl (Zb (v:=(.int .i64 r_1)) rfl ?_)))))
      obtain⟨hi1,hP⟩:=hP
      refine v29 (r:=(r_1+(1:Int))) rfl rfl (nwi rfl hi1) ?_
      obtain⟨j3_,hj3,hP⟩:=hP
      obtain⟨hd1,hP⟩:=hP
      obtain⟨hd2,hP⟩:=hP
      obtain⟨hsm5,hP⟩:=hP
      have hd3:r_1=((j3_:Nat):Int)/\(r_1+(1:Int))=((j3_+1:Nat):Int):=⟨by omega,by omega⟩
      refine q9h (args:=[v13,(.int .i64 ((j3_:Nat):Int)),(.int .i64 ((j3_+1:Nat):Int))]) (by rw[←hd3.1,←hd3.2];rfl) Tryz.call192 (Calls.mono (v3d (i:=j3_) (j:=(j3_+1)) Tryz.slices_Delete_string hS55.view (hS55.get (i:=0) rfl) (fun b hb=>hS55.off _ (List.mem_of_getElem? (i:=0) rfl) b hb) (by omega) hd2 hd1) ?_)
      rintro _ w28 ⟨v17,rfl,hf2,hg7,ho13⟩
      refine⟨_,rfl,?_⟩
      have ho14:=q1n ho13
      have hS56:=hS55.growV (i:=0) (o':=vec v17 9 1 ((left_3.take j3_++left_3.drop (j3_+1)).length) ((left_3.take j3_++left_3.drop (j3_+1)).flatMap Qi)) rfl hg7 hf2 ho13 (ms':=[vec v17 9 1 ((left_3.take j3_++left_3.drop (j3_+1)).length) ((left_3.take j3_++left_3.drop (j3_+1)).flatMap Qi),vec v16 9 1 ((out_3++[x4_]).length) ((out_3++[x4_]).flatMap Qi),emap b6 (fun y:Bool=>(Value.bool (y))) (put F_4 x5_ true),blk b7 268 [(.map (some b6))],blk b3 267 [(.map (some b2))],vec v6 9 1 ((cpt r1_).length) ((cpt r1_).flatMap Qi)]) rfl
      refine Qu (v:=v17) rfl (wpList_nil (v3a (Qn ?_)))
      exact⟨left_3.take j3_++left_3.drop (j3_+1),out_3++[x4_],put F_4 x5_ true,_,rfl,hP,v17,v16,σ8,_,(Zy rfl (Zy rfl (Zy rfl (Zy rfl rfl)))),hS56,(Sub.trans hsub7 hsub8),ho14,hsm5,ho12,hsm4⟩
   ·
    replace hP:=hP.2 ht4
    refine wp_exit (z77 (z77 (j69 (Qn (Qt (Zb (v:=v14) rfl (Qu (v:=v14) rfl (Qu (v:=(.int .i64 (0:Int))) rfl (wpList_nil (Qn (wp_ret (ret2 rfl (show ev _ _ _=v14 from rfl) (show ev _ _ _=(.int .i64 (0:Int)) from rfl) ?_))))))))))))
    have hS57:=hS45.front 1 rfl (ms':=[vec v14 9 1 out_3.length ((out_3).flatMap Qi),vec v13 9 1 left_3.length ((left_3).flatMap Qi),emap b6 (fun y:Bool=>(Value.bool (y))) F_4,blk b7 268 [(.map (some b6))],blk b3 267 [(.map (some b2))],vec v6 9 1 ((cpt r1_).length) ((cpt r1_).flatMap Qi)]) rfl
    exact⟨out_3,(0:Int),v14,rfl,(St.back (hS57.keep 1 (ms':=[vec v14 9 1 out_3.length ((out_3).flatMap Qi)]) rfl) (Sub.refl _)),hl9,hP⟩
end Go.Proofs.YtfiomedjdipbgaaGreatDoor
end
