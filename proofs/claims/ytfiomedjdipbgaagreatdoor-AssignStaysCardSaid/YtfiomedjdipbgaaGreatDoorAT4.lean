/- A forced assignment outlasts every change. This is part 4 of 7. Conditions: those in the statements. -/
import Derived.Test.YtfiomedjdipbgaaGreatDoorProg
import Derived.Test.YtfiomedjdipbgaaGreatDoorAT3
import Derived.Lib.ValidU
import Derived.KernelRfl
import Derived.Conc.MuLone
import Derived.Shelf.Small.Bits
import Derived.Shelf.Utf8.RuneCount
import Derived.Shelf.Strconv.Atoi
import Derived.Shelf.Strconv.Itoa0
import Derived.Shelf.Strconv.Itoa1
import Derived.Shelf.LaysM
import Derived.Shelf.Strconv.Itoa2
import Derived.Shelf.Strconv.Itoa3
import Derived.Shelf.Strconv.AtoiErrFast
import Derived.Shelf.Strconv.ParseIntEmpty
import Derived.Shelf.Strconv.AtoiFail
import Derived.Shelf.Strconv.Clone
import Derived.Shelf.Strconv.SyntaxError
import Derived.Shelf.LaysC
import Derived.Shelf.Strconv.ToError
import Derived.Shelf.Strconv.Lower
import Derived.Shelf.Strconv.ParseUint10
import Derived.Shelf.Strconv.ParseUint10Empty
import Derived.Shelf.Strconv.ParseUint10Any
import Derived.Shelf.Strconv.ParseInt10
import Derived.Shelf.Strconv.AtoiLong
import Derived.Shelf.Strconv.AtoiInnerAll
import Derived.Shelf.Strconv.RangeError
import Derived.Shelf.Strconv.ToErrorRange
import Derived.Shelf.Strconv.AtoiAll
import Derived.Shelf.Strconv.ErrVarAll
import Derived.Shelf.Strings.Search1
import Derived.Shelf.Strings.Search2
import Derived.Shelf.Strings.Search3
import Derived.Shelf.Strings.Count
import Derived.Shelf.Strings.Shaped
import Derived.Shelf.Sort.Plain
import Derived.Shelf.Strings.Split
import Derived.Shelf.Strings.SplitShaped
import Derived.Shelf.Unicode.Decode
import Derived.Shelf.Strings.RuneCount
import Derived.Shelf.Strings.Explode
import Derived.Shelf.Unicode.DecodeSlow
import Derived.Shelf.Unicode.DecodeAny
import Derived.Ground.Names2Prog
import Derived.Shelf.Slices.Clone
import Derived.Shelf.Slices.CompactS
import Derived.Shelf.Slices.SearchI
import Derived.Shelf.Slices.Delete
import Derived.Shelf.Slices.Cells
import Derived.Shelf.Slices.In.SortNone
import Derived.Shelf.Slices.Empties
import Derived.Ground.SlgnProg
import Derived.Shelf.SlicesE.Clone
import Derived.Ground.NamesProg
import Derived.Shelf.Unicode.ValidAny
import Derived.Shelf.SlIter.Sorted
import Derived.Ground.GgzProg
import Derived.Shelf.SlIter.Collect
import Derived.WalkKit
import Derived.OwnWalkIn
import Derived.TacticsInMore
import Derived.LoopNIn
import Derived.LoopIn
import Derived.RangeFuncLeaves
noncomputable section
set_option maxRecDepth 100000
open Go Go.RowKit Go.Fl Go.Fl.Lk Go.Fx
namespace Go.En
abbrev Wz:Type:=(List (Decl)->Prop)->Prop
def Jz:Wz:=fun K=>K [Decl.mk (ByteArray.mk (Array.mk [100,101,118,105,99,101])) (ByteArray.mk (Array.mk [99,111,114,101,115])) (2:Int),Decl.mk (ByteArray.mk (Array.mk [100,101,118,105,99,101])) (ByteArray.mk (Array.mk [111,115])) (3:Int),Decl.mk (ByteArray.mk (Array.mk [117,115,101,114])) (ByteArray.mk (Array.mk [97,103,101])) (2:Int),Decl.mk (ByteArray.mk (Array.mk [117,115,101,114])) (ByteArray.mk (Array.mk [97,112,112])) (4:Int),Decl.mk (ByteArray.mk (Array.mk [117,115,101,114])) (ByteArray.mk (Array.mk [98,101,116,97])) (1:Int),Decl.mk (ByteArray.mk (Array.mk [117,115,101,114])) (ByteArray.mk (Array.mk [99,111,117,110,116,114,121])) (3:Int),Decl.mk (ByteArray.mk (Array.mk [117,115,101,114])) (ByteArray.mk (Array.mk [112,108,97,110])) (3:Int),Decl.mk (ByteArray.mk (Array.mk [117,115,101,114])) (ByteArray.mk (Array.mk [116,97,103,115])) (5:Int)]
abbrev j5z:Type:=List (Int)->Int->(Bool->Int->Prop)->Prop
def j50:j5z:=fun list at_ K=>Fits list->K (decide (at_<(↑list.length:Int))) at_
abbrev Zh:Type:=List (Int)->Int->Int->(Int->Int->Prop)->Prop
def w3h (j6c:j5z):Zh:=fun list at_ n K=>j6c list at_ fun Qb Qz=>Cnd (Qb=true) (InI (Qz+1)/\InI (Qz+1 - (1:Int))/\((0:Int)<=Qz+1 - (1:Int)/\Qz+1 - (1:Int)<(↑list.length:Int))/\ ∀y1,list[(Qz+1 - (1:Int)).toNat]? =some y1->InI y1/\n≠(0:Int)/\K (y1.tmod n) (Qz+1)) (K (0:Int) Qz)
def Zd:Zh:=w3h j50
abbrev q1l:Type:=List (Int)->Int->(ByteArray->Int->Prop)->Prop
def w3i (Qc:Zh):q1l:=fun list at_ K=>Qc list at_ (11:Int) fun Qb Qz=>((0:Int)<=Qb/\Qb<(↑(11:Nat):Int))/\ ∀y1,z9r[Qb.toNat]? =some y1->K y1 Qz
def q1m:q1l:=w3i Zd
abbrev q51:Type:=List (Int)->Int->Int->(Int->Int->Prop)->Prop
def w3j (Qc:Zh):q51:=fun list at_ n K=>Qc list at_ (256:Int) fun Qb Qz=>InI ((256:Int)*Qb)/\Qc list Qz (256:Int) fun Qd Z2=>InI ((256:Int)*Qb+Qd)/\n≠(0:Int)/\K (((256:Int)*Qb+Qd).tmod n) Z2
def q52:q51:=w3j Zd
abbrev z5w:Type:=Int->List (ByteArray)->(List (ByteArray)->Prop)->Prop
def z5x:z5w:=fun n l K=>((0:Int)<=n/\n<=(↑l.length:Int))/\K (List.take n.toNat l)
abbrev z07:Type:=List (Int)->Int->(List (ByteArray)->Int->Prop)->Prop
def w3k (Qc:Zh):z07:=fun list at_ K=>Qc list at_ (10:Int) fun Qb Qz=>Lp3 (fun Qd Z2 j1c y4c=>Qc list j1c (4:Int) fun Qg Zo=>Cnd (Z2<Qg) (InI (Qb+Z2)/\(10:Int)≠(0:Int)/\InI ((48:Int)+(Qb+Z2).tmod (10:Int))/\(↑((ByteArray.mk (Array.mk [107])).size+(Go.Utf8.encode (Go.IntKind.i32.wrap ((48:Int)+(Qb+Z2).tmod (10:Int)))).size):Int)<=(9223372036854775807:Int)/\Sml (Qd++[ByteArray.mk (Array.mk [107])++Go.Utf8.encode (Go.IntKind.i32.wrap ((48:Int)+(Qb+Z2).tmod (10:Int)))]).length/\InI (Z2+1)/\y4c (Qd++[ByteArray.mk (Array.mk [107])++Go.Utf8.encode (Go.IntKind.i32.wrap ((48:Int)+(Qb+Z2).tmod (10:Int)))]) (Z2+1) Zo) (Lp2 (fun Qh Ue j5l=>Fits Ue->CAt Ue Qh (fun y5=>InI (Qh - 1)/\((0:Int)<=Qh - 1/\Qh - 1<(↑Ue.length:Int))/\ ∀y7,Ue[(Qh - 1).toNat]? =some y7->Cnd (Lk.blt y7 y5) (InI (Qh+1)/\j5l (Qh+1) Ue) (((0:Int)<=Qh/\Qh<=(↑Ue.length:Int))/\K (List.take Qh.toNat Ue) Zo)) (K Ue Zo)) (1:Int) Qd)) [] (0:Int) Qz
def z08:z07:=w3k Zd
abbrev z7q:Type:=List (Int)->Int->(ByteArray->Int->Prop)->Prop
def w9y (Qc:Zh):z7q:=fun list at_ K=>Qc list at_ (10:Int) fun Qb Qz=>InI ((48:Int)+Qb)/\(↑((ByteArray.mk (Array.mk [107])).size+(Go.Utf8.encode (Go.IntKind.i32.wrap ((48:Int)+Qb))).size):Int)<=(9223372036854775807:Int)/\K (ByteArray.mk (Array.mk [107])++Go.Utf8.encode (Go.IntKind.i32.wrap ((48:Int)+Qb))) Qz
def z7r:z7q:=w9y Zd
abbrev q1n:Type:=List (Int)->Int->Int->(Val->Int->Prop)->Prop
def z9t (Qc:Zh) (Wk:q1l):q1n:=fun list at_ kind K=>Cnd (kind=1) (Qc list at_ (2:Int) fun Qb Qz=>K (Val.mk kind Qb (ByteArray.mk (Array.mk [])) []) Qz) (Cnd (kind=2) ([(0:Int),(1:Int),(17:Int),(18:Int),(19:Int),(-5:Int),(64:Int),(1099511627776:Int),(-1099511627776:Int)].length<=(9223372036854775807:Nat)->Qc list at_ (↑[(0:Int),(1:Int),(17:Int),(18:Int),(19:Int),(-5:Int),(64:Int),(1099511627776:Int),(-1099511627776:Int)].length:Int) fun Qd Z2=>((0:Int)<=Qd/\Qd<(↑[(0:Int),(1:Int),(17:Int),(18:Int),(19:Int),(-5:Int),(64:Int),(1099511627776:Int),(-1099511627776:Int)].length:Int))/\ ∀y2,[(0:Int),(1:Int),(17:Int),(18:Int),(19:Int),(-5:Int),(64:Int),(1099511627776:Int),(-1099511627776:Int)][Qd.toNat]? =some y2->K (Val.mk kind y2 (ByteArray.mk (Array.mk [])) []) Z2) (Cnd (kind=3) (Wk list at_ fun Qb Qz=>K (Val.mk kind (0:Int) Qb []) Qz) (Cnd (kind=4) (Qc list at_ (6:Int) fun Qb Qz=>((0:Int)<=Qb/\Qb<(↑(6:Nat):Int))/\ ∀y1,z3f[Qb.toNat]? =some y1->K (Val.mk kind (0:Int) y1 []) Qz) (Qc list at_ (5:Int) fun Qb Qz=>((0:Int)<=Qb/\Qb<(↑(5:Nat):Int))/\ ∀y1,j7e[Qb.toNat]? =some y1->Sml ([]++y1).length/\K (Val.mk (5:Int) (0:Int) (ByteArray.mk (Array.mk [])) ([]++y1)) Qz))))
def Un:q1n:=z9t Zd q1m
abbrev z9u:Type:=List (Int)->Int->(Ex->Int->Prop)->Prop
def w3l (Q3:Wz) (Qc:Zh) (z2i:z7q) (Ji:q1n):z9u:=fun list at_ K=>Q3 fun Qb=>Fits Qb->InI ((↑Qb.length:Int)+1)/\Qc list at_ ((↑Qb.length:Int)+1) fun Qg Zo=>Fits Qb->Cnd (Qg=(↑Qb.length:Int)) (z2i list Zo fun Qf J1=>K (Ex.mk (7:Int) (ByteArray.mk (Array.mk [117,115,101,114])) (ByteArray.mk (Array.mk [107,101,121])) [Val.mk (3:Int) (0:Int) Qf []] []) J1) (At Qb Qg fun y4=>Jn1 (fun (Jb:Int×ByteArray×ByteArray×List Val×List Ex×Int×Int×ByteArray×ByteArray×List Val×List Ex×Unit)=>Ji list Jb.2.2.2.2.2.1 y4.3 fun W5 z6t=>K (Ex.mk (7:Int) Jb.2.1 Jb.2.2.1 [W5] Jb.2.2.2.2.1) z6t) fun (y5e:Int×ByteArray×ByteArray×List Val×List Ex×Int×Int×ByteArray×ByteArray×List Val×List Ex×Unit->Prop)=>Qc list Zo (5:Int) fun W5 z6t=>Jn1 (fun (Uf:Int×Int×ByteArray×ByteArray×List Val×List Ex×Int×ByteArray×ByteArray×List Val×List Ex×Unit)=>Cnd (y4.3=2) (Qc list Uf.1 (4:Int) fun Qr z89=>InI ((12:Int)+Qr)/\Ji list z89 y4.3 fun Hr q2z=>K (Ex.mk ((12:Int)+Qr) Uf.2.2.1 Uf.2.2.2.1 [Hr] Uf.2.2.2.2.2.1) q2z) (Cnd (y4.3=3) (Qc list Uf.1 (4:Int) fun Qr z89=>InI ((12:Int)+Qr)/\Ji list z89 y4.3 fun Hr q2z=>K (Ex.mk ((12:Int)+Qr) Uf.2.2.1 Uf.2.2.2.1 [Hr] Uf.2.2.2.2.2.1) q2z) (Cnd (y4.3=4) (Qc list Uf.1 (4:Int) fun Qr z89=>InI ((12:Int)+Qr)/\Ji list z89 y4.3 fun Hr q2z=>K (Ex.mk ((12:Int)+Qr) Uf.2.2.1 Uf.2.2.2.1 [Hr] Uf.2.2.2.2.2.1) q2z) (y5e (Uf.2.1,Uf.2.2.1,Uf.2.2.2.1,Uf.2.2.2.2.1,Uf.2.2.2.2.2.1,Uf.1,Uf.2.2.2.2.2.2.1,Uf.2.2.2.2.2.2.2.1,Uf.2.2.2.2.2.2.2.2.1,Uf.2.2.2.2.2.2.2.2.2.1,Uf.2.2.2.2.2.2.2.2.2.2.1,()))))) fun (y4d:Int×Int×ByteArray×ByteArray×List Val×List Ex×Int×ByteArray×ByteArray×List Val×List Ex×Unit->Prop)=>Cnd (W5=0) (K (Ex.mk (6:Int) y4.1 y4.2 [] []) z6t) (Cnd (W5=1) (Cnd (y4.3=5) (y5e ((0:Int),y4.1,y4.2,[],[],z6t,(0:Int),ByteArray.mk (Array.mk []),ByteArray.mk (Array.mk []),[],[],())) (Lp3 (fun Qr z89 u0w u1v=>Qc list u0w (3:Int) fun Hr q2z=>Cnd (Qr<=Hr) (Ji list q2z y4.3 fun J7 j9w=>Sml (z89++[J7]).length/\InI (Qr+1)/\u1v (Qr+1) (z89++[J7]) j9w) (K (Ex.mk (8:Int) y4.1 y4.2 z89 []) q2z)) (0:Int) [] z6t)) (Cnd (W5=2) (Cnd (y4.3=3) (Ji list z6t (3:Int) fun Qr z89=>K (Ex.mk (11:Int) y4.1 y4.2 [Qr] []) z89) (Cnd (y4.3=5) (Ji list z6t (3:Int) fun Qr z89=>K (Ex.mk (11:Int) y4.1 y4.2 [Qr] []) z89) (y5e ((0:Int),y4.1,y4.2,[],[],z6t,(0:Int),ByteArray.mk (Array.mk []),ByteArray.mk (Array.mk []),[],[],())))) (Cnd (W5=3) (Cnd (y4.3=3) (Qc list z6t (2:Int) fun Qr z89=>InI ((9:Int)+Qr)/\Ji list z89 (3:Int) fun Hr q2z=>K (Ex.mk ((9:Int)+Qr) y4.1 y4.2 [Hr] []) q2z) (y4d (z6t,(0:Int),y4.1,y4.2,[],[],(0:Int),ByteArray.mk (Array.mk []),ByteArray.mk (Array.mk []),[],[],()))) (Cnd (W5=4) (y4d (z6t,(0:Int),y4.1,y4.2,[],[],(0:Int),ByteArray.mk (Array.mk []),ByteArray.mk (Array.mk []),[],[],())) (y5e ((0:Int),y4.1,y4.2,[],[],z6t,(0:Int),ByteArray.mk (Array.mk []),ByteArray.mk (Array.mk []),[],[],())))))))
def z5y:z9u:=w3l Jz Zd z7r Un
abbrev q4a:Type:=List (Int)->Int->List (ByteArray)->Int->(Ex->Int->Prop)->Prop
def j51 (Qc:Zh) (j1d:z9u) (X:q4a):q4a:=fun list at_ segments levels K=>Qc list at_ (8:Int) fun Qb Qz=>Jn1 (fun Qd=>Cnd (Qd=0) (K (Ex.mk (1:Int) (ByteArray.mk (Array.mk [])) (ByteArray.mk (Array.mk [])) [] []) Qz) (Cnd (Qd=3) (Fits segments->Cnd ((0:Int)<(↑segments.length:Int)) (Fits segments->Qc list Qz (↑segments.length:Int) fun Qf J1=>At segments Qf fun y5=>K (Ex.mk (5:Int) (ByteArray.mk (Array.mk [])) y5 [] []) J1) (j1d list Qz fun Qh Ue=>K (Ex.mk Qh.1 Qh.2 Qh.3 Qh.4 Qh.5) Ue)) (Cnd (Qd=4) (InI (levels - 1)/\X list Qz segments (levels - 1) fun Qg Zo=>K (Ex.mk (4:Int) (ByteArray.mk (Array.mk [])) (ByteArray.mk (Array.mk [])) [] [Ex.mk Qg.1 Qg.2 Qg.3 Qg.4 Qg.5]) Zo) (Jn1 (fun Qg=>Cnd (Qg=true) (Qc list Qz (2:Int) fun Qh Ue=>InI ((2:Int)+Qh)/\Qc list Ue (2:Int) fun Qf J1=>InI ((2:Int)+Qf)/\LpH (fun (Qn:Int×Int×Int×ByteArray×ByteArray×List Val×List Ex×Unit) (j6d:Int×Int×Int×ByteArray×ByteArray×List Val×List Ex×Unit->Prop)=>Cnd (Qn.1<2+Qf) (InI (levels - 1)/\X list Qn.2.1 segments (levels - 1) fun Jb z9a=>Jn1 (fun (W5:Int×ByteArray×ByteArray×List Val×List Ex×Unit)=>Sml (Qn.2.2.2.2.2.2.1++[Ex.mk W5.1 W5.2.1 W5.2.2.1 W5.2.2.2.1 W5.2.2.2.2.1]).length/\InI (Qn.1+1)/\j6d (Qn.1+1,z9a,Qn.2.2.1,Qn.2.2.2.1,Qn.2.2.2.2.1,Qn.2.2.2.2.2.1,Qn.2.2.2.2.2.2.1++[Ex.mk W5.1 W5.2.1 W5.2.2.1 W5.2.2.2.1 W5.2.2.2.2.1],())) fun (y8n:Int×ByteArray×ByteArray×List Val×List Ex×Unit->Prop)=>Cnd (Jb.1=2+Qh) (y8n ((4:Int),ByteArray.mk (Array.mk []),ByteArray.mk (Array.mk []),[],[Ex.mk Jb.1 Jb.2 Jb.3 Jb.4 Jb.5],())) (y8n (Jb.1,Jb.2,Jb.3,Jb.4,Jb.5,()))) (K (Ex.mk Qn.2.2.1 Qn.2.2.2.1 Qn.2.2.2.2.1 Qn.2.2.2.2.2.1 Qn.2.2.2.2.2.2.1) Qn.2.1)) ((0:Int),J1,(2:Int)+Qh,ByteArray.mk (Array.mk []),ByteArray.mk (Array.mk []),[],[],())) (j1d list Qz fun Qh Ue=>K (Ex.mk Qh.1 Qh.2 Qh.3 Qh.4 Qh.5) Ue)) fun w8j=>Cnd (Qd=5) (w8j (decide (Qd=5))) (w8j (decide (Qd=6))))))) fun w2f=>Cnd (levels<=1) (Cnd ((4:Int)<=Qb) (InI (Qb - 4)/\w2f (Qb - 4)) (w2f Qb)) (w2f Qb)
def z09:q4a:=fun list at_ segments levels K=> ∀X:q4a,(∀list at_ segments levels K,j51 Zd z5y X list at_ segments levels K->X list at_ segments levels K)->X list at_ segments levels K
abbrev q4v:Type:=List (Int)->Int->ByteArray->ByteArray->Int->List (Decl)->List (Seg)->List (Flg)->List (Lay_)->List (Exper)->(Int->ByteArray->ByteArray->Int->List (Decl)->List (Seg)->List (Flg)->List (Lay_)->List (Exper)->Prop)->Prop
def z3g (Qc:Zh) (q20:z5w) (q4j:z07) (q4k:q4a):q4v:=fun list at_ salt hkind hold attrs segs flags layers expers K=>Qc list at_ (4:Int) fun Qb Qz=>q20 Qb [ByteArray.mk (Array.mk [97,108,112,104,97]),ByteArray.mk (Array.mk [98,101,116,97]),ByteArray.mk (Array.mk [103,97,109,109,97])] fun Qd=>Lp3 (fun Qg Zo w5l u0b=>Fits Qd->CAt Qd Qg (fun y4=>q4j list Zo fun Jb z9a=>q4j list z9a fun W5 z6t=>Jn2 (fun Uf y5f=>Jn1 (fun (Qr:Int×ByteArray×ByteArray×List Val×List Ex×Int×Unit)=>Sml (w5l++[Seg.mk y4 Uf Jb W5 (Ex.mk Qr.1 Qr.2.1 Qr.2.2.1 Qr.2.2.2.1 Qr.2.2.2.2.1)]).length/\InI (Qg+1)/\u0b (Qg+1) Qr.2.2.2.2.2.1 (w5l++[Seg.mk y4 Uf Jb W5 (Ex.mk Qr.1 Qr.2.1 Qr.2.2.1 Qr.2.2.2.1 Qr.2.2.2.2.1)])) fun (u0c:Int×ByteArray×ByteArray×List Val×List Ex×Int×Unit->Prop)=>Qc list y5f (3:Int) fun Hr q2z=>Cnd ((0:Int)<Hr) (((0:Int)<=(0:Int)/\(0:Int)<=Qg/\Qg<=(↑Qd.length:Int))/\q4k list q2z (List.drop (Int.toNat (0:Int)) (List.take Qg.toNat Qd)) (3:Int) fun J7 j9w=>u0c (J7.1,J7.2,J7.3,J7.4,J7.5,j9w,())) (u0c ((0:Int),ByteArray.mk (Array.mk []),ByteArray.mk (Array.mk []),[],[],q2z,()))) fun y4d=>Qc list z6t (4:Int) fun Qr z89=>Cnd (Qr=1) (y4d (ByteArray.mk (Array.mk [100,101,118,105,99,101])) z89) (y4d (ByteArray.mk (Array.mk [117,115,101,114])) z89)) (K Zo salt hkind hold attrs w5l flags layers expers)) (0:Int) Qz segs
def q4w:q4v:=z3g Zd z5x z08 z09
abbrev q1o:Type:=Envt->(List (ByteArray)->Prop)->Prop
def Hu:q1o:=fun v K=>Lp2 (fun Qb Qz q3e=>Fits v.3->CAt v.3 Qz (fun y2=>Sml (Qb++[y2.1]).length/\InI (Qz+1)/\q3e (Qb++[y2.1]) (Qz+1)) (K Qb)) [] (0:Int)
abbrev q65:Type:=List (Int)->Int->Int->(List (Rng)->Int->Prop)->Prop
def j7h (Qc:Zh) (Wu:q51):q65:=fun list at_ n K=>Jn4 (fun Qb Qz j1e q5x=>Qc list q5x n fun Qd Z2=>InI ((1:Int)+Qd)/\Jn1 (fun Qg=>Sml (Qb++[Rng.mk Qz (10000:Int) Qg]).length/\K (Qb++[Rng.mk Qz (10000:Int) Qg]) Z2) fun w8j=>Cnd ((1:Int)+Qd=j1e) (n≠(0:Int)/\InI ((1:Int)+((1:Int)+Qd).tmod n)/\w8j ((1:Int)+((1:Int)+Qd).tmod n)) (w8j ((1:Int)+Qd))) fun z0y=>Lp5 (fun Qd Z2 j1c j33 y8o u0d=>Qc list y8o (4:Int) fun Qg Zo=>Cnd (j33<Qg) (Cnd ((1:Int)<n) (InI (Z2+1)/\Wu list Zo (5000:Int) fun Qh Ue=>InI (Z2+1+Qh)/\Qc list Ue n fun Qf J1=>InI ((1:Int)+Qf)/\Jn1 (fun Qn=>Cnd ((10000:Int)<=Z2+1+Qh) (z0y Qd Z2 j1c J1) (Sml (Qd++[Rng.mk Z2 (Z2+1+Qh) Qn]).length/\InI (j33+1)/\u0d (Qd++[Rng.mk Z2 (Z2+1+Qh) Qn]) (Z2+1+Qh) Qn (j33+1) J1)) fun u2k=>Cnd ((1:Int)+Qf=j1c) (n≠(0:Int)/\InI ((1:Int)+((1:Int)+Qf).tmod n)/\u2k ((1:Int)+((1:Int)+Qf).tmod n)) (u2k ((1:Int)+Qf))) (z0y Qd Z2 j1c Zo)) (z0y Qd Z2 j1c Zo)) [] (0:Int) (0:Int) (0:Int) at_
def q66:q65:=j7h Zd q52
abbrev z3h:Type:=List (Int)->Int->Int->(Srv->Int->Prop)->Prop
def j7i (Qc:Zh) (Wk:q1l) (q21:q65) (Q3:Wz):z3h:=fun list at_ n K=>Qc list at_ (2:Int) fun Qb Qz=>Cnd (Qb=0) (Qc list Qz n fun Qd Z2=>InI ((1:Int)+Qd)/\K (Srv.mk ((1:Int)+Qd) (ByteArray.mk (Array.mk [])) (ByteArray.mk (Array.mk [])) (ByteArray.mk (Array.mk [])) []) Z2) (Wk list Qz fun Qd Z2=>q21 list Z2 n fun Qg Zo=>Q3 fun Qh=>Qc list Zo (12:Int) fun Qf J1=>Fits Qh->CAt Qh Qf (fun y6=>Cnd (y6.3=5) (K (Srv.mk (0:Int) (ByteArray.mk (Array.mk [117,115,101,114])) (ByteArray.mk (Array.mk [107,101,121])) Qd Qg) J1) (At Qh Qf fun y8=>At Qh Qf fun y10=>K (Srv.mk (0:Int) y8.1 y10.2 Qd Qg) J1)) (K (Srv.mk (0:Int) (ByteArray.mk (Array.mk [117,115,101,114])) (ByteArray.mk (Array.mk [107,101,121])) Qd Qg) J1))
def z3i:z3h:=j7i Zd q1m q66 Jz
abbrev z9v:Type:=(List (Nd)->(Nd->Option (Int))->Bool->Prop)->Prop
def j7j:z9v:=fun K=>K [] (fun _=>none) false
abbrev Vb:Type:=Int->(Bool->Prop)->Prop
def Jm:Vb:=fun op K=>Cnd ((6:Int)<=op) (K (decide (op<=15))) (K false)
abbrev z9w:Type:=List (ByteArray)->List (ByteArray)->(Bool->Prop)->Prop
def z3j:z9w:=fun a b K=>Fits a->Fits b->Cnd ((↑a.length:Int)=(↑b.length:Int)) (Lp1 (fun Qg j1f=>Fits a->CAt a Qg (fun y4=>At b Qg fun y6=>Cnd (y4=y6) (InI (Qg+1)/\j1f (Qg+1)) (K false)) (K true)) (0:Int)) (K false)
abbrev q6r:Type:=Val->Val->(Bool->Prop)->Prop
def j2e (j1g:z9w):q6r:=fun a b K=>Cnd (a.1=b.1) (Cnd (a.2=b.2) (Cnd (a.3=b.3) (j1g a.4 b.4 fun Qb=>K Qb) (K false)) (K false)) (K false)
def q3f:q6r:=j2e z3j
abbrev Hw:Type:=List (Val)->List (Val)->(Bool->Prop)->Prop
def q67 (q1c:q6r):Hw:=fun a b K=>Fits a->Fits b->Cnd ((↑a.length:Int)=(↑b.length:Int)) (Lp1 (fun Qg j1f=>Fits a->CAt a Qg (fun y4=>At b Qg fun y6=>q1c y4 y6 fun Uf=>Cnd (Uf=true) (InI (Qg+1)/\j1f (Qg+1)) (K false)) (K true)) (0:Int)) (K false)
def Uo:Hw:=q67 q3f
abbrev Vr:Type:=Ex->Ex->(Bool->Prop)->Prop
def z1a (q22:Hw) (X:Vr):Vr:=fun a b K=>Cnd (a.1=b.1) (Cnd (a.2=b.2) (Cnd (a.3=b.3) (q22 a.4 b.4 fun Qb=>Cnd (Qb=true) (Fits a.5->Fits b.5->Cnd ((↑a.5.length:Int)=(↑b.5.length:Int)) (Lp1 (fun Qh z9b=>Fits a.5->CAt a.5 Qh (fun y5=>At b.5 Qh fun y7=>X (Ex.mk y5.1 y5.2 y5.3 y5.4 y5.5) (Ex.mk y7.1 y7.2 y7.3 y7.4 y7.5) fun Qr=>Cnd (Qr=true) (InI (Qh+1)/\z9b (Qh+1)) (K false)) (K true)) (0:Int)) (K false)) (K false)) (K false)) (K false)) (K false)
def Rz:Vr:=fun a b K=> ∀X:Vr,(∀a b K,z1a Uo X a b K->X a b K)->X a b K
abbrev q0j:Type:=List (Ex)->Ex->(Int->Prop)->Prop
def z7s (q6f:Vr):q0j:=fun l e K=>Lp1 (fun Qb q1e=>Fits l->CAt l Qb (fun y2=>q6f (Ex.mk y2.1 y2.2 y2.3 y2.4 y2.5) (Ex.mk e.1 e.2 e.3 e.4 e.5) fun Qf=>Cnd (Qf=true) (K Qb) (InI (Qb+1)/\q1e (Qb+1))) (K (-1:Int))) (0:Int)
def Uc:q0j:=z7s Rz
abbrev W0:Type:=List (Ex)->Ex->(List (Ex)->Prop)->Prop
def q9h (Ug:q0j) (Q2:Vb) (X:W0):W0:=fun l e K=>Jn1 (fun Qb=>Lp2 (fun Qd Z2 z5i=>Fits e.5->CAt e.5 Z2 (fun y3=>X Qd (Ex.mk y3.1 y3.2 y3.3 y3.4 y3.5) fun Qn=>InI (Z2+1)/\z5i Qn (Z2+1)) (K Qd)) Qb (0:Int)) fun z0y=>Cnd (e.1=5) (Ug l (Ex.mk e.1 e.2 e.3 e.4 e.5) fun Qd=>Cnd (Qd<0) ((Sml ([]++l).length/\Sml ([]++l++[Ex.mk e.1 e.2 e.3 e.4 e.5]).length/\z0y ([]++l++[Ex.mk e.1 e.2 e.3 e.4 e.5]))/\Sml ([]++l).length/\Sml ([]++l++[Ex.mk e.1 e.2 e.3 e.4 e.5]).length/\z0y ([]++l++[Ex.mk e.1 e.2 e.3 e.4 e.5])) (z0y l)) (Q2 e.1 fun Qd=>Cnd (Qd=true) (Ug l (Ex.mk e.1 e.2 e.3 e.4 e.5) fun Qg=>Cnd (Qg<0) ((Sml ([]++l).length/\Sml ([]++l++[Ex.mk e.1 e.2 e.3 e.4 e.5]).length/\z0y ([]++l++[Ex.mk e.1 e.2 e.3 e.4 e.5]))/\Sml ([]++l).length/\Sml ([]++l++[Ex.mk e.1 e.2 e.3 e.4 e.5]).length/\z0y ([]++l++[Ex.mk e.1 e.2 e.3 e.4 e.5])) (z0y l)) (z0y l))
def Bv:W0:=fun l e K=> ∀X:W0,(∀l e K,q9h Uc Jm X l e K->X l e K)->X l e K
abbrev Hx:Type:=List (Rul)->(List (Ex)->Prop)->Prop
def q68 (q4l:W0):Hx:=fun l K=>Lp2 (fun Qb Qz q3e=>Fits l->CAt l Qz (fun y2=>q4l Qb (Ex.mk y2.2.1 y2.2.2 y2.2.3 y2.2.4 y2.2.5) fun Qf=>InI (Qz+1)/\q3e Qf (Qz+1)) (K Qb)) [] (0:Int)
def Hy:Hx:=q68 Bv
abbrev J9:Type:=List (Nd)->(Nd->Option (Int))->Bool->Int->(Bool->List (Nd)->(Nd->Option (Int))->Bool->Prop)->Prop
def Js:J9:=fun ns ids full id K=>Cnd ((-1002:Int)<id) (Fits ns->K (decide (id<(↑ns.length:Int))) ns ids full) (K false ns ids full)
abbrev B9:Type:=List (Nd)->(Nd->Option (Int))->Bool->Int->((Int->Option (Bool))->List (Nd)->(Nd->Option (Int))->Bool->Prop)->Prop
def Gx:B9:=fun ns ids full id K=>Lp2 (fun Qb q1e q3e=>Fits Qb->Cnd ((0:Int)<(↑Qb.length:Int)) (Fits Qb->InI ((↑Qb.length:Int) - 1)/\((0:Int)<=(↑Qb.length:Int) - 1/\(↑Qb.length:Int) - 1<(↑Qb.length:Int))/\ ∀y3,Qb[((↑Qb.length:Int) - 1).toNat]? =some y3->Fits Qb->InI ((↑Qb.length:Int) - 1)/\((0:Int)<=(↑Qb.length:Int) - 1/\(↑Qb.length:Int) - 1<=(↑Qb.length:Int))/\Cnd ((q1e y3).getD false=true) (q3e (List.take ((↑Qb.length:Int) - 1).toNat Qb) q1e) (Cnd ((0:Int)<=y3) (At ns y3 fun y6=>At ns y3 fun y8=>Sml (List.take ((↑Qb.length:Int) - 1).toNat Qb++[y6.2.1,y8.2.2]).length/\q3e (List.take ((↑Qb.length:Int) - 1).toNat Qb++[y6.2.1,y8.2.2]) (put q1e y3 true)) (q3e (List.take ((↑Qb.length:Int) - 1).toNat Qb) (put q1e y3 true)))) (K q1e ns ids full)) [id] fun _=>none
abbrev Up:Type:=List (Nd)->(Nd->Option (Int))->Bool->Int->(List (Int)->List (Nd)->(Nd->Option (Int))->Bool->Prop)->Prop
def q98 (Qw:J9) (q0d:B9):Up:=fun ns ids full id K=>Qw ns ids full id fun Qb (Qz:List (Int×Int×Int)) q3e q5x=>Cnd (Qb=true) (q0d Qz q3e q5x id fun w2f (Z2:List (Int×Int×Int)) z5i j33=>Lp2 (fun Qg Zo q6w=>Cnd (Zo<=1000) (InI ((-1:Int) - Zo)/\Cnd ((w2f ((-1:Int) - Zo)).getD false=true) (Sml (Qg++[Zo]).length/\InI (Zo+1)/\q6w (Qg++[Zo]) (Zo+1)) (InI (Zo+1)/\q6w Qg (Zo+1))) (K Qg Z2 z5i j33)) [] (0:Int)) (K [] Qz q3e q5x)
def Uq:Up:=q98 Js Gx
abbrev Zi:Type:=List (Nd)->(Nd->Option (Int))->Bool->Int->(Bool->List (Nd)->(Nd->Option (Int))->Bool->Prop)->Prop
def q5v (Qw:J9) (Be:Up):Zi:=fun ns ids full id K=>Qw ns ids full id fun Qb (Qz:List (Int×Int×Int)) q3e q5x=>Cnd (Qb=true) (Be Qz q3e q5x id fun Qd (Z2:List (Int×Int×Int)) z5i j33=>Lp1 (fun Qg j1f=>Fits Qd->CAt Qd Qg (fun y4=>Cnd ((1:Int)<y4) (K false Z2 z5i j33) (InI (Qg+1)/\j1f (Qg+1))) (K true Z2 z5i j33)) (0:Int)) (K false Qz q3e q5x)
def Zj:Zi:=q5v Js Uq
abbrev W2:Type:=List (Nd)->(Nd->Option (Int))->Bool->Int->(Int->List (Nd)->(Nd->Option (Int))->Bool->Prop)->Prop
def Jg:W2:=fun ns ids full id K=>Cnd (id<0) (K (1001:Int) ns ids full) (At ns id fun y0=>K y0.1 ns ids full)
abbrev Gy:Type:=List (Nd)->(Nd->Option (Int))->Bool->Int->Int->(Int->Int->List (Nd)->(Nd->Option (Int))->Bool->Prop)->Prop
def z2s (Q7:W2):Gy:=fun ns ids full id test K=>Q7 ns ids full id fun Qb (Qz:List (Int×Int×Int)) q3e q5x=>Cnd (Qb=test) (At Qz id fun y1=>At Qz id fun y3=>K y1.2.1 y3.2.2 Qz q3e q5x) (K id id Qz q3e q5x)
def Wl:Gy:=z2s Jg
abbrev Vc:Type:=List (Nd)->(Nd->Option (Int))->Bool->Int->Int->Int->(Int->List (Nd)->(Nd->Option (Int))->Bool->Prop)->Prop
def z3k (Qw:J9) (Q7:W2):Vc:=fun ns ids full test yes no K=>Cnd (test<0) (K (-1002:Int) ns ids full) (Cnd ((1000:Int)<test) (K (-1002:Int) ns ids full) (Qw ns ids full yes fun Qb (Qz:List (Int×Int×Int)) q3e q5x=>Cnd (Qb=true) (Qw Qz q3e q5x no fun Qd (Z2:List (Int×Int×Int)) z5i j33=>Cnd (Qd=true) (Q7 Z2 z5i j33 yes fun Qg (Zo:List (Int×Int×Int)) q6w j9z=>Cnd (Qg<=test) (K (-1002:Int) Zo q6w j9z) (Q7 Zo q6w j9z no fun Qh (Ue:List (Int×Int×Int)) j5l y1e=>Cnd (Qh<=test) (K (-1002:Int) Ue j5l y1e) (Cnd (yes=no) (K yes Ue j5l y1e) (Cnd ((j5l (test,yes,no)).isSome=true) (K ((j5l (test,yes,no)).getD (0:Int)) Ue j5l y1e) (Fits Ue->Cnd ((4000:Int)<=(↑Ue.length:Int)) (K (-1002:Int) Ue j5l true) (Fits Ue->Sml (Ue++[(test,yes,no)]).length/\((Ue++[(test,yes,no)]).length<=(9223372036854775807:Nat)->InI ((↑(Ue++[(test,yes,no)]).length:Int) - 1)/\K ((↑(Ue++[(test,yes,no)]).length:Int) - 1) (Ue++[(test,yes,no)]) (put j5l (test,yes,no) (↑Ue.length:Int)) y1e))))))) (K (-1002:Int) Z2 z5i j33)) (K (-1002:Int) Qz q3e q5x)))
def Jh:Vc:=z3k Js Jg
abbrev Jp:Type:=List (Nd)->(Nd->Option (Int))->Bool->Int->Int->Int->(A3->Option (Int))->(Int->List (Nd)->(Nd->Option (Int))->Bool->(A3->Option (Int))->Prop)->Prop
def Ur (Q7:W2) (Vn:Gy) (Jv:Vc) (X:Jp):Jp:=fun ns ids full f g h known K=>Cnd (f=(-2:Int)) (K g ns ids full known) (Cnd (g=h) (K g ns ids full known) (Cnd (f=(-1:Int)) (K h ns ids full known) (Cnd ((known (f,g,h)).isSome=true) (K ((known (f,g,h)).getD (0:Int)) ns ids full known) (Q7 ns ids full f fun Qb (Qz:List (Int×Int×Int)) q3e q5x=>Q7 Qz q3e q5x g fun Qd (Z2:List (Int×Int×Int)) z5i j33=>Q7 Z2 z5i j33 h fun Qg (Zo:List (Int×Int×Int)) q6w j9z=>Vn Zo q6w j9z f (Min.min (Min.min Qb Qd) Qg) fun Qh Ue (y8p:List (Int×Int×Int)) u2n u2o=>Vn y8p u2n u2o g (Min.min (Min.min Qb Qd) Qg) fun Qf J1 (j1h:List (Int×Int×Int)) y8q u1w=>Vn j1h y8q u1w h (Min.min (Min.min Qb Qd) Qg) fun Qn q8k (u1x:List (Int×Int×Int)) u2p u2q=>X u1x u2p u2q Qh Qf Qn known fun Jb (z9a:List (Int×Int×Int)) y75 y76 u2r=>X z9a y75 y76 Ue J1 q8k u2r fun W5 (z6t:List (Int×Int×Int)) y8r v1o y8s=>Jn4 (fun Uf (y5f:List (Int×Int×Int)) u2s u2t=>K Uf y5f u2t u2s (put y8s (f,g,h) Uf)) fun y4d=>Cnd (Jb=(-1002:Int)) (y4d (-1002:Int) z6t v1o y8r) (Cnd (W5=(-1002:Int)) (y4d (-1002:Int) z6t v1o y8r) (Jv z6t y8r v1o (Min.min (Min.min Qb Qd) Qg) Jb W5 fun Qr (z89:List (Int×Int×Int)) u0e u0f=>y4d Qr z89 u0f u0e))))))
def Us:Jp:=fun ns ids full f g h known K=> ∀X:Jp,(∀ns ids full f g h known K,Ur Jg Wl Jh X ns ids full f g h known K->X ns ids full f g h known K)->X ns ids full f g h known K
abbrev Z4:Type:=List (Nd)->(Nd->Option (Int))->Bool->Int->Int->Int->(Int->List (Nd)->(Nd->Option (Int))->Bool->Prop)->Prop
def q99 (Qq:Zi) (Qw:J9) (Bf:Jp):Z4:=fun ns ids full f g h K=>Qq ns ids full f fun Qb (Qz:List (Int×Int×Int)) q3e q5x=>Cnd (Qb=true) (Qw Qz q3e q5x g fun Qd (Z2:List (Int×Int×Int)) z5i j33=>Cnd (Qd=true) (Qw Z2 z5i j33 h fun Qg (Zo:List (Int×Int×Int)) q6w j9z=>Cnd (Qg=true) (Bf Zo q6w j9z f g h (fun _=>none) fun Qh (Ue:List (Int×Int×Int)) j5l y1e _=>K Qh Ue j5l y1e) (K (-1002:Int) Zo q6w j9z)) (K (-1002:Int) Z2 z5i j33)) (K (-1002:Int) Qz q3e q5x)
def Z5:Z4:=q99 Zj Js Us
abbrev Bw:Type:=List (Nd)->(Nd->Option (Int))->Bool->Int->(Int->List (Nd)->(Nd->Option (Int))->Bool->Prop)->Prop
def z60 (Q0:Z4):Bw:=fun ns ids full f K=>Q0 ns ids full f (-1:Int) (-2:Int) fun Qb (Qz:List (Int×Int×Int)) q3e q5x=>K Qb Qz q3e q5x
def Hf:Bw:=z60 Z5
abbrev Bx:Type:=List (Nd)->(Nd->Option (Int))->Bool->Int->Int->(Int->List (Nd)->(Nd->Option (Int))->Bool->Prop)->Prop
def z61 (Qq:Zi) (Q0:Z4):Bx:=fun ns ids full f g K=>Qq ns ids full g fun Qb (Qz:List (Int×Int×Int)) q3e q5x=>Cnd (Qb=true) (Q0 Qz q3e q5x f g (-1:Int) fun Qd (Z2:List (Int×Int×Int)) z5i j33=>K Qd Z2 z5i j33) (K (-1002:Int) Qz q3e q5x)
def Hg:Bx:=z61 Zj Z5
abbrev Ga:Type:=List (Nd)->(Nd->Option (Int))->Bool->Int->Int->(Int->List (Nd)->(Nd->Option (Int))->Bool->Prop)->Prop
def z9x (Qq:Zi) (Q0:Z4):Ga:=fun ns ids full f g K=>Qq ns ids full g fun Qb (Qz:List (Int×Int×Int)) q3e q5x=>Cnd (Qb=true) (Q0 Qz q3e q5x f (-2:Int) g fun Qd (Z2:List (Int×Int×Int)) z5i j33=>K Qd Z2 z5i j33) (K (-1002:Int) Qz q3e q5x)
def Vs:Ga:=z9x Zj Z5
abbrev Wh:Type:=List (Nd)->(Nd->Option (Int))->Bool->List (Ex)->Ex->(Int->List (Nd)->(Nd->Option (Int))->Bool->Prop)->Prop
def q69 (q4m:Bw) (q4n:Bx) (Wv:Ga) (Ug:q0j) (Jv:Vc) (X:Wh):Wh:=fun ns ids full atoms e K=>Cnd (e.1=1) (K (-2:Int) ns ids full) (Cnd (e.1=4) (((0:Int)<=(0:Int)/\(0:Int)<(↑e.5.length:Int))/\ ∀y0,e.5[Int.toNat (0:Int)]? =some y0->X ns ids full atoms (Ex.mk y0.1 y0.2 y0.3 y0.4 y0.5) fun Qg (Zo:List (Int×Int×Int)) q6w j9z=>q4m Zo q6w j9z Qg fun Qh (Ue:List (Int×Int×Int)) j5l y1e=>K Qh Ue j5l y1e) (Jn1 (fun Qb=>Cnd (Qb=true) (((0:Int)<=(0:Int)/\(0:Int)<(↑e.5.length:Int))/\ ∀y1,e.5[Int.toNat (0:Int)]? =some y1->X ns ids full atoms (Ex.mk y1.1 y1.2 y1.3 y1.4 y1.5) fun Qh (Ue:List (Int×Int×Int)) j5l y1e=>Lp5 (fun Qf J1 (j1h:List (Int×Int×Int)) y1f u0x u0y=>Fits e.5->CAt e.5 J1 (fun y6=>X j1h u0x y1f atoms (Ex.mk y6.1 y6.2 y6.3 y6.4 y6.5) fun Uf (y5f:List (Int×Int×Int)) u2l u2m=>Cnd (e.1=2) (q4n y5f u2l u2m Qf Uf fun Qr (z89:List (Int×Int×Int)) u0e u0f=>InI (J1+1)/\u0y Qr (J1+1) z89 u0f u0e) (Wv y5f u2l u2m Qf Uf fun Qr (z89:List (Int×Int×Int)) u0e u0f=>InI (J1+1)/\u0y Qr (J1+1) z89 u0f u0e)) (K Qf j1h u0x y1f)) Qh (1:Int) Ue y1e j5l) (Ug atoms (Ex.mk e.1 e.2 e.3 e.4 e.5) fun Qd=>Cnd (Qd<0) (K (-1002:Int) ns ids full) (Jv ns ids full Qd (-2:Int) (-1:Int) fun Qg (Zo:List (Int×Int×Int)) q6w j9z=>K Qg Zo q6w j9z))) fun z0y=>Cnd (e.1=2) (z0y (decide (e.1=2))) (z0y (decide (e.1=3)))))
def Hz:Wh:=fun ns ids full atoms e K=> ∀X:Wh,(∀ns ids full atoms e K,q69 Hf Hg Vs Uc Jh X ns ids full atoms e K->X ns ids full atoms e K)->X ns ids full atoms e K
abbrev J3:Type:=List (Rul)->(List (Int)->Int->Bool->Prop)->Prop
def q3g (j1i:z9v) (q23:Hx) (q24:Wh) (Wv:Ga):J3:=fun l K=>j1i fun (Qb:List (Int×Int×Int)) q1e j1e=>q23 l fun Qd=>LpH (fun Qg j1f=>Fits l->CAt l Qg.2.2.1 (fun y4=>q24 Qg.2.2.2.1 Qg.2.2.2.2.2.1 Qg.2.2.2.2.1 Qd (Ex.mk y4.2.1 y4.2.2 y4.2.3 y4.2.4 y4.2.5) fun Jb (z9a:List (Int×Int×Int)) y75 y76=>Wv z9a y75 y76 Qg.1 Jb fun W5 (z6t:List (Int×Int×Int)) y8r v1o=>Cnd (W5=(-1002:Int)) (Fits z6t->K [] (↑z6t.length:Int) false) (Cnd (W5=Qg.1) (InI (Qg.2.2.1+1)/\Sml (Qg.2.1++[Qg.2.2.1+1]).length/\InI (Qg.2.2.1+1)/\j1f (W5,Qg.2.1++[Qg.2.2.1+1],Qg.2.2.1+1,z6t,v1o,y8r,())) (InI (Qg.2.2.1+1)/\j1f (W5,Qg.2.1,Qg.2.2.1+1,z6t,v1o,y8r,())))) (Fits Qg.2.2.2.1->K Qg.2.1 (↑Qg.2.2.2.1.length:Int) true)) ((-1:Int),[],(0:Int),Qb,j1e,q1e,())
def J4:J3:=q3g j7j Hy Hz Vs
abbrev z3l:Type:=List (Int)->Int->ByteArray->(Lay_->Int->Prop)->Prop
def j7k (Wk:q1l) (Qc:Zh) (Wu:q51):z3l:=fun list at_ key K=>Wk list at_ fun Qb Qz=>Qc list Qz (3:Int) fun Qd Z2=>InI (Qd*50)/\Jn2 (fun Qg Zo=>Jn2 (fun Qh Ue=>Lp4 (fun Qf J1 j1h y1f u0x=>Qc list y1f (3:Int) fun Qn q8k=>Cnd (J1<Qn) (Wu list q8k (3000:Int) fun Jb z9a=>InI (Qf+Jb)/\InI (Qf+Jb+1)/\Wu list z9a (2000:Int) fun W5 z6t=>InI (Qf+Jb+1+W5)/\Cnd ((10000:Int)<Qf+Jb+1+W5) (K (Lay_.mk key Qg Qb Qh (Qd*50) j1h) z6t) (Qc list z6t (200:Int) fun Uf y5f=>Sml (j1h++[Col.mk (Qf+Jb) (Qf+Jb+1+W5) Uf]).length/\InI (J1+1)/\u0x (Qf+Jb+1+W5) (J1+1) (j1h++[Col.mk (Qf+Jb) (Qf+Jb+1+W5) Uf]) y5f)) (K (Lay_.mk key Qg Qb Qh (Qd*50) j1h) q8k)) (0:Int) (0:Int) [] Ue) fun y08=>Qc list Zo (2:Int) fun Qf J1=>Cnd (Qf=1) (Wu list J1 (3000:Int) fun Qn q8k=>y08 Qn q8k) (y08 (0:Int) J1)) fun w8j=>Qc list Z2 (4:Int) fun Qh Ue=>Cnd (Qh=1) (w8j (ByteArray.mk (Array.mk [100,101,118,105,99,101])) Ue) (w8j (ByteArray.mk (Array.mk [117,115,101,114])) Ue)
def z3m:z3l:=j7k q1m Zd q52
abbrev z5z:Type:=Int->(Bool->Prop)->Prop
def z0a:z5z:=fun now K=>Cnd ((0:Int)<=now) (K (decide (now<=1099511627776))) (K false)
abbrev Vt:Type:=Envt->ByteArray->(Int->Prop)->Prop
def Vu:Vt:=fun v key K=>Lp1 (fun Qb q1e=>Fits v.5->CAt v.5 Qb (fun y2=>Cnd (y2.1=key) (K Qb) (InI (Qb+1)/\q1e (Qb+1))) (K (-1:Int))) (0:Int)
abbrev q1p:Type:=List (Col)->Int->(List (Int)->Prop)->Prop
def H0:q1p:=fun l now K=>((0:Int)<=(10000:Int)/\(10000:Int)<=(10000:Int)/\Sml (Int.toNat (10000:Int)))/\Lp2 (fun Qb Qz q3e=>Fits Qz->CAt Qz Qb (fun _=>InI (Qb+1)/\q3e (Qb+1) (Qz.set Qb.toNat now)) (Lp2 (fun Qg Zo q6w=>Fits l->CAt l Qg (fun y4=>Lp2 (fun Jb z9a y75=>At l Qg fun y7=>Cnd (Jb<Min.min y7.2 (10000:Int)) (At z9a Jb fun y9=>At l Qg fun y11=>At z9a Jb fun _=>InI (Jb+1)/\y75 (Jb+1) (z9a.set Jb.toNat (Max.max y9 y11.3))) (InI (Qg+1)/\q6w (Qg+1) z9a)) (Max.max y4.1 (0:Int)) Zo) (K Zo)) (0:Int) Qz)) (0:Int) (List.replicate (Int.toNat (10000:Int)) (0:Int))
abbrev Wm:Type:=List (Bool)->(List (Spn)->Prop)->Prop
def J5:Wm:=fun set_ K=>Lp2 (fun Qb Qz q3e=>Fits set_->CAt set_ Qz (fun y2=>Cnd (y2=true) (Cnd ((0:Int)<Qz) (InI (Qz - 1)/\((0:Int)<=Qz - 1/\Qz - 1<(↑set_.length:Int))/\ ∀y4,set_[(Qz - 1).toNat]? =some y4->Cnd (y4=true) (Fits Qb->InI ((↑Qb.length:Int) - 1)/\InI (Qz+1)/\((0:Int)<=(↑Qb.length:Int) - 1/\(↑Qb.length:Int) - 1<(↑Qb.length:Int))/\ ∀y7,Qb[((↑Qb.length:Int) - 1).toNat]? =some y7->InI (Qz+1)/\q3e (Qb.set ((↑Qb.length:Int) - 1).toNat (Spn.mk y7.1 (Qz+1))) (Qz+1)) (InI (Qz+1)/\Sml (Qb++[Spn.mk Qz (Qz+1)]).length/\InI (Qz+1)/\q3e (Qb++[Spn.mk Qz (Qz+1)]) (Qz+1))) (InI (Qz+1)/\Sml (Qb++[Spn.mk Qz (Qz+1)]).length/\InI (Qz+1)/\q3e (Qb++[Spn.mk Qz (Qz+1)]) (Qz+1))) (InI (Qz+1)/\q3e Qb (Qz+1))) (K Qb)) [] (0:Int)
abbrev q7a:Type:=List (Int)->Int->(List (Spn)->Prop)->Prop
def z7t (Q5:Wm):q7a:=fun until_ now K=>Fits until_->((0:Int)<=(↑until_.length:Int)/\(↑until_.length:Int)<=(↑until_.length:Int)/\Sml (↑until_.length:Int).toNat)/\Lp2 (fun Qd Z2 z5i=>Fits until_->CAt until_ Qd (fun y3=>At Z2 Qd fun _=>InI (Qd+1)/\z5i (Qd+1) (Z2.set Qd.toNat (decide (now<y3)))) (Q5 Z2 fun Qh=>K Qh)) (0:Int) (List.replicate (↑until_.length:Int).toNat false)
def q7b:q7a:=z7t J5
abbrev By:Type:=List (Spn)->(List (Bool)->Prop)->Prop
def H1:By:=fun l K=>((0:Int)<=(10000:Int)/\(10000:Int)<=(10000:Int)/\Sml (Int.toNat (10000:Int)))/\Lp2 (fun Qb Qz q3e=>Fits l->CAt l Qb (fun y2=>Lp2 (fun Qf J1 w8k=>At l Qb fun y5=>Cnd (Qf<Min.min y5.2 (10000:Int)) (At J1 Qf fun _=>InI (Qf+1)/\w8k (Qf+1) (J1.set Qf.toNat true)) (InI (Qb+1)/\q3e (Qb+1) J1)) (Max.max y2.1 (0:Int)) Qz) (K Qz)) (0:Int) (List.replicate (Int.toNat (10000:Int)) false)
abbrev q7c:Type:=List (Spn)->List (Spn)->(List (Spn)->Prop)->Prop
def z7u (Jd:By) (Q5:Wm):q7c:=fun a b K=>Jd a fun Qb=>Jd b fun Qd=>Lp2 (fun Qg Zo q6w=>Fits Zo->CAt Zo Qg (fun y4=>Cnd (y4=true) (At Zo Qg fun _=>InI (Qg+1)/\q6w (Qg+1) (Zo.set Qg.toNat true)) (At Qd Qg fun y6=>At Zo Qg fun _=>InI (Qg+1)/\q6w (Qg+1) (Zo.set Qg.toNat y6))) (Q5 Zo fun Qf=>K Qf)) (0:Int) Qb
def q7d:q7c:=z7u H1 J5
abbrev q7e:Type:=Envt->ByteArray->ByteArray->Int->(List (Spn)->Prop)->Prop
def z7v (Zw:Vt) (q01:q7c) (Rs:q1p) (q37:q7a):q7e:=fun v layer but now K=>Zw (Envt.mk (Sett.mk v.1.1 v.1.2 v.1.3) v.2 v.3 v.4 v.5 v.6) layer fun Qb=>Cnd (Qb<0) (K []) (Jn1 (fun Qd=>Lp2 (fun Qg Zo q6w=>Fits v.6->CAt v.6 Zo (fun y4=>Cnd (y4.2=layer) (Cnd (y4.1=but) (InI (Zo+1)/\q6w Qg (Zo+1)) (Cnd (y4.5=3) (InI (Zo+1)/\q6w Qg (Zo+1)) (q01 Qg y4.6 fun Jb=>InI (Zo+1)/\q6w Jb (Zo+1)))) (InI (Zo+1)/\q6w Qg (Zo+1))) (K Qg)) Qd (0:Int)) fun w2f=>At v.5 Qb fun y2=>At v.5 Qb fun y4=>(Rs y4.6 now fun Jb=>q37 Jb now fun W5=>q01 [Spn.mk (0:Int) y2.4] W5 fun Uf=>w2f Uf)/\Rs y4.6 now fun Jb=>(q37 Jb now fun W5=>q01 [Spn.mk (0:Int) y2.4] W5 fun Uf=>w2f Uf)/\q37 Jb now fun W5=>q01 [Spn.mk (0:Int) y2.4] W5 fun Uf=>w2f Uf)
def q7f:q7e:=z7v Vu q7d H0 q7b
abbrev q0k:Type:=List (Spn)->List (Spn)->(List (Spn)->Prop)->Prop
def z7w (Jd:By) (Q5:Wm):q0k:=fun a b K=>Jd a fun Qb=>Jd b fun Qd=>Lp2 (fun Qg Zo q6w=>Fits Zo->CAt Zo Qg (fun y4=>Cnd (y4=true) (At Qd Qg fun y6=>At Zo Qg fun _=>InI (Qg+1)/\q6w (Qg+1) (Zo.set Qg.toNat (match decide (y6=true) with|true=>false|false=>true))) (At Zo Qg fun _=>InI (Qg+1)/\q6w (Qg+1) (Zo.set Qg.toNat false))) (Q5 Zo fun Qf=>K Qf)) (0:Int) Qb
def q0l:q0k:=z7w H1 J5
abbrev z0b:Type:=Envt->ByteArray->Int->(List (Spn)->Int->Prop)->Prop
def j2f (z6e:z5z) (Zw:Vt) (z2j:q7e) (Gq:q0k):z0b:=fun v layer now K=>z6e now fun Qb=>Cnd (Qb=true) (Zw (Envt.mk (Sett.mk v.1.1 v.1.2 v.1.3) v.2 v.3 v.4 v.5 v.6) layer fun Qd=>Cnd (Qd<0) (K [] (11:Int)) (z2j (Envt.mk (Sett.mk v.1.1 v.1.2 v.1.3) v.2 v.3 v.4 v.5 v.6) layer (ByteArray.mk (Array.mk [])) now fun Qg=>Gq [Spn.mk (0:Int) (10000:Int)] Qg fun Qh=>K Qh (0:Int))) (K [] (3:Int))
def z0c:z0b:=j2f z0a Vu q7f q0l
abbrev q7g:Type:=List (Spn)->Int->(List (Spn)->Prop)->Prop
def z7x (Jd:By) (Q5:Wm):q7g:=fun l n K=>Jd l fun Qb=>Lp3 (fun Qd Z2 j1c y4c=>Fits j1c->CAt j1c Z2 (fun y3=>Cnd (y3=true) (Cnd (Qd<=0) (At j1c Z2 fun _=>InI (Z2+1)/\y4c Qd (Z2+1) (j1c.set Z2.toNat false)) (At j1c Z2 fun y5=>Cnd (y5=true) (InI (Qd - 1)/\InI (Z2+1)/\y4c (Qd - 1) (Z2+1) j1c) (InI (Z2+1)/\y4c Qd (Z2+1) j1c))) (At j1c Z2 fun y5=>Cnd (y5=true) (InI (Qd - 1)/\InI (Z2+1)/\y4c (Qd - 1) (Z2+1) j1c) (InI (Z2+1)/\y4c Qd (Z2+1) j1c))) (Q5 j1c fun Qh=>K Qh)) n (0:Int) Qb
def q7h:q7g:=z7x H1 J5
abbrev Vv:Type:=ByteArray->(Bool->Prop)->Prop
def Jt (s:ByteArray) (K:Bool->Prop):Prop:=s.size<=(9223372036854775807:Nat)/\K (Go.Lib.validD s.data.toList)
abbrev Jq:Type:=ByteArray->(Bool->Prop)->Prop
def z50 (Zx:Vv):Jq:=fun s K=>Cnd ((200:Int)<(↑s.size:Int)) (K false) (Zx s fun Qb=>Cnd (Qb=true) (Lp1 (fun Qd q1d=>Cnd (Qd<(↑s.size:Int)) (((0:Int)<=Qd/\Qd<(↑s.size:Int))/\ ∀b2,s[Qd.toNat]? =some b2->Cnd ((↑b2.toNat:Int)<32) (K false) (((0:Int)<=Qd/\Qd<(↑s.size:Int))/\ ∀b4,s[Qd.toNat]? =some b4->Cnd ((↑b4.toNat:Int)=127) (K false) (InI (Qd+1)/\q1d (Qd+1)))) (K true)) (0:Int)) (K false))
def Z6:Jq:=z50 Jt
abbrev z9y:Type:=ByteArray->(Bool->Prop)->Prop
def z3n:z9y:=fun s K=>Lp1 (fun Qb q1e=>Cnd (Qb<(↑s.size:Int)) (((0:Int)<=Qb/\Qb<(↑s.size:Int))/\ ∀b1,s[Qb.toNat]? =some b1->Cnd ((97:Int)<=(↑b1.toNat:Int)) (Cnd ((↑b1.toNat:Int)<=122) (InI (Qb+1)/\q1e (Qb+1)) (Cnd (Qb=0) (K false) (Cnd ((48:Int)<=(↑b1.toNat:Int)) (Cnd ((↑b1.toNat:Int)<=57) (InI (Qb+1)/\q1e (Qb+1)) (Cnd ((↑b1.toNat:Int)=45) (InI (Qb+1)/\q1e (Qb+1)) (Cnd ((↑b1.toNat:Int)=95) (InI (Qb+1)/\q1e (Qb+1)) (K false)))) (Cnd ((↑b1.toNat:Int)=45) (InI (Qb+1)/\q1e (Qb+1)) (Cnd ((↑b1.toNat:Int)=95) (InI (Qb+1)/\q1e (Qb+1)) (K false)))))) (Cnd (Qb=0) (K false) (Cnd ((48:Int)<=(↑b1.toNat:Int)) (Cnd ((↑b1.toNat:Int)<=57) (InI (Qb+1)/\q1e (Qb+1)) (Cnd ((↑b1.toNat:Int)=45) (InI (Qb+1)/\q1e (Qb+1)) (Cnd ((↑b1.toNat:Int)=95) (InI (Qb+1)/\q1e (Qb+1)) (K false)))) (Cnd ((↑b1.toNat:Int)=45) (InI (Qb+1)/\q1e (Qb+1)) (Cnd ((↑b1.toNat:Int)=95) (InI (Qb+1)/\q1e (Qb+1)) (K false)))))) (K (decide ((0:Int)<(↑s.size:Int))))) (0:Int)
abbrev q53:Type:=(List (ByteArray)->Prop)->Prop
def q1q:q53:=fun K=>K [ByteArray.mk (Array.mk [97,110,100]),ByteArray.mk (Array.mk [97,114,109,115]),ByteArray.mk (Array.mk [97,116,116,114,105,98,117,116,101]),ByteArray.mk (Array.mk [98,111,111,108]),ByteArray.mk (Array.mk [99,108,97,105,109,115]),ByteArray.mk (Array.mk [99,111,110,116,97,105,110,115]),ByteArray.mk (Array.mk [99,111,111,108]),ByteArray.mk (Array.mk [99,111,111,108,105,110,103]),ByteArray.mk (Array.mk [100,101,102,97,117,108,116]),ByteArray.mk (Array.mk [100,114,97,102,116]),ByteArray.mk (Array.mk [101,110,100,115]),ByteArray.mk (Array.mk [101,120,99,108,117,100,101]),ByteArray.mk (Array.mk [101,120,105,115,116,115]),ByteArray.mk (Array.mk [101,120,112,101,114,105,109,101,110,116]),ByteArray.mk (Array.mk [102,97,108,115,101]),ByteArray.mk (Array.mk [102,108,97,103]),ByteArray.mk (Array.mk [104,111,108,100,111,117,116]),ByteArray.mk (Array.mk [105,110]),ByteArray.mk (Array.mk [105,110,99,108,117,100,101]),ByteArray.mk (Array.mk [105,115]),ByteArray.mk (Array.mk [108,97,121,101,114]),ByteArray.mk (Array.mk [108,105,115,116]),ByteArray.mk (Array.mk [109,101,109,98,101,114]),ByteArray.mk (Array.mk [110,101,101,100,115]),ByteArray.mk (Array.mk [110,111,116]),ByteArray.mk (Array.mk [110,117,109,98,101,114]),ByteArray.mk (Array.mk [111,102,102]),ByteArray.mk (Array.mk [111,110]),ByteArray.mk (Array.mk [111,114]),ByteArray.mk (Array.mk [114,117,108,101]),ByteArray.mk (Array.mk [114,117,110,110,105,110,103]),ByteArray.mk (Array.mk [115,97,108,116]),ByteArray.mk (Array.mk [115,101,103,109,101,110,116]),ByteArray.mk (Array.mk [115,101,114,118,101]),ByteArray.mk (Array.mk [115,101,116,116,105,110,103,115]),ByteArray.mk (Array.mk [115,112,108,105,116]),ByteArray.mk (Array.mk [115,116,97,114,116,115]),ByteArray.mk (Array.mk [115,116,111,112,112,101,100]),ByteArray.mk (Array.mk [116,97,114,103,101,116]),ByteArray.mk (Array.mk [116,101,120,116]),ByteArray.mk (Array.mk [116,111]),ByteArray.mk (Array.mk [116,114,117,101]),ByteArray.mk (Array.mk [117,110,116,105,108]),ByteArray.mk (Array.mk [118,97,114,105,97,116,105,111,110,115]),ByteArray.mk (Array.mk [118,101,114,115,105,111,110]),ByteArray.mk (Array.mk [119,104,101,110])]
abbrev Jj:Type:=ByteArray->(Bool->Prop)->Prop
def w3m (j1j:z9y) (q6g:q53):Jj:=fun s K=>j1j s fun Qb=>Cnd (Qb=true) (Cnd ((32:Int)<(↑s.size:Int)) (K false) (q6g fun Qd=>Lp1 (fun Qg j1f=>Fits Qd->CAt Qd Qg (fun y4=>Cnd (y4=s) (K false) (InI (Qg+1)/\j1f (Qg+1))) (K true)) (0:Int))) (K false)
def Jk:Jj:=w3m z3n q1q
abbrev q1r:Type:=Sett->(Int->Prop)->Prop
def z1b (Qt:Jq) (Ql:Jj):q1r:=fun s K=>Qt s.1 fun Qb=>Cnd (Qb=true) (Cnd (s.3<0) (K (3:Int)) (Cnd ((10000:Int)<s.3) (K (3:Int)) (Ql s.2 fun Qd=>Cnd (Qd=true) (K (0:Int)) (Cnd (s.2=ByteArray.mk (Array.mk [])) (Cnd (s.3=0) (K (0:Int)) (K (6:Int))) (K (6:Int)))))) (K (2:Int))
def q1s:q1r:=z1b Z6 Jk
abbrev q1t:Type:=List (Decl)->(Int->Prop)->Prop
def z1c (Ql:Jj):q1t:=fun l K=>Fits l->Cnd ((30:Int)<(↑l.length:Int)) (K (5:Int)) (Lp1 (fun Qd q1d=>Fits l->CAt l Qd (fun y3=>Ql y3.1 fun Qn=>Cnd (Qn=true) (At l Qd fun y6=>Ql y6.2 fun Uf=>Cnd (Uf=true) (At l Qd fun y9=>Cnd (y9.2=ByteArray.mk (Array.mk [107,101,121])) (K (6:Int)) (At l Qd fun y11=>Cnd (y11.3<1) (K (7:Int)) (At l Qd fun y13=>Cnd ((5:Int)<y13.3) (K (7:Int)) (Cnd ((0:Int)<Qd) (At l Qd fun y15=>InI (Qd - 1)/\((0:Int)<=Qd - 1/\Qd - 1<(↑l.length:Int))/\ ∀y17,l[(Qd - 1).toNat]? =some y17->Cnd (Lk.blt y15.1 y17.1) (K (9:Int)) (At l Qd fun y19=>InI (Qd - 1)/\((0:Int)<=Qd - 1/\Qd - 1<(↑l.length:Int))/\ ∀y21,l[(Qd - 1).toNat]? =some y21->Cnd (y19.1=y21.1) (At l Qd fun y23=>InI (Qd - 1)/\((0:Int)<=Qd - 1/\Qd - 1<(↑l.length:Int))/\ ∀y25,l[(Qd - 1).toNat]? =some y25->Cnd (Lk.blt y25.2 y23.2) (InI (Qd+1)/\q1d (Qd+1)) (K (9:Int))) (InI (Qd+1)/\q1d (Qd+1)))) (InI (Qd+1)/\q1d (Qd+1)))))) (K (6:Int))) (K (6:Int))) (K (0:Int))) (0:Int))
def q1u:q1t:=z1c Jk
abbrev H2:Type:=List (ByteArray)->(Int->Prop)->Prop
def z3o (Qt:Jq):H2:=fun l K=>Fits l->Cnd ((40:Int)<(↑l.length:Int)) (K (5:Int)) (Lp1 (fun Qd q1d=>Fits l->CAt l Qd (fun y3=>Cnd (y3=ByteArray.mk (Array.mk [])) (K (2:Int)) (At l Qd fun y5=>Qt y5 fun W5=>Cnd (W5=true) (Cnd ((0:Int)<Qd) (At l Qd fun y8=>InI (Qd - 1)/\((0:Int)<=Qd - 1/\Qd - 1<(↑l.length:Int))/\ ∀y10,l[(Qd - 1).toNat]? =some y10->Cnd (Lk.blt y10 y8) (InI (Qd+1)/\q1d (Qd+1)) (K (9:Int))) (InI (Qd+1)/\q1d (Qd+1))) (K (2:Int)))) (K (0:Int))) (0:Int))
def H3:H2:=z3o Z6
abbrev z9z:Type:=Ex->(Bool->Prop)->Prop
def z3p:z9z:=fun e K=>Cnd (e.1=0) (Cnd (e.2=ByteArray.mk (Array.mk [])) (Cnd (e.3=ByteArray.mk (Array.mk [])) (Fits e.4->Cnd ((↑e.4.length:Int)=0) (Fits e.5->K (decide ((↑e.5.length:Int)=0))) (K false)) (K false)) (K false)) (K false)
abbrev q7i:Type:=Ex->(Bool->Prop)->Prop
def z7y (Q2:Vb):q7i:=fun e K=>Fits e.5->Fits e.4->Jn2 (fun Qg Zo=>Q2 e.1 fun Qh=>Cnd (Qg=true) (Cnd (Zo=true) (Cnd (Qh=true) (Cnd (Qh=true) (K true) (Cnd (e.1=5) (K true) (K (decide (e.3=ByteArray.mk (Array.mk [])))))) (Cnd (e.2=ByteArray.mk (Array.mk [])) (Cnd (Qh=true) (K true) (Cnd (e.1=5) (K true) (K (decide (e.3=ByteArray.mk (Array.mk [])))))) (K false))) (K false)) (K false)) fun w8j=>Cnd (e.1=2) (Fits e.5->w8j (decide ((2:Int)<=(↑e.5.length:Int))) (decide ((↑e.4.length:Int)=0))) (Cnd (e.1=3) (Fits e.5->w8j (decide ((2:Int)<=(↑e.5.length:Int))) (decide ((↑e.4.length:Int)=0))) (Cnd (e.1=4) (Fits e.5->w8j (decide ((↑e.5.length:Int)=1)) (decide ((↑e.4.length:Int)=0))) (Cnd (e.1=8) (Fits e.4->w8j (decide ((↑e.5.length:Int)=0)) (decide ((0:Int)<(↑e.4.length:Int)))) (Q2 e.1 fun Qh=>Cnd (Qh=true) (Cnd (e.1=6) (w8j (decide ((↑e.5.length:Int)=0)) (decide ((↑e.4.length:Int)=0))) (Fits e.4->w8j (decide ((↑e.5.length:Int)=0)) (decide ((↑e.4.length:Int)=1)))) (w8j (decide ((↑e.5.length:Int)=0)) (decide ((↑e.4.length:Int)=0)))))))
def q7j:q7i:=z7y Jm
abbrev z52:Type:=Val->(Bool->Prop)->Prop
def q3h:z52:=fun v K=>Cnd (v.1=1) (Cnd (v.1=3) (Cnd (v.1=5) (K true) (Fits v.4->K (decide ((↑v.4.length:Int)=0)))) (Cnd (v.1=4) (Cnd (v.1=5) (K true) (Fits v.4->K (decide ((↑v.4.length:Int)=0)))) (Cnd (v.3=ByteArray.mk (Array.mk [])) (Cnd (v.1=5) (K true) (Fits v.4->K (decide ((↑v.4.length:Int)=0)))) (K false)))) (Cnd (v.1=3) (Cnd (v.1=2) (Cnd (v.1=5) (K true) (Fits v.4->K (decide ((↑v.4.length:Int)=0)))) (Cnd (v.2=0) (Cnd (v.1=5) (K true) (Fits v.4->K (decide ((↑v.4.length:Int)=0)))) (K false))) (Cnd (v.1=2) (Cnd (v.1=4) (Cnd (v.1=5) (K true) (Fits v.4->K (decide ((↑v.4.length:Int)=0)))) (Cnd (v.3=ByteArray.mk (Array.mk [])) (Cnd (v.1=5) (K true) (Fits v.4->K (decide ((↑v.4.length:Int)=0)))) (K false))) (Cnd (v.2=0) (Cnd (v.1=4) (Cnd (v.1=5) (K true) (Fits v.4->K (decide ((↑v.4.length:Int)=0)))) (Cnd (v.3=ByteArray.mk (Array.mk [])) (Cnd (v.1=5) (K true) (Fits v.4->K (decide ((↑v.4.length:Int)=0)))) (K false))) (K false))))
abbrev q0a:Type:=ByteArray->(Int->Int->Prop)->Prop
def J0:q0a:=fun s K=>Jn1 (fun Qb=>Lp1 (fun Qd q1d=>Cnd (Qd<(↑Qb.size:Int)) (((0:Int)<=Qd/\Qd<(↑Qb.size:Int))/\ ∀b2,Qb[Qd.toNat]? =some b2->Cnd ((↑b2.toNat:Int)<48) (K (0:Int) (1:Int)) (((0:Int)<=Qd/\Qd<(↑Qb.size:Int))/\ ∀b4,Qb[Qd.toNat]? =some b4->Cnd ((57:Int)<(↑b4.toNat:Int)) (K (0:Int) (1:Int)) (InI (Qd+1)/\q1d (Qd+1)))) (Cnd (Qb=ByteArray.mk (Array.mk [])) (K (0:Int) (1:Int)) (((0:Int)<=(0:Int)/\(0:Int)<(↑Qb.size:Int))/\ ∀b2,Qb[Int.toNat (0:Int)]? =some b2->Cnd ((↑b2.toNat:Int)=48) (Cnd (s=ByteArray.mk (Array.mk [48])) (Cnd ((13:Int)<(↑Qb.size:Int)) (K (0:Int) (3:Int)) (Lp2 (fun Qf J1 w8k=>Cnd (J1<(↑Qb.size:Int)) (InI ((10:Int)*Qf)/\((0:Int)<=J1/\J1<(↑Qb.size:Int))/\ ∀b5,Qb[J1.toNat]? =some b5->InI (Go.IntKind.u8.wrap ((↑b5.toNat:Int) - 48))/\InI ((10:Int)*Qf+Go.IntKind.u8.wrap ((↑b5.toNat:Int) - 48))/\InI (J1+1)/\w8k ((10:Int)*Qf+Go.IntKind.u8.wrap ((↑b5.toNat:Int) - 48)) (J1+1)) (Cnd ((1099511627776:Int)<Qf) (K (0:Int) (3:Int)) (Cnd ((↑Qb.size:Int)<(↑s.size:Int)) (InI ((0:Int) - Qf)/\K ((0:Int) - Qf) (0:Int)) (K Qf (0:Int))))) (0:Int) (0:Int))) (K (0:Int) (1:Int))) (Cnd ((13:Int)<(↑Qb.size:Int)) (K (0:Int) (3:Int)) (Lp2 (fun Qf J1 w8k=>Cnd (J1<(↑Qb.size:Int)) (InI ((10:Int)*Qf)/\((0:Int)<=J1/\J1<(↑Qb.size:Int))/\ ∀b5,Qb[J1.toNat]? =some b5->InI (Go.IntKind.u8.wrap ((↑b5.toNat:Int) - 48))/\InI ((10:Int)*Qf+Go.IntKind.u8.wrap ((↑b5.toNat:Int) - 48))/\InI (J1+1)/\w8k ((10:Int)*Qf+Go.IntKind.u8.wrap ((↑b5.toNat:Int) - 48)) (J1+1)) (Cnd ((1099511627776:Int)<Qf) (K (0:Int) (3:Int)) (Cnd ((↑Qb.size:Int)<(↑s.size:Int)) (InI ((0:Int) - Qf)/\K ((0:Int) - Qf) (0:Int)) (K Qf (0:Int))))) (0:Int) (0:Int)))))) (0:Int)) fun z0y=>Cnd ((0:Int)<(↑s.size:Int)) (((0:Int)<=(0:Int)/\(0:Int)<(↑s.size:Int))/\ ∀b1,s[Int.toNat (0:Int)]? =some b1->Cnd ((↑b1.toNat:Int)=45) (((0:Int)<=(1:Int)/\(1:Int)<=(↑s.size:Int)/\(↑s.size:Int)<=(↑s.size:Int))/\z0y (s.extract (Int.toNat (1:Int)) (↑s.size:Int).toNat)) (z0y s)) (z0y s)
abbrev q6s:Type:=ByteArray->(A3->Bool->Prop)->Prop
def z54 (Hc:q0a):q6s:=fun s K=>LpH (fun (Qb:Int×Int×Int×Int×Int×Int×Int×Int×Unit) q1e=>Cnd (Qb.2.1<3) (Lp1 (fun Qd q1d=>Cnd (Qd<(↑s.size:Int)) (((0:Int)<=Qd/\Qd<(↑s.size:Int))/\ ∀b2,s[Qd.toNat]? =some b2->Cnd ((↑b2.toNat:Int)=46) (((0:Int)<=Qb.1/\Qb.1<=Qd/\Qd<=(↑s.size:Int))/\Hc (s.extract Qb.1.toNat Qd.toNat) fun Qf J1=>Cnd (J1=0) (Cnd (Qf<0) (K ((0:Int),(0:Int),(0:Int)) false) (Cnd ((999999:Int)<Qf) (K ((0:Int),(0:Int),(0:Int)) false) (Cnd (decide (Qb.2.1<2)=decide (Qd<(↑s.size:Int))) (((0:Int)<=Qb.2.1/\Qb.2.1<(↑(3:Nat):Int))/\((True/\(Qb.2.1=(↑(nat_lit 0):Int)->InI (Qd+1)/\InI (Qb.2.1+1)/\q1e (Qd+1,Qb.2.1+1,Qf,Qb.2.2.2.1,Qb.2.2.2.2.1,Qb.2.2.2.2.2.1,Qb.2.2.2.2.2.2.1,Qb.2.2.2.2.2.2.2.1,())))/\(Qb.2.1=(↑(nat_lit 1):Int)->InI (Qd+1)/\InI (Qb.2.1+1)/\q1e (Qd+1,Qb.2.1+1,Qb.2.2.1,Qf,Qb.2.2.2.2.1,Qb.2.2.2.2.2.1,Qb.2.2.2.2.2.2.1,Qb.2.2.2.2.2.2.2.1,())))/\(Qb.2.1=(↑(nat_lit 2):Int)->InI (Qd+1)/\InI (Qb.2.1+1)/\q1e (Qd+1,Qb.2.1+1,Qb.2.2.1,Qb.2.2.2.1,Qf,Qb.2.2.2.2.2.1,Qb.2.2.2.2.2.2.1,Qb.2.2.2.2.2.2.2.1,()))) (K ((0:Int),(0:Int),(0:Int)) false)))) (K ((0:Int),(0:Int),(0:Int)) false)) (InI (Qd+1)/\q1d (Qd+1))) (((0:Int)<=Qb.1/\Qb.1<=Qd/\Qd<=(↑s.size:Int))/\Hc (s.extract Qb.1.toNat Qd.toNat) fun Qg Zo=>Cnd (Zo=0) (Cnd (Qg<0) (K ((0:Int),(0:Int),(0:Int)) false) (Cnd ((999999:Int)<Qg) (K ((0:Int),(0:Int),(0:Int)) false) (Cnd (decide (Qb.2.1<2)=decide (Qd<(↑s.size:Int))) (((0:Int)<=Qb.2.1/\Qb.2.1<(↑(3:Nat):Int))/\((True/\(Qb.2.1=(↑(nat_lit 0):Int)->InI (Qd+1)/\InI (Qb.2.1+1)/\q1e (Qd+1,Qb.2.1+1,Qg,Qb.2.2.2.1,Qb.2.2.2.2.1,Qb.2.2.2.2.2.1,Qb.2.2.2.2.2.2.1,Qb.2.2.2.2.2.2.2.1,())))/\(Qb.2.1=(↑(nat_lit 1):Int)->InI (Qd+1)/\InI (Qb.2.1+1)/\q1e (Qd+1,Qb.2.1+1,Qb.2.2.1,Qg,Qb.2.2.2.2.1,Qb.2.2.2.2.2.1,Qb.2.2.2.2.2.2.1,Qb.2.2.2.2.2.2.2.1,())))/\(Qb.2.1=(↑(nat_lit 2):Int)->InI (Qd+1)/\InI (Qb.2.1+1)/\q1e (Qd+1,Qb.2.1+1,Qb.2.2.1,Qb.2.2.2.1,Qg,Qb.2.2.2.2.2.1,Qb.2.2.2.2.2.2.1,Qb.2.2.2.2.2.2.2.1,()))) (K ((0:Int),(0:Int),(0:Int)) false)))) (K ((0:Int),(0:Int),(0:Int)) false))) Qb.1) (K (Qb.2.2.1,Qb.2.2.2.1,Qb.2.2.2.2.1) true)) ((0:Int),(0:Int),(0:Int),(0:Int),(0:Int),(0:Int),(0:Int),(0:Int),())
def q05:q6s:=z54 J0
abbrev z3q:Type:=List (ByteArray)->(Int->Prop)->Prop
def z90 (Qt:Jq):z3q:=fun l K=>Fits l->Cnd ((20:Int)<(↑l.length:Int)) (K (5:Int)) (Lp1 (fun Qd q1d=>Fits l->CAt l Qd (fun y3=>Qt y3 fun Qn=>Cnd (Qn=true) (InI (Qd+1)/\q1d (Qd+1)) (K (2:Int))) (Lp1 (fun Qh z9b=>Fits l->CAt l Qh (fun y5=>InI (Qh - 1)/\((0:Int)<=Qh - 1/\Qh - 1<(↑l.length:Int))/\ ∀y7,l[(Qh - 1).toNat]? =some y7->Cnd (Lk.blt y7 y5) (InI (Qh+1)/\z9b (Qh+1)) (K (9:Int))) (K (0:Int))) (1:Int))) (0:Int))
def q7k:z3q:=z90 Z6
abbrev q06:Type:=Val->(Int->Prop)->Prop
def z55 (z6f:z52) (Qt:Jq) (q38:q6s) (j1k:z3q):q06:=fun v K=>Cnd (v.1<1) (K (7:Int)) (Cnd ((5:Int)<v.1) (K (7:Int)) (z6f v fun Qb=>Cnd (Qb=true) (Cnd (v.1=1) (Cnd (v.2=0) (K (0:Int)) (Cnd (v.2=1) (K (0:Int)) (K (3:Int)))) (Cnd (v.1=2) (Cnd (v.2<(-1099511627776:Int)) (K (3:Int)) (Cnd ((1099511627776:Int)<v.2) (K (3:Int)) (K (0:Int)))) (Cnd (v.1=3) (Qt v.3 fun Qd=>Cnd (Qd=true) (K (0:Int)) (K (2:Int))) (Cnd (v.1=4) (q38 v.3 fun (_:Int×Int×Int) Z2=>Cnd (Z2=true) (K (0:Int)) (K (1:Int))) (Cnd (v.1=5) (j1k v.4 fun Qd=>K Qd) (K (0:Int))))))) (K (15:Int))))
def Hh:q06:=z55 q3h Z6 q05 q7k
abbrev z3r:Type:=Ex->(Int->Prop)->Prop
def j7l (z2k:q7i) (Q2:Vb) (Ql:Jj) (Jr:q06):z3r:=fun e K=>Cnd (e.1<1) (K (7:Int)) (Cnd ((15:Int)<e.1) (K (7:Int)) (z2k (Ex.mk e.1 e.2 e.3 e.4 e.5) fun Qb=>Cnd (Qb=true) (Fits e.5->Cnd ((12:Int)<(↑e.5.length:Int)) (K (5:Int)) (Fits e.4->Cnd ((20:Int)<(↑e.4.length:Int)) (K (5:Int)) (Lp1 (fun Qh z9b=>Fits e.5->CAt e.5 Qh (fun y5=>Cnd (y5.1=e.1) (Cnd (e.1=4) (InI (Qh+1)/\z9b (Qh+1)) (K (15:Int))) (InI (Qh+1)/\z9b (Qh+1))) (Q2 e.1 fun Qn=>Cnd (Qn=true) (Ql e.2 fun Jb=>Cnd (Jb=true) (Q2 e.1 fun W5=>Cnd (W5=true) (Ql e.3 fun Uf=>Cnd (Uf=true) (Lp1 (fun Qr u0g=>Fits e.4->CAt e.4 Qr (fun y11=>Jr y11 fun Q8=>Cnd (Q8=0) (InI (Qr+1)/\u0g (Qr+1)) (K Q8)) (Cnd (e.1=9) (((0:Int)<=(0:Int)/\(0:Int)<(↑e.4.length:Int))/\ ∀y11,e.4[Int.toNat (0:Int)]? =some y11->Cnd (y11.1=3) (K (0:Int)) (K (8:Int))) (Cnd (e.1=10) (((0:Int)<=(0:Int)/\(0:Int)<(↑e.4.length:Int))/\ ∀y11,e.4[Int.toNat (0:Int)]? =some y11->Cnd (y11.1=3) (K (0:Int)) (K (8:Int))) (Cnd (e.1=11) (((0:Int)<=(0:Int)/\(0:Int)<(↑e.4.length:Int))/\ ∀y11,e.4[Int.toNat (0:Int)]? =some y11->Cnd (y11.1=3) (K (0:Int)) (K (8:Int))) (K (0:Int)))))) (0:Int)) (K (6:Int))) (Cnd (e.1=5) (Ql e.3 fun Uf=>Cnd (Uf=true) (Lp1 (fun Qr u0g=>Fits e.4->CAt e.4 Qr (fun y11=>Jr y11 fun Q8=>Cnd (Q8=0) (InI (Qr+1)/\u0g (Qr+1)) (K Q8)) (Cnd (e.1=9) (((0:Int)<=(0:Int)/\(0:Int)<(↑e.4.length:Int))/\ ∀y11,e.4[Int.toNat (0:Int)]? =some y11->Cnd (y11.1=3) (K (0:Int)) (K (8:Int))) (Cnd (e.1=10) (((0:Int)<=(0:Int)/\(0:Int)<(↑e.4.length:Int))/\ ∀y11,e.4[Int.toNat (0:Int)]? =some y11->Cnd (y11.1=3) (K (0:Int)) (K (8:Int))) (Cnd (e.1=11) (((0:Int)<=(0:Int)/\(0:Int)<(↑e.4.length:Int))/\ ∀y11,e.4[Int.toNat (0:Int)]? =some y11->Cnd (y11.1=3) (K (0:Int)) (K (8:Int))) (K (0:Int)))))) (0:Int)) (K (6:Int))) (Lp1 (fun Uf u0h=>Fits e.4->CAt e.4 Uf (fun y10=>Jr y10 fun U6=>Cnd (U6=0) (InI (Uf+1)/\u0h (Uf+1)) (K U6)) (Cnd (e.1=9) (((0:Int)<=(0:Int)/\(0:Int)<(↑e.4.length:Int))/\ ∀y10,e.4[Int.toNat (0:Int)]? =some y10->Cnd (y10.1=3) (K (0:Int)) (K (8:Int))) (Cnd (e.1=10) (((0:Int)<=(0:Int)/\(0:Int)<(↑e.4.length:Int))/\ ∀y10,e.4[Int.toNat (0:Int)]? =some y10->Cnd (y10.1=3) (K (0:Int)) (K (8:Int))) (Cnd (e.1=11) (((0:Int)<=(0:Int)/\(0:Int)<(↑e.4.length:Int))/\ ∀y10,e.4[Int.toNat (0:Int)]? =some y10->Cnd (y10.1=3) (K (0:Int)) (K (8:Int))) (K (0:Int)))))) (0:Int)))) (K (6:Int))) (Q2 e.1 fun Jb=>Cnd (Jb=true) (Ql e.3 fun W5=>Cnd (W5=true) (Lp1 (fun Uf u0h=>Fits e.4->CAt e.4 Uf (fun y10=>Jr y10 fun U6=>Cnd (U6=0) (InI (Uf+1)/\u0h (Uf+1)) (K U6)) (Cnd (e.1=9) (((0:Int)<=(0:Int)/\(0:Int)<(↑e.4.length:Int))/\ ∀y10,e.4[Int.toNat (0:Int)]? =some y10->Cnd (y10.1=3) (K (0:Int)) (K (8:Int))) (Cnd (e.1=10) (((0:Int)<=(0:Int)/\(0:Int)<(↑e.4.length:Int))/\ ∀y10,e.4[Int.toNat (0:Int)]? =some y10->Cnd (y10.1=3) (K (0:Int)) (K (8:Int))) (Cnd (e.1=11) (((0:Int)<=(0:Int)/\(0:Int)<(↑e.4.length:Int))/\ ∀y10,e.4[Int.toNat (0:Int)]? =some y10->Cnd (y10.1=3) (K (0:Int)) (K (8:Int))) (K (0:Int)))))) (0:Int)) (K (6:Int))) (Cnd (e.1=5) (Ql e.3 fun W5=>Cnd (W5=true) (Lp1 (fun Uf u0h=>Fits e.4->CAt e.4 Uf (fun y10=>Jr y10 fun U6=>Cnd (U6=0) (InI (Uf+1)/\u0h (Uf+1)) (K U6)) (Cnd (e.1=9) (((0:Int)<=(0:Int)/\(0:Int)<(↑e.4.length:Int))/\ ∀y10,e.4[Int.toNat (0:Int)]? =some y10->Cnd (y10.1=3) (K (0:Int)) (K (8:Int))) (Cnd (e.1=10) (((0:Int)<=(0:Int)/\(0:Int)<(↑e.4.length:Int))/\ ∀y10,e.4[Int.toNat (0:Int)]? =some y10->Cnd (y10.1=3) (K (0:Int)) (K (8:Int))) (Cnd (e.1=11) (((0:Int)<=(0:Int)/\(0:Int)<(↑e.4.length:Int))/\ ∀y10,e.4[Int.toNat (0:Int)]? =some y10->Cnd (y10.1=3) (K (0:Int)) (K (8:Int))) (K (0:Int)))))) (0:Int)) (K (6:Int))) (Lp1 (fun W5 y77=>Fits e.4->CAt e.4 W5 (fun y9=>Jr y9 fun J7=>Cnd (J7=0) (InI (W5+1)/\y77 (W5+1)) (K J7)) (Cnd (e.1=9) (((0:Int)<=(0:Int)/\(0:Int)<(↑e.4.length:Int))/\ ∀y9,e.4[Int.toNat (0:Int)]? =some y9->Cnd (y9.1=3) (K (0:Int)) (K (8:Int))) (Cnd (e.1=10) (((0:Int)<=(0:Int)/\(0:Int)<(↑e.4.length:Int))/\ ∀y9,e.4[Int.toNat (0:Int)]? =some y9->Cnd (y9.1=3) (K (0:Int)) (K (8:Int))) (Cnd (e.1=11) (((0:Int)<=(0:Int)/\(0:Int)<(↑e.4.length:Int))/\ ∀y9,e.4[Int.toNat (0:Int)]? =some y9->Cnd (y9.1=3) (K (0:Int)) (K (8:Int))) (K (0:Int)))))) (0:Int)))))) (0:Int)))) (K (15:Int))))
def z0d:z3r:=j7l q7j Jm Jk Hh
abbrev q4x:Type:=Ex->Int->Int->(Int->Int->Prop)->Prop
def j7m (j1l:z3r) (X:q4x):q4x:=fun e depth n K=>Cnd ((60:Int)<=n) (K (5:Int) n) (InI (n+1)/\Cnd ((10:Int)<depth) (K (18:Int) (n+1)) (j1l (Ex.mk e.1 e.2 e.3 e.4 e.5) fun Qb=>Cnd (Qb=0) (Lp2 (fun Qd Z2 z5i=>Fits e.5->CAt e.5 Qd (fun y3=>InI (depth+1)/\X (Ex.mk y3.1 y3.2 y3.3 y3.4 y3.5) (depth+1) Z2 fun Qn q8k=>Cnd (Qn=0) (InI (Qd+1)/\z5i (Qd+1) q8k) (K Qn q8k)) (K (0:Int) Z2)) (0:Int) (n+1)) (K Qb (n+1))))
def z3s:q4x:=fun e depth n K=> ∀X:q4x,(∀e depth n K,j7m z0d X e depth n K->X e depth n K)->X e depth n K
abbrev q1v:Type:=Ex->(Int->Prop)->Prop
def j7n (j1m:q4x):q1v:=fun e K=>j1m (Ex.mk e.1 e.2 e.3 e.4 e.5) (1:Int) (0:Int) fun Qb _=>K Qb
def q1w:q1v:=j7n z3s
abbrev q4y:Type:=Seg->(Int->Prop)->Prop
def z3t (Ql:Jj) (W6:H2) (j1n:z9z) (V6:q1v):q4y:=fun g K=>Ql g.1 fun Qb=>Cnd (Qb=true) (Ql g.2 fun Qd=>Cnd (Qd=true) (W6 g.3 fun Qg=>Cnd (Qg=0) (W6 g.4 fun Qh=>Cnd (Qh=0) (j1n (Ex.mk g.5.1 g.5.2 g.5.3 g.5.4 g.5.5) fun Qf=>Cnd (Qf=true) (K (0:Int)) (V6 (Ex.mk g.5.1 g.5.2 g.5.3 g.5.4 g.5.5) fun Qn=>K Qn)) (K Qh)) (K Qg)) (K (6:Int))) (K (6:Int))
def q4z:q4y:=z3t Jk H3 z3p q1w
abbrev q1x:Type:=List (Seg)->(Int->Prop)->Prop
def z1d (q83:q4y):q1x:=fun l K=>Fits l->Cnd ((20:Int)<(↑l.length:Int)) (K (5:Int)) (Lp1 (fun Qd q1d=>Fits l->CAt l Qd (fun y3=>q83 (Seg.mk y3.1 y3.2 y3.3 y3.4 (Ex.mk y3.5.1 y3.5.2 y3.5.3 y3.5.4 y3.5.5)) fun Qn=>Cnd (Qn=0) (Cnd ((0:Int)<Qd) (At l Qd fun y6=>InI (Qd - 1)/\((0:Int)<=Qd - 1/\Qd - 1<(↑l.length:Int))/\ ∀y8,l[(Qd - 1).toNat]? =some y8->Cnd (Lk.blt y8.1 y6.1) (InI (Qd+1)/\q1d (Qd+1)) (K (9:Int))) (InI (Qd+1)/\q1d (Qd+1))) (K Qn)) (K (0:Int))) (0:Int))
def q1y:q1x:=z1d q4z
abbrev H4:Type:=Flg->(Int->Prop)->Prop
def q7l (Jr:q06):H4:=fun f K=>Fits f.3->Cnd ((8:Int)<(↑f.3.length:Int)) (K (5:Int)) (Cnd ((↑f.3.length:Int)=0) (K (3:Int)) (Lp1 (fun Qd q1d=>CAt f.3 Qd (fun y2=>Jr y2 fun Qf=>Cnd (Qf=0) (At f.3 Qd fun y5=>Cnd (y5.1=f.2) (InI (Qd+1)/\q1d (Qd+1)) (K (8:Int))) (K Qf)) (Cnd (f.5<1) (K (3:Int)) (Cnd ((↑f.3.length:Int)<f.5) (K (3:Int)) (K (0:Int))))) (0:Int)))
def H5:H4:=q7l Hh
abbrev Vw:Type:=List (Prq)->(Int->Prop)->Prop
def q1z (Ql:Jj):Vw:=fun l K=>Fits l->Cnd ((4:Int)<(↑l.length:Int)) (K (5:Int)) (Lp1 (fun Qd q1d=>Fits l->CAt l Qd (fun y3=>Ql y3.1 fun Qn=>Cnd (Qn=true) (Cnd ((0:Int)<Qd) (At l Qd fun y6=>InI (Qd - 1)/\((0:Int)<=Qd - 1/\Qd - 1<(↑l.length:Int))/\ ∀y8,l[(Qd - 1).toNat]? =some y8->Cnd (Lk.blt y8.1 y6.1) (At l Qd fun y10=>Cnd (y10.2<1) (K (3:Int)) (At l Qd fun y12=>Cnd ((8:Int)<y12.2) (K (3:Int)) (InI (Qd+1)/\q1d (Qd+1)))) (K (9:Int))) (At l Qd fun y6=>Cnd (y6.2<1) (K (3:Int)) (At l Qd fun y8=>Cnd ((8:Int)<y8.2) (K (3:Int)) (InI (Qd+1)/\q1d (Qd+1))))) (K (6:Int))) (K (0:Int))) (0:Int))
def Vx:Vw:=q1z Jk
abbrev q40:Type:=List (Tgt)->Int->(Int->Prop)->Prop
def z3u (Ql:Jj) (W6:H2):q40:=fun l n K=>Fits l->Cnd ((8:Int)<(↑l.length:Int)) (K (5:Int)) (Lp1 (fun Qd q1d=>Fits l->CAt l Qd (fun y3=>Ql y3.1 fun Qn=>Cnd (Qn=true) (At l Qd fun y6=>Cnd (y6.2<1) (K (3:Int)) (At l Qd fun y8=>Cnd (n<y8.2) (K (3:Int)) (At l Qd fun y10=>Fits y10.3->Cnd ((↑y10.3.length:Int)=0) (K (3:Int)) (At l Qd fun y13=>W6 y13.3 fun j1o=>Cnd (j1o=0) (InI (Qd+1)/\q1d (Qd+1)) (K j1o))))) (K (6:Int))) (K (0:Int))) (0:Int))
def q41:q40:=z3u Jk H3
abbrev q6t:Type:=List (Rng)->Int->(Int->Prop)->Prop
def q3i:q6t:=fun l variations K=>Fits l->Cnd ((16:Int)<(↑l.length:Int)) (K (5:Int)) (Lp2 (fun Qd Z2 z5i=>Fits l->CAt l Z2 (fun y3=>Cnd (y3.3<1) (K (3:Int)) (At l Z2 fun y5=>Cnd (variations<y5.3) (K (3:Int)) (At l Z2 fun y7=>Cnd (y7.1=Qd) (At l Z2 fun y9=>Cnd (y9.2<=Qd) (K (9:Int)) (Cnd ((0:Int)<Z2) (At l Z2 fun y11=>InI (Z2 - 1)/\((0:Int)<=Z2 - 1/\Z2 - 1<(↑l.length:Int))/\ ∀y13,l[(Z2 - 1).toNat]? =some y13->Cnd (y11.3=y13.3) (K (9:Int)) (At l Z2 fun y15=>InI (Z2+1)/\z5i y15.2 (Z2+1))) (At l Z2 fun y11=>InI (Z2+1)/\z5i y11.2 (Z2+1)))) (K (9:Int))))) (Cnd (Qd=10000) (K (0:Int)) (K (3:Int)))) (0:Int) (0:Int))
abbrev q3j:Type:=Srv->Int->(Int->Prop)->Prop
def j2g (Ql:Jj) (Qt:Jq) (Bg:q6t):q3j:=fun v variations K=>Cnd (v.1=0) (Ql v.2 fun Qb=>Cnd (Qb=true) (Ql v.3 fun Qd=>Cnd (Qd=true) (Qt v.4 fun Qg=>Cnd (Qg=true) (Bg v.5 variations fun Qh=>K Qh) (K (2:Int))) (K (6:Int))) (K (6:Int))) (Cnd (v.1<1) (K (3:Int)) (Cnd (variations<v.1) (K (3:Int)) (Cnd (v.2=ByteArray.mk (Array.mk [])) (Cnd (v.3=ByteArray.mk (Array.mk [])) (Cnd (v.4=ByteArray.mk (Array.mk [])) (Fits v.5->Cnd ((0:Int)<(↑v.5.length:Int)) (K (15:Int)) (K (0:Int))) (K (15:Int))) (K (15:Int))) (K (15:Int)))))
def q3k:q3j:=j2g Jk Z6 q3i
abbrev z0e:Type:=List (Rul)->Int->(Int->Prop)->Prop
def j2h (Ql:Jj) (V6:q1v) (Bh:q3j):z0e:=fun l n K=>Fits l->Cnd ((12:Int)<(↑l.length:Int)) (K (5:Int)) (Lp1 (fun Qd q1d=>Fits l->CAt l Qd (fun y3=>Ql y3.1 fun Qn=>Cnd (Qn=true) (Lp1 (fun Jb y78=>Cnd (Jb<Qd) (At l Jb fun y7=>At l Qd fun y9=>Cnd (y7.1=y9.1) (K (10:Int)) (InI (Jb+1)/\y78 (Jb+1))) (At l Qd fun y7=>V6 (Ex.mk y7.2.1 y7.2.2 y7.2.3 y7.2.4 y7.2.5) fun Qr=>Cnd (Qr=0) (At l Qd fun y10=>Bh (Srv.mk y10.3.1 y10.3.2 y10.3.3 y10.3.4 y10.3.5) n fun U6=>Cnd (U6=0) (InI (Qd+1)/\q1d (Qd+1)) (K U6)) (K Qr))) (0:Int)) (K (6:Int))) (K (0:Int))) (0:Int))
def z0f:z0e:=j2h Jk q1w q3k
abbrev z3v:Type:=Flg->(Int->Prop)->Prop
def j7o (Ql:Jj) (q25:H4) (Hl:Vw) (q84:q40) (z6g:z0e) (Bh:q3j):z3v:=fun f K=>Fits f.3->Ql f.1 fun Qd=>Cnd (Qd=true) (Cnd (f.2<1) (K (7:Int)) (Cnd ((5:Int)<f.2) (K (7:Int)) (q25 (Flg.mk f.1 f.2 f.3 f.4 f.5 f.6 f.7 f.8 (Srv.mk f.9.1 f.9.2 f.9.3 f.9.4 f.9.5)) fun Qg=>Cnd (Qg=0) (Hl f.6 fun Qh=>Cnd (Qh=0) (q84 f.7 (↑f.3.length:Int) fun Qf=>Cnd (Qf=0) (z6g f.8 (↑f.3.length:Int) fun Qn=>Cnd (Qn=0) (Bh (Srv.mk f.9.1 f.9.2 f.9.3 f.9.4 f.9.5) (↑f.3.length:Int) fun Jb=>K Jb) (K Qn)) (K Qf)) (K Qh)) (K Qg)))) (K (6:Int))
def z3w:z3v:=j7o Jk H5 Vx q41 z0f q3k
abbrev z0g:Type:=List (Flg)->(Int->Prop)->Prop
def j2i (j1p:z3v):z0g:=fun l K=>Fits l->Cnd ((30:Int)<(↑l.length:Int)) (K (5:Int)) (Lp1 (fun Qd q1d=>Fits l->CAt l Qd (fun y3=>j1p (Flg.mk y3.1 y3.2 y3.3 y3.4 y3.5 y3.6 y3.7 y3.8 (Srv.mk y3.9.1 y3.9.2 y3.9.3 y3.9.4 y3.9.5)) fun Qn=>Cnd (Qn=0) (Cnd ((0:Int)<Qd) (At l Qd fun y6=>InI (Qd - 1)/\((0:Int)<=Qd - 1/\Qd - 1<(↑l.length:Int))/\ ∀y8,l[(Qd - 1).toNat]? =some y8->Cnd (Lk.blt y8.1 y6.1) (InI (Qd+1)/\q1d (Qd+1)) (K (9:Int))) (InI (Qd+1)/\q1d (Qd+1))) (K Qn)) (K (0:Int))) (0:Int))
def z0h:z0g:=j2i z3w
abbrev z0i:Type:=Lay_->(Int->Prop)->Prop
def j2j (Ql:Jj) (Qt:Jq):z0i:=fun l K=>Ql l.1 fun Qb=>Cnd (Qb=true) (Ql l.2 fun Qd=>Cnd (Qd=true) (Qt l.3 fun Qg=>Cnd (Qg=true) (Cnd (l.4<0) (K (3:Int)) (Cnd ((10000:Int)<l.4) (K (3:Int)) (Cnd (l.5<0) (K (3:Int)) (Cnd ((1099511627776:Int)<l.5) (K (3:Int)) (Fits l.6->Cnd ((32:Int)<(↑l.6.length:Int)) (K (5:Int)) (Lp1 (fun Qf w5m=>Fits l.6->CAt l.6 Qf (fun y6=>Cnd (y6.1<0) (K (3:Int)) (Cnd (y6.2<=y6.1) (K (3:Int)) (Cnd ((10000:Int)<y6.2) (K (3:Int)) (Cnd (y6.3<0) (K (3:Int)) (Cnd ((1099511627776:Int)<y6.3) (K (3:Int)) (Cnd ((0:Int)<Qf) (InI (Qf - 1)/\((0:Int)<=Qf - 1/\Qf - 1<(↑l.6.length:Int))/\ ∀y8,l.6[(Qf - 1).toNat]? =some y8->Cnd (y6.1<y8.2) (K (9:Int)) (InI (Qf+1)/\w5m (Qf+1))) (InI (Qf+1)/\w5m (Qf+1)))))))) (K (0:Int))) (0:Int))))))) (K (2:Int))) (K (6:Int))) (K (6:Int))
def z0j:z0i:=j2j Jk Z6
abbrev q7m:Type:=List (Lay_)->(Int->Prop)->Prop
def z7z (z6h:z0i):q7m:=fun l K=>Fits l->Cnd ((6:Int)<(↑l.length:Int)) (K (5:Int)) (Lp1 (fun Qd q1d=>Fits l->CAt l Qd (fun y3=>z6h y3 fun Qn=>Cnd (Qn=0) (Cnd ((0:Int)<Qd) (At l Qd fun y6=>InI (Qd - 1)/\((0:Int)<=Qd - 1/\Qd - 1<(↑l.length:Int))/\ ∀y8,l[(Qd - 1).toNat]? =some y8->Cnd (Lk.blt y8.1 y6.1) (InI (Qd+1)/\q1d (Qd+1)) (K (9:Int))) (InI (Qd+1)/\q1d (Qd+1))) (K Qn)) (K (0:Int))) (0:Int))
def q7n:q7m:=z7z z0j
abbrev z56:Type:=List (Spn)->(Int->Prop)->Prop
def z0k:z56:=fun l K=>Fits l->Cnd ((16:Int)<(↑l.length:Int)) (K (5:Int)) (Lp1 (fun Qd q1d=>Fits l->CAt l Qd (fun y3=>Cnd (y3.1<0) (K (3:Int)) (At l Qd fun y5=>At l Qd fun y7=>Cnd (y7.2<=y5.1) (K (3:Int)) (At l Qd fun y9=>Cnd ((10000:Int)<y9.2) (K (3:Int)) (Cnd ((0:Int)<Qd) (At l Qd fun y11=>InI (Qd - 1)/\((0:Int)<=Qd - 1/\Qd - 1<(↑l.length:Int))/\ ∀y13,l[(Qd - 1).toNat]? =some y13->Cnd (y11.1<=y13.2) (K (9:Int)) (InI (Qd+1)/\q1d (Qd+1))) (InI (Qd+1)/\q1d (Qd+1)))))) (K (0:Int))) (0:Int))
abbrev H6:Type:=Exper->(Int->Prop)->Prop
def q7o (Ql:Jj) (Qt:Jq) (z6i:z56) (Bg:q6t) (V6:q1v):H6:=fun x K=>Ql x.1 fun Qb=>Cnd (Qb=true) (Ql x.2 fun Qd=>Cnd (Qd=true) (Ql x.3 fun Qg=>Cnd (Qg=true) (Qt x.4 fun Qh=>Cnd (Qh=true) (Cnd (x.5<1) (K (7:Int)) (Cnd ((3:Int)<x.5) (K (7:Int)) (z6i x.6 fun Qf=>Cnd (Qf=0) (Bg x.7 (8:Int) fun Qn=>Cnd (Qn=0) (V6 (Ex.mk x.8.1 x.8.2 x.8.3 x.8.4 x.8.5) fun Jb=>K Jb) (K Qn)) (K Qf)))) (K (2:Int))) (K (6:Int))) (K (6:Int))) (K (6:Int))
def H7:H6:=q7o Jk Z6 z0k q3i q1w
abbrev Gz:Type:=List (Exper)->(Int->Prop)->Prop
def q5k (q26:H6):Gz:=fun l K=>Fits l->Cnd ((16:Int)<(↑l.length:Int)) (K (5:Int)) (Lp1 (fun Qd q1d=>Fits l->CAt l Qd (fun y3=>q26 (Exper.mk y3.1 y3.2 y3.3 y3.4 y3.5 y3.6 y3.7 (Ex.mk y3.8.1 y3.8.2 y3.8.3 y3.8.4 y3.8.5)) fun Qn=>Cnd (Qn=0) (Cnd ((0:Int)<Qd) (At l Qd fun y6=>InI (Qd - 1)/\((0:Int)<=Qd - 1/\Qd - 1<(↑l.length:Int))/\ ∀y8,l[(Qd - 1).toNat]? =some y8->Cnd (Lk.blt y8.1 y6.1) (InI (Qd+1)/\q1d (Qd+1)) (K (9:Int))) (InI (Qd+1)/\q1d (Qd+1))) (K Qn)) (K (0:Int))) (0:Int))
def G0:Gz:=q5k H7
abbrev G1:Type:=Envt->(Int->Prop)->Prop
def q5l (q6h:q1r) (q6i:q1t) (q6j:q1x) (z6j:z0g) (z2l:q7m) (q0e:Gz):G1:=fun v K=>q6h (Sett.mk v.1.1 v.1.2 v.1.3) fun Qb=>Cnd (Qb=0) (q6i v.2 fun Qd=>Cnd (Qd=0) (q6j v.3 fun Qg=>Cnd (Qg=0) (z6j v.4 fun Qh=>Cnd (Qh=0) (z2l v.5 fun Qf=>Cnd (Qf=0) (q0e v.6 fun Qn=>K Qn) (K Qf)) (K Qh)) (K Qg)) (K Qd)) (K Qb)
def G2:G1:=q5l q1s q1u q1y z0h q7n G0
abbrev R0:Type:=List (Seg)->(List (ByteArray)->Prop)->Prop
def R1:R0:=fun l K=>Lp2 (fun Qb Qz q3e=>Fits l->CAt l Qz (fun y2=>Sml (Qb++[y2.1]).length/\InI (Qz+1)/\q3e (Qb++[y2.1]) (Qz+1)) (K Qb)) [] (0:Int)
abbrev R2:Type:=List (ByteArray)->ByteArray->(Bool->Prop)->Prop
def Gb:R2:=fun l s K=>Lp1 (fun Qb q1e=>Fits l->CAt l Qb (fun y2=>Cnd (y2=s) (K true) (InI (Qb+1)/\q1e (Qb+1))) (K false)) (0:Int)
abbrev z0l:Type:=List (Decl)->ByteArray->ByteArray->(Int->Prop)->Prop
def q10:z0l:=fun l kind name K=>Lp1 (fun Qb q1e=>Fits l->CAt l Qb (fun y2=>Cnd (y2.1=kind) (At l Qb fun y4=>Cnd (y4.2=name) (At l Qb fun y6=>K y6.3) (InI (Qb+1)/\q1e (Qb+1))) (InI (Qb+1)/\q1e (Qb+1))) (Cnd (name=ByteArray.mk (Array.mk [107,101,121])) (K (3:Int)) (K (0:Int)))) (0:Int)
abbrev z91:Type:=Int->Ex->(Bool->Prop)->Prop
def q7p:z91:=fun t e K=>Cnd (e.1=6) (K true) (Cnd (e.1=8) (Lp1 (fun Qb q1e=>Fits e.4->CAt e.4 Qb (fun y2=>Cnd (y2.1=t) (InI (Qb+1)/\q1e (Qb+1)) (K false)) (K (match decide ((t,e,()).1=5) with|true=>false|false=>true))) (0:Int)) (Fits e.4->Cnd ((↑e.4.length:Int)=0) (K false) (((0:Int)<=(0:Int)/\(0:Int)<(↑e.4.length:Int))/\ ∀y1,e.4[Int.toNat (0:Int)]? =some y1->Cnd (e.1=7) (K (decide (y1.1=t))) (Jn1 (fun Qh=>Cnd (Qh=true) (Cnd (t=3) (K (decide (y1.1=3))) (K false)) (Cnd (e.1=11) (Cnd (t=3) (K (decide (y1.1=3))) (Cnd (t=5) (K (decide (y1.1=3))) (K false))) (Cnd (t=2) (K (decide (y1.1=t))) (Cnd (t=3) (K (decide (y1.1=t))) (Cnd (t=4) (K (decide (y1.1=t))) (K false)))))) fun y08=>Cnd (e.1=9) (y08 (decide (e.1=9))) (y08 (decide (e.1=10)))))))
abbrev G3:Type:=List (Decl)->List (ByteArray)->Ex->(Int->Prop)->Prop
def j7p (Zz:R2) (Q2:Vb) (B6:z0l) (z5j:z91) (X:G3):G3:=fun l segments e K=>Cnd (e.1=5) (Zz segments e.3 fun Qb=>Cnd (Qb=true) (Jn0 (Lp1 (fun Qd q1d=>Fits e.5->CAt e.5 Qd (fun y3=>X l segments (Ex.mk y3.1 y3.2 y3.3 y3.4 y3.5) fun Qn=>Cnd (Qn=0) (InI (Qd+1)/\q1d (Qd+1)) (K Qn)) (K (0:Int))) (0:Int)) fun Qd=>Q2 e.1 fun Qg=>Cnd (Qg=true) (B6 l e.2 e.3 fun Qh=>Cnd (Qh=0) (K (11:Int)) (z5j Qh (Ex.mk e.1 e.2 e.3 e.4 e.5) fun Qf=>Cnd (Qf=true) Qd (K (8:Int)))) Qd) (K (11:Int))) (Jn0 (Lp1 (fun Qb q1e=>Fits e.5->CAt e.5 Qb (fun y2=>X l segments (Ex.mk y2.1 y2.2 y2.3 y2.4 y2.5) fun Qf=>Cnd (Qf=0) (InI (Qb+1)/\q1e (Qb+1)) (K Qf)) (K (0:Int))) (0:Int)) fun Qb=>Q2 e.1 fun Qd=>Cnd (Qd=true) (B6 l e.2 e.3 fun Qg=>Cnd (Qg=0) (K (11:Int)) (z5j Qg (Ex.mk e.1 e.2 e.3 e.4 e.5) fun Qh=>Cnd (Qh=true) Qb (K (8:Int)))) Qb)
def q11:G3:=fun l segments e K=> ∀X:G3,(∀l segments e K,j7p Gb Jm q10 q7p X l segments e K->X l segments e K)->X l segments e K
abbrev q54:Type:=List (ByteArray)->ByteArray->(List (ByteArray)->Prop)->Prop
def q12:q54:=fun l s K=>Lp1 (fun Qb q1e=>Fits l->CAt l Qb (fun y2=>Cnd (Lk.blt y2 s) (InI (Qb+1)/\q1e (Qb+1)) (Fits l->CAt l Qb (fun y5=>Cnd (y5=s) (K l) (((0:Int)<=(0:Int)/\(0:Int)<=Qb/\Qb<=(↑l.length:Int))/\Sml ([]++List.drop (Int.toNat (0:Int)) (List.take Qb.toNat l)).length/\((0:Int)<=Qb/\Qb<=(↑l.length:Int)/\(↑l.length:Int)<=(↑l.length:Int))/\Sml ([]++List.drop (Int.toNat (0:Int)) (List.take Qb.toNat l)++[s]).length/\Sml ([]++List.drop (Int.toNat (0:Int)) (List.take Qb.toNat l)++[s]++List.drop Qb.toNat (List.take (↑l.length:Int).toNat l)).length/\K ([]++List.drop (Int.toNat (0:Int)) (List.take Qb.toNat l)++[s]++List.drop Qb.toNat (List.take (↑l.length:Int).toNat l)))) (((0:Int)<=(0:Int)/\(0:Int)<=Qb/\Qb<=(↑l.length:Int))/\Sml ([]++List.drop (Int.toNat (0:Int)) (List.take Qb.toNat l)).length/\((0:Int)<=Qb/\Qb<=(↑l.length:Int)/\(↑l.length:Int)<=(↑l.length:Int))/\Sml ([]++List.drop (Int.toNat (0:Int)) (List.take Qb.toNat l)++[s]).length/\Sml ([]++List.drop (Int.toNat (0:Int)) (List.take Qb.toNat l)++[s]++List.drop Qb.toNat (List.take (↑l.length:Int).toNat l)).length/\K ([]++List.drop (Int.toNat (0:Int)) (List.take Qb.toNat l)++[s]++List.drop Qb.toNat (List.take (↑l.length:Int).toNat l))))) (Fits l->CAt l Qb (fun y3=>Cnd (y3=s) (K l) (((0:Int)<=(0:Int)/\(0:Int)<=Qb/\Qb<=(↑l.length:Int))/\Sml ([]++List.drop (Int.toNat (0:Int)) (List.take Qb.toNat l)).length/\((0:Int)<=Qb/\Qb<=(↑l.length:Int)/\(↑l.length:Int)<=(↑l.length:Int))/\Sml ([]++List.drop (Int.toNat (0:Int)) (List.take Qb.toNat l)++[s]).length/\Sml ([]++List.drop (Int.toNat (0:Int)) (List.take Qb.toNat l)++[s]++List.drop Qb.toNat (List.take (↑l.length:Int).toNat l)).length/\K ([]++List.drop (Int.toNat (0:Int)) (List.take Qb.toNat l)++[s]++List.drop Qb.toNat (List.take (↑l.length:Int).toNat l)))) (((0:Int)<=(0:Int)/\(0:Int)<=Qb/\Qb<=(↑l.length:Int))/\Sml ([]++List.drop (Int.toNat (0:Int)) (List.take Qb.toNat l)).length/\((0:Int)<=Qb/\Qb<=(↑l.length:Int)/\(↑l.length:Int)<=(↑l.length:Int))/\Sml ([]++List.drop (Int.toNat (0:Int)) (List.take Qb.toNat l)++[s]).length/\Sml ([]++List.drop (Int.toNat (0:Int)) (List.take Qb.toNat l)++[s]++List.drop Qb.toNat (List.take (↑l.length:Int).toNat l)).length/\K ([]++List.drop (Int.toNat (0:Int)) (List.take Qb.toNat l)++[s]++List.drop Qb.toNat (List.take (↑l.length:Int).toNat l))))) (0:Int)
abbrev U7:Type:=List (ByteArray)->Ex->(List (ByteArray)->Prop)->Prop
def q8o (Uk:q54) (X:U7):U7:=fun l e K=>Jn1 (fun Qb=>Lp2 (fun Qd Z2 z5i=>Fits e.5->CAt e.5 Z2 (fun y3=>X Qd (Ex.mk y3.1 y3.2 y3.3 y3.4 y3.5) fun Qn=>InI (Z2+1)/\z5i Qn (Z2+1)) (K Qd)) Qb (0:Int)) fun z0y=>Cnd (e.1=5) (Uk l e.3 fun Qd=>z0y Qd) (z0y l)
def q07:U7:=fun l e K=> ∀X:U7,(∀l e K,q8o q12 X l e K->X l e K)->X l e K
abbrev q42:Type:=Ex->(List (ByteArray)->Prop)->Prop
def q8p (q85:U7):q42:=fun e K=>q85 [] (Ex.mk e.1 e.2 e.3 e.4 e.5) fun Qb=>K Qb
def H8:q42:=q8p q07
abbrev q3l:Type:=List (Seg)->(List (Edg)->Prop)->Prop
def z1e (q86:q42):q3l:=fun l K=>Lp2 (fun Qb Qz q3e=>Fits l->CAt l Qz (fun y2=>q86 (Ex.mk y2.5.1 y2.5.2 y2.5.3 y2.5.4 y2.5.5) fun Qf=>Lp2 (fun Qn q8k u0i=>Fits Qf->Cnd (q8k<(↑Qf.length:Int)) (At l Qz fun y7=>At Qf q8k fun y9=>Sml (Qn++[Edg.mk y7.1 y9]).length/\InI (q8k+1)/\u0i (Qn++[Edg.mk y7.1 y9]) (q8k+1)) (InI (Qz+1)/\q3e Qn (Qz+1))) Qb (0:Int)) (K Qb)) [] (0:Int)
def H9:q3l:=z1e H8
abbrev z0m:Type:=List (Edg)->ByteArray->(List (ByteArray)->Prop)->Prop
def j2k (Zz:R2) (Uk:q54):z0m:=fun edges node K=>Lp2 (fun Qb Qz q3e=>Fits Qz->Cnd ((0:Int)<(↑Qz.length:Int)) (((0:Int)<=(0:Int)/\(0:Int)<(↑Qz.length:Int))/\ ∀y2,Qz[Int.toNat (0:Int)]? =some y2->((0:Int)<=(1:Int)/\(1:Int)<=(↑Qz.length:Int)/\(↑Qz.length:Int)<=(↑Qz.length:Int))/\Lp3 (fun Qf J1 j1h y8q=>Fits edges->CAt edges j1h (fun y6=>Cnd (y6.1=y2) (At edges j1h fun y8=>Zz Qf y8.2 fun Hr=>Cnd (Hr=true) (InI (j1h+1)/\y8q Qf J1 (j1h+1)) (At edges j1h fun y11=>Uk Qf y11.2 fun Q8=>At edges j1h fun y14=>(Sml ([]++J1).length/\Sml ([]++J1++[y14.2]).length/\InI (j1h+1)/\y8q Q8 ([]++J1++[y14.2]) (j1h+1))/\Sml ([]++J1).length/\Sml ([]++J1++[y14.2]).length/\InI (j1h+1)/\y8q Q8 ([]++J1++[y14.2]) (j1h+1))) (InI (j1h+1)/\y8q Qf J1 (j1h+1))) (q3e Qf J1)) Qb (List.drop (Int.toNat (1:Int)) (List.take (↑Qz.length:Int).toNat Qz)) (0:Int)) (K Qb)) [] [node]
def z0n:z0m:=j2k Gb q12
abbrev q7q:Type:=List (ByteArray)->List (Edg)->(List (ByteArray)->Prop)->Prop
def z70 (z6k:z0m) (Zz:R2) (Uk:q54):q7q:=fun nodes edges K=>Lp2 (fun Qb Qz q3e=>Fits nodes->CAt nodes Qz (fun y2=>At nodes Qz fun y4=>z6k edges y2 fun Jb=>Zz Jb y4 fun W5=>Cnd (W5=true) (At nodes Qz fun y8=>Uk Qb y8 fun Hr=>InI (Qz+1)/\q3e Hr (Qz+1)) (InI (Qz+1)/\q3e Qb (Qz+1))) (K Qb)) [] (0:Int)
def q7r:q7q:=z70 z0n Gb q12
abbrev q7s:Type:=List (ByteArray)->List (Edg)->(ByteArray->Bool->Prop)->Prop
def z71 (z2m:q7q):q7s:=fun nodes edges K=>z2m nodes edges fun Qb=>Fits Qb->Cnd ((↑Qb.length:Int)=0) (K (ByteArray.mk (Array.mk [])) false) (((0:Int)<=(0:Int)/\(0:Int)<(↑Qb.length:Int))/\ ∀y2,Qb[Int.toNat (0:Int)]? =some y2->K y2 true)
def q7t:q7s:=z71 q7r
abbrev q08:Type:=Envt->ByteArray->(Int->Prop)->Prop
def q09:q08:=fun v key K=>Lp1 (fun Qb q1e=>Fits v.4->CAt v.4 Qb (fun y2=>Cnd (y2.1=key) (K Qb) (InI (Qb+1)/\q1e (Qb+1))) (K (-1:Int))) (0:Int)
abbrev z0o:Type:=List (Decl)->Srv->(Int->Prop)->Prop
def j2l (B6:z0l):z0o:=fun l v K=>Cnd (v.1=0) (B6 l v.2 v.3 fun Qb=>Cnd (Qb=0) (K (11:Int)) (Cnd (Qb=5) (K (8:Int)) (K (0:Int)))) (K (0:Int))
def z0p:z0o:=j2l q10
abbrev Ra:Type:=Envt->Flg->(Int->Prop)->Prop
def q7u (Jx:R0) (V7:q08) (V8:G3) (z0w:z0o) (Z9:J3):Ra:=fun v f K=>Jx v.3 fun Qb=>Lp2 (fun Qd Z2 z5i=>Fits f.6->CAt f.6 Qd (fun y3=>V7 (Envt.mk (Sett.mk v.1.1 v.1.2 v.1.3) v.2 v.3 v.4 v.5 v.6) y3.1 fun Qn=>Cnd (Qn<0) (K (11:Int)) (At f.6 Qd fun y6=>At v.4 Qn fun y8=>Fits y8.3->Cnd ((↑y8.3.length:Int)<y6.2) (K (3:Int)) (InI (Qd+1)/\z5i (Qd+1) Z2))) (Lp2 (fun Qh Ue j5l=>Fits f.8->CAt f.8 Qh (fun y5=>V8 v.2 Ue (Ex.mk y5.2.1 y5.2.2 y5.2.3 y5.2.4 y5.2.5) fun W5=>Cnd (W5=0) (At f.8 Qh fun y8=>z0w v.2 (Srv.mk y8.3.1 y8.3.2 y8.3.3 y8.3.4 y8.3.5) fun Hr=>Cnd (Hr=0) (InI (Qh+1)/\j5l (Qh+1) Ue) (K Hr)) (K W5)) (z0w v.2 (Srv.mk f.9.1 f.9.2 f.9.3 f.9.4 f.9.5) fun Qn=>Cnd (Qn=0) (Z9 f.8 fun Jb _ y5g=>Cnd (y5g=true) (Fits Jb->Cnd ((0:Int)<(↑Jb.length:Int)) (K (13:Int)) (K (0:Int))) (K (19:Int))) (K Qn))) (0:Int) Z2)) (0:Int) Qb
def Rb:Ra:=q7u R1 q09 q11 z0p J4
abbrev q4b:Type:=Envt->(List (ByteArray)->Prop)->Prop
def q4c:q4b:=fun v K=>Lp2 (fun Qb Qz q3e=>Fits v.4->CAt v.4 Qz (fun y2=>Sml (Qb++[y2.1]).length/\InI (Qz+1)/\q3e (Qb++[y2.1]) (Qz+1)) (K Qb)) [] (0:Int)
abbrev q13:Type:=Envt->(List (Edg)->Prop)->Prop
def Rd:q13:=fun v K=>Lp2 (fun Qb Qz q3e=>Fits v.4->Cnd (Qz<(↑v.4.length:Int)) (Lp2 (fun Qg Zo q6w=>At v.4 Qz fun y3=>Fits y3.6->Cnd (Zo<(↑y3.6.length:Int)) (At v.4 Qz fun y6=>At v.4 Qz fun y8=>At y8.6 Zo fun y10=>Sml (Qg++[Edg.mk y6.1 y10.1]).length/\InI (Zo+1)/\q6w (Qg++[Edg.mk y6.1 y10.1]) (Zo+1)) (InI (Qz+1)/\q3e Qg (Qz+1))) Qb (0:Int)) (K Qb)) [] (0:Int)
abbrev q43:Type:=List (Spn)->List (Spn)->(List (Spn)->Prop)->Prop
def z3x (Jd:By) (Q5:Wm):q43:=fun a b K=>Jd a fun Qb=>Jd b fun Qd=>Lp2 (fun Qg Zo q6w=>Fits Zo->CAt Zo Qg (fun y4=>Cnd (y4=true) (At Qd Qg fun y6=>At Zo Qg fun _=>InI (Qg+1)/\q6w (Qg+1) (Zo.set Qg.toNat y6)) (At Zo Qg fun _=>InI (Qg+1)/\q6w (Qg+1) (Zo.set Qg.toNat false))) (Q5 Zo fun Qf=>K Qf)) (0:Int) Qb
def q44:q43:=z3x H1 J5
abbrev Wi:Type:=Envt->Int->(Int->Prop)->Prop
def Re (Zw:Vt) (V7:q08) (Jx:R0) (V8:G3) (q87:q43):Wi:=fun v i K=>At v.6 i fun y0=>Zw (Envt.mk (Sett.mk v.1.1 v.1.2 v.1.3) v.2 v.3 v.4 v.5 v.6) y0.2 fun Qg=>V7 (Envt.mk (Sett.mk v.1.1 v.1.2 v.1.3) v.2 v.3 v.4 v.5 v.6) y0.3 fun Qh=>Cnd (Qg<0) (K (11:Int)) (Cnd (Qh<0) (K (11:Int)) (Lp1 (fun Qf w5m=>Fits y0.7->CAt y0.7 Qf (fun y6=>At v.4 Qh fun y8=>Fits y8.3->Cnd ((↑y8.3.length:Int)<y6.3) (K (3:Int)) (InI (Qf+1)/\w5m (Qf+1))) (Jx v.3 fun Jb=>V8 v.2 Jb (Ex.mk y0.8.1 y0.8.2 y0.8.3 y0.8.4 y0.8.5) fun W5=>Cnd (W5=0) (Cnd (y0.5=3) (K (0:Int)) (At v.5 Qg fun y8=>Lp3 (fun Hr q2z y4e y79=>Cnd (q2z<i) (At v.6 q2z fun y11=>Cnd (y11.2=y0.2) (Cnd (y11.5=3) (InI (q2z+1)/\y79 Hr (q2z+1) y4e) (Sml (Hr++y11.6).length/\InI (q2z+1)/\y79 (Hr++y11.6) (q2z+1) y4e)) (InI (q2z+1)/\y79 Hr (q2z+1) y4e)) (q87 y0.6 Hr fun J7=>Fits J7->Cnd ((0:Int)<(↑J7.length:Int)) (K (14:Int)) (Lp4 (fun Q8 j9x y8a y8b y8c=>Cnd (Q8<i) (Cnd (y0.5=2) (At v.6 Q8 fun y14=>Cnd (y14.5=2) (Cnd (y14.3=y0.3) (Cnd (y14.2=y0.2) (InI (Q8+1)/\y8c (Q8+1) j9x y8a y8b) (K (14:Int))) (InI (Q8+1)/\y8c (Q8+1) j9x y8a y8b)) (InI (Q8+1)/\y8c (Q8+1) j9x y8a y8b)) (K (0:Int))) (K (0:Int))) (0:Int) J7 Hr y4e))) [Spn.mk (0:Int) y8.4] (0:Int) Jb)) (K W5))) (0:Int)))
def Wj:Wi:=Re Vu q09 R1 q11 q44
abbrev Ut:Type:=Envt->(ByteArray->Int->Prop)->Prop
def q3m (q0f:G1) (Jx:R0) (V8:G3) (q39:q3l) (q8i:q7s) (q27:Ra) (q4o:q4b) (q28:q13) (V9:Wi):Ut:=fun v K=>q0f (Envt.mk (Sett.mk v.1.1 v.1.2 v.1.3) v.2 v.3 v.4 v.5 v.6) fun Qb=>Cnd (Qb=0) (Jx v.3 fun Qd=>Lp2 (fun Qg Zo q6w=>Fits v.3->CAt v.3 Qg (fun y4=>Cnd (y4.5.1=0) (InI (Qg+1)/\q6w (Qg+1) Zo) (At v.3 Qg fun y6=>V8 v.2 Zo (Ex.mk y6.5.1 y6.5.2 y6.5.3 y6.5.4 y6.5.5) fun Uf=>Cnd (Uf=0) (InI (Qg+1)/\q6w (Qg+1) Zo) (At v.3 Qg fun y9=>(↑((ByteArray.mk (Array.mk [115,101,103,109,101,110,116,32])).size+y9.1.size):Int)<=(9223372036854775807:Int)/\K (ByteArray.mk (Array.mk [115,101,103,109,101,110,116,32])++y9.1) Uf))) (q39 v.3 fun Qf=>q8i Zo Qf fun Qn q8k=>Cnd (q8k=true) ((↑((ByteArray.mk (Array.mk [115,101,103,109,101,110,116,32])).size+Qn.size):Int)<=(9223372036854775807:Int)/\K (ByteArray.mk (Array.mk [115,101,103,109,101,110,116,32])++Qn) (12:Int)) (Lp3 (fun Jb z9a y5g u2u=>Fits v.4->CAt v.4 Jb (fun y8=>q27 (Envt.mk (Sett.mk v.1.1 v.1.2 v.1.3) v.2 v.3 v.4 v.5 v.6) (Flg.mk y8.1 y8.2 y8.3 y8.4 y8.5 y8.6 y8.7 y8.8 (Srv.mk y8.9.1 y8.9.2 y8.9.3 y8.9.4 y8.9.5)) fun Hr=>Cnd (Hr=0) (InI (Jb+1)/\u2u (Jb+1) z9a y5g) (At v.4 Jb fun y11=>(↑((ByteArray.mk (Array.mk [102,108,97,103,32])).size+y11.1.size):Int)<=(9223372036854775807:Int)/\K (ByteArray.mk (Array.mk [102,108,97,103,32])++y11.1) Hr)) (q4o (Envt.mk (Sett.mk v.1.1 v.1.2 v.1.3) v.2 v.3 v.4 v.5 v.6) fun Uf=>q28 (Envt.mk (Sett.mk v.1.1 v.1.2 v.1.3) v.2 v.3 v.4 v.5 v.6) fun Qr=>q8i Uf Qr fun Hr q2z=>Cnd (q2z=true) ((↑((ByteArray.mk (Array.mk [102,108,97,103,32])).size+Hr.size):Int)<=(9223372036854775807:Int)/\K (ByteArray.mk (Array.mk [102,108,97,103,32])++Hr) (12:Int)) (Lp5 (fun J7 j9w u1y u1z u10 u11=>Fits v.6->Cnd (J7<(↑v.6.length:Int)) (V9 (Envt.mk (Sett.mk v.1.1 v.1.2 v.1.3) v.2 v.3 v.4 v.5 v.6) J7 fun Q8=>Cnd (Q8=0) (InI (J7+1)/\u11 (J7+1) j9w u1y u1z u10) (At v.6 J7 fun y14=>(↑((ByteArray.mk (Array.mk [101,120,112,101,114,105,109,101,110,116,32])).size+y14.1.size):Int)<=(9223372036854775807:Int)/\K (ByteArray.mk (Array.mk [101,120,112,101,114,105,109,101,110,116,32])++y14.1) Q8)) (K (ByteArray.mk (Array.mk [])) (0:Int))) (0:Int) Uf Qr y5g z9a))) (0:Int) Zo Qf))) (0:Int) Qd) (K (ByteArray.mk (Array.mk [])) Qb)
def Uu:Ut:=q3m G2 R1 q11 H9 q7t Rb q4c Rd Wj
abbrev q0m:Type:=Envt->(Bool->Prop)->Prop
def z72 (Bi:Ut):q0m:=fun v K=>Bi (Envt.mk (Sett.mk v.1.1 v.1.2 v.1.3) v.2 v.3 v.4 v.5 v.6) fun _ Qz=>K (decide (Qz=0))
def Ud:q0m:=z72 Uu
abbrev Rf:Type:=List (Int)->Int->Int->(Envt->Int->Prop)->Prop
def q7v (Q3:Wz) (q88:q4v) (Qc:Zh) (q20:z5w) (Ji:q1n) (q4j:z07) (z5k:z3h) (Rt:q1o) (q4k:q4a) (Z9:J3) (j1q:z3l) (Wk:q1l) (q21:q65) (z6l:z0b) (Wu:q51) (Gq:q0k) (z2n:q7g) (Wo:q0m):Rf:=fun list at_ now K=>Q3 fun Qb=>Jn1 (fun (Qd:ByteArray×ByteArray×Int×Int×List Decl×Unit)=>q88 list Qd.2.2.2.1 Qd.1 Qd.2.1 Qd.2.2.1 Qd.2.2.2.2.1 [] [] [] [] fun Qg Zo w5l j9z y1g u2v u2w u2x u2y=>Qc list Qg (5:Int) fun Qh Ue=>q20 Qh [ByteArray.mk (Array.mk [102,97]),ByteArray.mk (Array.mk [102,98]),ByteArray.mk (Array.mk [102,99]),ByteArray.mk (Array.mk [102,100])] fun Qf=>LpH (fun (Qn:Int×Int×List Flg×List Seg×List Lay_×List Exper×Unit) j6d=>Fits Qf->CAt Qf Qn.1 (fun y7=>Qc list Qn.2.1 (5:Int) fun Qr z89=>InI ((1:Int)+Qr)/\Qc list z89 (6:Int) fun Hr q2z=>Qc list q2z (4:Int) fun J7 j9w=>InI ((1:Int)+J7)/\LpH (fun (U6:Int×Int×List Val×List Exper×List Lay_×List Flg×List Seg×Unit) (u12:Int×Int×List Val×List Exper×List Lay_×List Flg×List Seg×Unit->Prop)=>Cnd (U6.1<1+J7) (Ji list U6.2.1 ((1:Int)+Qr) fun Q8 j9x=>Sml (U6.2.2.1++[Q8]).length/\InI (U6.1+1)/\u12 (U6.1+1,j9x,U6.2.2.1++[Q8],U6.2.2.2.1,U6.2.2.2.2.1,U6.2.2.2.2.2.1,U6.2.2.2.2.2.2.1,())) (Qc list U6.2.1 ((1:Int)+J7) fun Q8 j9x=>InI ((1:Int)+Q8)/\LpH (fun (J8:Int×List Prq×Int×List Seg×List Flg×List Lay_×List Exper×List Val×Unit) (y09:Int×List Prq×Int×List Seg×List Flg×List Lay_×List Exper×List Val×Unit->Prop)=>Fits J8.2.2.2.2.1->Cnd (J8.1<(↑J8.2.2.2.2.1.length:Int)) (Qc list J8.2.2.1 (4:Int) fun Hd y1a=>Cnd (Hd=1) (At J8.2.2.2.2.1 J8.1 fun y17=>At J8.2.2.2.2.1 J8.1 fun y19=>Fits y19.3->Qc list y1a (↑y19.3.length:Int) fun y8d u13=>InI ((1:Int)+y8d)/\Sml (J8.2.1++[Prq.mk y17.1 ((1:Int)+y8d)]).length/\InI (J8.1+1)/\y09 (J8.1+1,J8.2.1++[Prq.mk y17.1 ((1:Int)+y8d)],u13,J8.2.2.2.1,J8.2.2.2.2.1,J8.2.2.2.2.2.1,J8.2.2.2.2.2.2.1,J8.2.2.2.2.2.2.2.1,())) (InI (J8.1+1)/\y09 (J8.1+1,J8.2.1,y1a,J8.2.2.2.1,J8.2.2.2.2.1,J8.2.2.2.2.2.1,J8.2.2.2.2.2.2.1,J8.2.2.2.2.2.2.2.1,()))) (LpH (fun (Hd:Int×List Tgt×Int×List Val×List Exper×List Lay_×List Flg×List Seg×List Prq×Unit) (u0j:Int×List Tgt×Int×List Val×List Exper×List Lay_×List Flg×List Seg×List Prq×Unit->Prop)=>Qc list Hd.2.2.1 (3:Int) fun y1b u0k=>Cnd (Hd.1<y1b) (Qc list u0k ((1:Int)+J7) fun z0x u14=>InI ((1:Int)+z0x)/\q4j list u14 fun Z3 y1c=>Jn1 (fun (q02:ByteArray×Int×List ByteArray×List Prq×List Seg×List Flg×List Lay_×List Exper×List Val×List Tgt×Unit)=>Fits q02.2.2.1->Cnd ((0:Int)<(↑q02.2.2.1.length:Int)) (Sml (q02.2.2.2.2.2.2.2.2.2.1++[Tgt.mk q02.1 ((1:Int)+z0x) q02.2.2.1]).length/\InI (Hd.1+1)/\u0j (Hd.1+1,q02.2.2.2.2.2.2.2.2.2.1++[Tgt.mk q02.1 ((1:Int)+z0x) q02.2.2.1],q02.2.1,q02.2.2.2.2.2.2.2.2.1,q02.2.2.2.2.2.2.2.1,q02.2.2.2.2.2.2.1,q02.2.2.2.2.2.1,q02.2.2.2.2.1,q02.2.2.2.1,())) (InI (Hd.1+1)/\u0j (Hd.1+1,q02.2.2.2.2.2.2.2.2.2.1,q02.2.1,q02.2.2.2.2.2.2.2.2.1,q02.2.2.2.2.2.2.2.1,q02.2.2.2.2.2.2.1,q02.2.2.2.2.2.1,q02.2.2.2.2.1,q02.2.2.2.1,()))) fun (u0l:ByteArray×Int×List ByteArray×List Prq×List Seg×List Flg×List Lay_×List Exper×List Val×List Tgt×Unit->Prop)=>Qc list y1c (4:Int) fun u15 u0m=>Cnd (u15=1) (u0l (ByteArray.mk (Array.mk [100,101,118,105,99,101]),u0m,Z3,Hd.2.2.2.2.2.2.2.2.1,Hd.2.2.2.2.2.2.2.1,Hd.2.2.2.2.2.2.1,Hd.2.2.2.2.2.1,Hd.2.2.2.2.1,Hd.2.2.2.1,Hd.2.1,())) (u0l (ByteArray.mk (Array.mk [117,115,101,114]),u0m,Z3,Hd.2.2.2.2.2.2.2.2.1,Hd.2.2.2.2.2.2.2.1,Hd.2.2.2.2.2.2.1,Hd.2.2.2.2.2.1,Hd.2.2.2.2.1,Hd.2.2.2.1,Hd.2.1,()))) (Jn1 (fun (z0x:Int×List Rul×List ByteArray×List Prq×List Seg×List Flg×List Lay_×List Exper×List Val×List Tgt×Unit)=>z5k list z0x.1 ((1:Int)+J7) fun Z3 y1c=>Sml (z0x.2.2.2.2.2.1++[Flg.mk y7 ((1:Int)+Qr) z0x.2.2.2.2.2.2.2.2.1 (decide (Hr<5)) ((1:Int)+Q8) z0x.2.2.2.1 z0x.2.2.2.2.2.2.2.2.2.1 z0x.2.1 Z3]).length/\InI (Qn.1+1)/\j6d (Qn.1+1,y1c,z0x.2.2.2.2.2.1++[Flg.mk y7 ((1:Int)+Qr) z0x.2.2.2.2.2.2.2.2.1 (decide (Hr<5)) ((1:Int)+Q8) z0x.2.2.2.1 z0x.2.2.2.2.2.2.2.2.2.1 z0x.2.1 Z3],z0x.2.2.2.2.1,z0x.2.2.2.2.2.2.1,z0x.2.2.2.2.2.2.2.1,())) fun (y8e:Int×List Rul×List ByteArray×List Prq×List Seg×List Flg×List Lay_×List Exper×List Val×List Tgt×Unit->Prop)=>LpH (fun (Z3:Int×Int×List Rul×List ByteArray×List Prq×List Seg×List Flg×List Lay_×List Exper×List Val×List Tgt×Unit) (u16:Int×Int×List Rul×List ByteArray×List Prq×List Seg×List Flg×List Lay_×List Exper×List Val×List Tgt×Unit->Prop)=>Qc list Z3.2.1 (5:Int) fun q02 v55=>Cnd (Z3.1<q02) (At Z3.2.2.2.1 Z3.1 fun y21=>Rt (Envt.mk (Sett.mk Zo w5l j9z) y1g Z3.2.2.2.2.2.1 Z3.2.2.2.2.2.2.1 Z3.2.2.2.2.2.2.2.1 Z3.2.2.2.2.2.2.2.2.1) fun u17=>q4k list v55 u17 (3:Int) fun Zg u18=>z5k list u18 ((1:Int)+J7) fun z2o y1d=>Sml (Z3.2.2.1++[Rul.mk y21 (Ex.mk Zg.1 Zg.2 Zg.3 Zg.4 Zg.5) z2o]).length/\Z9 (Z3.2.2.1++[Rul.mk y21 (Ex.mk Zg.1 Zg.2 Zg.3 Zg.4 Zg.5) z2o]) fun u0n _ u19=>Cnd (u19=true) (Fits u0n->Cnd ((0:Int)<(↑u0n.length:Int)) ((Z3.2.2.1++[Rul.mk y21 (Ex.mk Zg.1 Zg.2 Zg.3 Zg.4 Zg.5) z2o]).length<=(9223372036854775807:Nat)->InI ((↑(Z3.2.2.1++[Rul.mk y21 (Ex.mk Zg.1 Zg.2 Zg.3 Zg.4 Zg.5) z2o]).length:Int) - 1)/\((0:Int)<=(↑(Z3.2.2.1++[Rul.mk y21 (Ex.mk Zg.1 Zg.2 Zg.3 Zg.4 Zg.5) z2o]).length:Int) - 1/\(↑(Z3.2.2.1++[Rul.mk y21 (Ex.mk Zg.1 Zg.2 Zg.3 Zg.4 Zg.5) z2o]).length:Int) - 1<=(↑(Z3.2.2.1++[Rul.mk y21 (Ex.mk Zg.1 Zg.2 Zg.3 Zg.4 Zg.5) z2o]).length:Int))/\y8e (y1d,List.take ((↑(Z3.2.2.1++[Rul.mk y21 (Ex.mk Zg.1 Zg.2 Zg.3 Zg.4 Zg.5) z2o]).length:Int) - 1).toNat (Z3.2.2.1++[Rul.mk y21 (Ex.mk Zg.1 Zg.2 Zg.3 Zg.4 Zg.5) z2o]),Z3.2.2.2.1,Z3.2.2.2.2.1,Z3.2.2.2.2.2.1,Z3.2.2.2.2.2.2.1,Z3.2.2.2.2.2.2.2.1,Z3.2.2.2.2.2.2.2.2.1,Z3.2.2.2.2.2.2.2.2.2.1,Z3.2.2.2.2.2.2.2.2.2.2.1,())) (InI (Z3.1+1)/\u16 (Z3.1+1,y1d,Z3.2.2.1++[Rul.mk y21 (Ex.mk Zg.1 Zg.2 Zg.3 Zg.4 Zg.5) z2o],Z3.2.2.2.1,Z3.2.2.2.2.1,Z3.2.2.2.2.2.1,Z3.2.2.2.2.2.2.1,Z3.2.2.2.2.2.2.2.1,Z3.2.2.2.2.2.2.2.2.1,Z3.2.2.2.2.2.2.2.2.2.1,Z3.2.2.2.2.2.2.2.2.2.2.1,()))) ((Z3.2.2.1++[Rul.mk y21 (Ex.mk Zg.1 Zg.2 Zg.3 Zg.4 Zg.5) z2o]).length<=(9223372036854775807:Nat)->InI ((↑(Z3.2.2.1++[Rul.mk y21 (Ex.mk Zg.1 Zg.2 Zg.3 Zg.4 Zg.5) z2o]).length:Int) - 1)/\((0:Int)<=(↑(Z3.2.2.1++[Rul.mk y21 (Ex.mk Zg.1 Zg.2 Zg.3 Zg.4 Zg.5) z2o]).length:Int) - 1/\(↑(Z3.2.2.1++[Rul.mk y21 (Ex.mk Zg.1 Zg.2 Zg.3 Zg.4 Zg.5) z2o]).length:Int) - 1<=(↑(Z3.2.2.1++[Rul.mk y21 (Ex.mk Zg.1 Zg.2 Zg.3 Zg.4 Zg.5) z2o]).length:Int))/\y8e (y1d,List.take ((↑(Z3.2.2.1++[Rul.mk y21 (Ex.mk Zg.1 Zg.2 Zg.3 Zg.4 Zg.5) z2o]).length:Int) - 1).toNat (Z3.2.2.1++[Rul.mk y21 (Ex.mk Zg.1 Zg.2 Zg.3 Zg.4 Zg.5) z2o]),Z3.2.2.2.1,Z3.2.2.2.2.1,Z3.2.2.2.2.2.1,Z3.2.2.2.2.2.2.1,Z3.2.2.2.2.2.2.2.1,Z3.2.2.2.2.2.2.2.2.1,Z3.2.2.2.2.2.2.2.2.2.1,Z3.2.2.2.2.2.2.2.2.2.2.1,()))) (y8e (v55,Z3.2.2.1,Z3.2.2.2.1,Z3.2.2.2.2.1,Z3.2.2.2.2.2.1,Z3.2.2.2.2.2.2.1,Z3.2.2.2.2.2.2.2.1,Z3.2.2.2.2.2.2.2.2.1,Z3.2.2.2.2.2.2.2.2.2.1,Z3.2.2.2.2.2.2.2.2.2.2.1,()))) ((0:Int),u0k,[],[ByteArray.mk (Array.mk [102,105,114,115,116]),ByteArray.mk (Array.mk [115,101,99,111,110,100]),ByteArray.mk (Array.mk [116,104,105,114,100]),ByteArray.mk (Array.mk [102,111,117,114,116,104])],Hd.2.2.2.2.2.2.2.2.1,Hd.2.2.2.2.2.2.2.1,Hd.2.2.2.2.2.2.1,Hd.2.2.2.2.2.1,Hd.2.2.2.2.1,Hd.2.2.2.1,Hd.2.1,()))) ((0:Int),[],J8.2.2.1,J8.2.2.2.2.2.2.2.1,J8.2.2.2.2.2.2.1,J8.2.2.2.2.2.1,J8.2.2.2.2.1,J8.2.2.2.1,J8.2.1,()))) ((0:Int),[],j9x,U6.2.2.2.2.2.2.1,U6.2.2.2.2.2.1,U6.2.2.2.2.1,U6.2.2.2.1,U6.2.2.1,()))) ((0:Int),j9w,[],Qn.2.2.2.2.2.1,Qn.2.2.2.2.1,Qn.2.2.1,Qn.2.2.2.1,())) (Qc list Qn.2.1 (3:Int) fun W5 z6t=>q20 W5 [ByteArray.mk (Array.mk [108,97]),ByteArray.mk (Array.mk [108,98])] fun Uf=>LpH (fun (Qr:Int×Int×List Lay_×List Exper×List Seg×List Flg×Unit) (u0g:Int×Int×List Lay_×List Exper×List Seg×List Flg×Unit->Prop)=>Fits Uf->CAt Uf Qr.1 (fun y11=>j1q list Qr.2.1 y11 fun Q8 j9x=>Sml (Qr.2.2.1++[Q8]).length/\InI (Qr.1+1)/\u0g (Qr.1+1,j9x,Qr.2.2.1++[Q8],Qr.2.2.2.1,Qr.2.2.2.2.1,Qr.2.2.2.2.2.1,())) (Qc list Qr.2.1 (4:Int) fun J7 j9w=>q20 J7 [ByteArray.mk (Array.mk [120,97]),ByteArray.mk (Array.mk [120,98]),ByteArray.mk (Array.mk [120,99])] fun U6=>LpH (fun (Q8:Int×Int×List Exper×List Flg×List Seg×List Lay_×Unit) (u0o:Int×Int×List Exper×List Flg×List Seg×List Lay_×Unit->Prop)=>Fits U6->Cnd (Q8.1<(↑U6.length:Int)) (Fits Q8.2.2.2.1->Cnd ((0:Int)<(↑Q8.2.2.2.1.length:Int)) (Fits Q8.2.2.2.2.2.1->Cnd ((0:Int)<(↑Q8.2.2.2.2.2.1.length:Int)) (At U6 Q8.1 fun y17=>Fits Q8.2.2.2.1->Qc list Q8.2.1 (↑Q8.2.2.2.1.length:Int) fun q02 v55=>At Q8.2.2.2.1 q02 fun y21=>Fits Q8.2.2.2.2.2.1->Fits y21.3->Qc list v55 (↑Q8.2.2.2.2.2.1.length:Int) fun z2o y1d=>At Q8.2.2.2.2.2.1 z2o fun y26=>Wk list y1d fun w0y u2a=>Qc list u2a (3:Int) fun y4f u2b=>InI ((1:Int)+y4f)/\q21 list u2b (↑y21.3.length:Int) fun y8f u0p=>Jn1 (fun (q5u:Int×Int×List Rng×List Exper×List Lay_×List Flg×List Seg×Unit)=>Jn1 (fun (Zf:Int×ByteArray×ByteArray×List Val×List Ex×Int×List Seg×List Flg×List Lay_×List Exper×List Rng×Unit)=>z6l (Envt.mk (Sett.mk Zo w5l j9z) y1g Zf.2.2.2.2.2.2.1 Zf.2.2.2.2.2.2.2.1 Zf.2.2.2.2.2.2.2.2.1 Zf.2.2.2.2.2.2.2.2.2.1) y26.1 now fun (y8g:List Spn) (_:Int)=>Wu list Zf.2.2.2.2.2.1 (8000:Int) fun (y8h u2c:Int)=>Wu list u2c (8000:Int) fun (v1p y8i:Int)=>Gq y8g [Spn.mk y8h v1p] fun (u2d:List Spn)=>Wu list y8i (7000:Int) fun (u2e u0q:Int)=>z2n u2d u2e fun (w0z:List Spn)=>Sml (Zf.2.2.2.2.2.2.2.2.2.1++[Exper.mk y17 y26.1 y21.1 w0y q5u.1 w0z Zf.2.2.2.2.2.2.2.2.2.2.1 (Ex.mk Zf.1 Zf.2.1 Zf.2.2.1 Zf.2.2.2.1 Zf.2.2.2.2.1)]).length/\Wo (Envt.mk (Sett.mk Zo w5l j9z) y1g Zf.2.2.2.2.2.2.1 Zf.2.2.2.2.2.2.2.1 Zf.2.2.2.2.2.2.2.2.1 (Zf.2.2.2.2.2.2.2.2.2.1++[Exper.mk y17 y26.1 y21.1 w0y q5u.1 w0z Zf.2.2.2.2.2.2.2.2.2.2.1 (Ex.mk Zf.1 Zf.2.1 Zf.2.2.1 Zf.2.2.2.1 Zf.2.2.2.2.1)])) fun (u2f:Bool)=>Cnd (u2f=true) (InI (Q8.1+1)/\u0o (Q8.1+1,u0q,Zf.2.2.2.2.2.2.2.2.2.1++[Exper.mk y17 y26.1 y21.1 w0y q5u.1 w0z Zf.2.2.2.2.2.2.2.2.2.2.1 (Ex.mk Zf.1 Zf.2.1 Zf.2.2.1 Zf.2.2.2.1 Zf.2.2.2.2.1)],Zf.2.2.2.2.2.2.2.1,Zf.2.2.2.2.2.2.1,Zf.2.2.2.2.2.2.2.2.1,())) ((Zf.2.2.2.2.2.2.2.2.2.1++[Exper.mk y17 y26.1 y21.1 w0y q5u.1 w0z Zf.2.2.2.2.2.2.2.2.2.2.1 (Ex.mk Zf.1 Zf.2.1 Zf.2.2.1 Zf.2.2.2.1 Zf.2.2.2.2.1)]).length<=(9223372036854775807:Nat)->InI ((↑(Zf.2.2.2.2.2.2.2.2.2.1++[Exper.mk y17 y26.1 y21.1 w0y q5u.1 w0z Zf.2.2.2.2.2.2.2.2.2.2.1 (Ex.mk Zf.1 Zf.2.1 Zf.2.2.1 Zf.2.2.2.1 Zf.2.2.2.2.1)]).length:Int) - 1)/\((0:Int)<=(↑(Zf.2.2.2.2.2.2.2.2.2.1++[Exper.mk y17 y26.1 y21.1 w0y q5u.1 w0z Zf.2.2.2.2.2.2.2.2.2.2.1 (Ex.mk Zf.1 Zf.2.1 Zf.2.2.1 Zf.2.2.2.1 Zf.2.2.2.2.1)]).length:Int) - 1/\(↑(Zf.2.2.2.2.2.2.2.2.2.1++[Exper.mk y17 y26.1 y21.1 w0y q5u.1 w0z Zf.2.2.2.2.2.2.2.2.2.2.1 (Ex.mk Zf.1 Zf.2.1 Zf.2.2.1 Zf.2.2.2.1 Zf.2.2.2.2.1)]).length:Int) - 1<=(↑(Zf.2.2.2.2.2.2.2.2.2.1++[Exper.mk y17 y26.1 y21.1 w0y q5u.1 w0z Zf.2.2.2.2.2.2.2.2.2.2.1 (Ex.mk Zf.1 Zf.2.1 Zf.2.2.1 Zf.2.2.2.1 Zf.2.2.2.2.1)]).length:Int))/\InI (Q8.1+1)/\u0o (Q8.1+1,u0q,List.take ((↑(Zf.2.2.2.2.2.2.2.2.2.1++[Exper.mk y17 y26.1 y21.1 w0y q5u.1 w0z Zf.2.2.2.2.2.2.2.2.2.2.1 (Ex.mk Zf.1 Zf.2.1 Zf.2.2.1 Zf.2.2.2.1 Zf.2.2.2.2.1)]).length:Int) - 1).toNat (Zf.2.2.2.2.2.2.2.2.2.1++[Exper.mk y17 y26.1 y21.1 w0y q5u.1 w0z Zf.2.2.2.2.2.2.2.2.2.2.1 (Ex.mk Zf.1 Zf.2.1 Zf.2.2.1 Zf.2.2.2.1 Zf.2.2.2.2.1)]),Zf.2.2.2.2.2.2.2.1,Zf.2.2.2.2.2.2.1,Zf.2.2.2.2.2.2.2.2.1,()))) fun (u0r:Int×ByteArray×ByteArray×List Val×List Ex×Int×List Seg×List Flg×List Lay_×List Exper×List Rng×Unit->Prop)=>Qc list q5u.2.1 (2:Int) fun (y8g u0s:Int)=>Cnd (y8g=1) (Rt (Envt.mk (Sett.mk Zo w5l j9z) y1g q5u.2.2.2.2.2.2.1 q5u.2.2.2.2.2.1 q5u.2.2.2.2.1 q5u.2.2.2.1) fun (y8h:List ByteArray)=>q4k list u0s y8h (2:Int) fun (v1p:Ex) (y8i:Int)=>u0r (v1p.1,v1p.2,v1p.3,v1p.4,v1p.5,y8i,q5u.2.2.2.2.2.2.1,q5u.2.2.2.2.2.1,q5u.2.2.2.2.1,q5u.2.2.2.1,q5u.2.2.1,())) (u0r ((1:Int),ByteArray.mk (Array.mk []),ByteArray.mk (Array.mk []),[],[],u0s,q5u.2.2.2.2.2.2.1,q5u.2.2.2.2.2.1,q5u.2.2.2.2.1,q5u.2.2.2.1,q5u.2.2.1,()))) fun (y8j:Int×Int×List Rng×List Exper×List Lay_×List Flg×List Seg×Unit->Prop)=>Cnd ((1:Int)+y4f=1) (Qc list u0p (2:Int) fun Zf u0t=>Cnd (Zf=0) (y8j ((2:Int),u0t,y8f,Q8.2.2.1,Q8.2.2.2.2.2.1,Q8.2.2.2.1,Q8.2.2.2.2.1,())) (y8j ((1:Int)+y4f,u0t,y8f,Q8.2.2.1,Q8.2.2.2.2.2.1,Q8.2.2.2.1,Q8.2.2.2.2.1,()))) (y8j ((1:Int)+y4f,u0p,y8f,Q8.2.2.1,Q8.2.2.2.2.2.1,Q8.2.2.2.1,Q8.2.2.2.2.1,()))) (Wo (Envt.mk (Sett.mk Zo w5l j9z) y1g Q8.2.2.2.2.1 Q8.2.2.2.1 Q8.2.2.2.2.2.1 Q8.2.2.1) fun y1b=>Cnd (y1b=true) (K (Envt.mk (Sett.mk Zo w5l j9z) y1g Q8.2.2.2.2.1 Q8.2.2.2.1 Q8.2.2.2.2.2.1 Q8.2.2.1) Q8.2.1) (Q3 fun z0x=>K (Envt.mk (Sett.mk (ByteArray.mk (Array.mk [])) (ByteArray.mk (Array.mk [])) (0:Int)) z0x [] [] [] []) Q8.2.1))) (Wo (Envt.mk (Sett.mk Zo w5l j9z) y1g Q8.2.2.2.2.1 Q8.2.2.2.1 Q8.2.2.2.2.2.1 Q8.2.2.1) fun Hd=>Cnd (Hd=true) (K (Envt.mk (Sett.mk Zo w5l j9z) y1g Q8.2.2.2.2.1 Q8.2.2.2.1 Q8.2.2.2.2.2.1 Q8.2.2.1) Q8.2.1) (Q3 fun y1b=>K (Envt.mk (Sett.mk (ByteArray.mk (Array.mk [])) (ByteArray.mk (Array.mk [])) (0:Int)) y1b [] [] [] []) Q8.2.1))) (Wo (Envt.mk (Sett.mk Zo w5l j9z) y1g Q8.2.2.2.2.1 Q8.2.2.2.1 Q8.2.2.2.2.2.1 Q8.2.2.1) fun j1o=>Cnd (j1o=true) (K (Envt.mk (Sett.mk Zo w5l j9z) y1g Q8.2.2.2.2.1 Q8.2.2.2.1 Q8.2.2.2.2.2.1 Q8.2.2.1) Q8.2.1) (Q3 fun Hd=>K (Envt.mk (Sett.mk (ByteArray.mk (Array.mk [])) (ByteArray.mk (Array.mk [])) (0:Int)) Hd [] [] [] []) Q8.2.1))) ((0:Int),j9w,Qr.2.2.2.1,Qr.2.2.2.2.2.1,Qr.2.2.2.2.1,Qr.2.2.1,()))) ((0:Int),z6t,Qn.2.2.2.2.1,Qn.2.2.2.2.2.1,Qn.2.2.2.1,Qn.2.2.1,()))) ((0:Int),Ue,u2w,u2v,u2x,u2y,())) fun w2f=>Qc list at_ (2:Int) fun Qg Zo=>Cnd (Qg=1) (Wk list Zo fun Qh Ue=>Wu list Ue (2500:Int) fun Qf J1=>w2f (Qh,ByteArray.mk (Array.mk [117,115,101,114]),Qf,J1,Qb,())) (w2f (ByteArray.mk (Array.mk []),ByteArray.mk (Array.mk []),(0:Int),Zo,Qb,()))
def Rg:Rf:=q7v Jz q4w Zd z5x Un z08 z3i Hu z09 J4 z3m q1m q66 z0c q52 q0l q7h Ud
abbrev q4d:Type:=(Envt->Prop)->Prop
def q4e:q4d:=fun K=>K (Envt.mk (Sett.mk (ByteArray.mk (Array.mk [])) (ByteArray.mk (Array.mk [])) (0:Int)) [] [] [Flg.mk (ByteArray.mk (Array.mk [102])) (1:Int) [Val.mk (1:Int) (0:Int) (ByteArray.mk (Array.mk [])) [],Val.mk (1:Int) (1:Int) (ByteArray.mk (Array.mk [])) []] true (1:Int) [] [] [] (Srv.mk (1:Int) (ByteArray.mk (Array.mk [])) (ByteArray.mk (Array.mk [])) (ByteArray.mk (Array.mk [])) [])] [Lay_.mk (ByteArray.mk (Array.mk [108])) (ByteArray.mk (Array.mk [117,115,101,114])) (ByteArray.mk (Array.mk [])) (0:Int) (0:Int) []] [Exper.mk (ByteArray.mk (Array.mk [120])) (ByteArray.mk (Array.mk [108])) (ByteArray.mk (Array.mk [102])) (ByteArray.mk (Array.mk [])) (2:Int) [Spn.mk (0:Int) (10000:Int)] [Rng.mk (0:Int) (10000:Int) (2:Int)] (Ex.mk (1:Int) (ByteArray.mk (Array.mk [])) (ByteArray.mk (Array.mk [])) [] [])])
abbrev Uv:Type:=Subj->ByteArray->(Int->Prop)->Prop
def Vd:Uv:=fun s kind K=>Fits s.1->Lp1 (fun Qd q1d=>CAt s.1 Qd (fun y2=>Cnd (y2.1=kind) (K Qd) (InI (Qd+1)/\q1d (Qd+1))) (K (-1:Int))) (0:Int)
abbrev Vy:Type:=Val->(Val->Prop)->Prop
def Wa:Vy:=fun v K=> ∀n0,(n0=true->v.4=[])->Cnd (n0=true) (K (Val.mk v.1 v.2 v.3 [])) (Sml ([]++v.4).length/\K (Val.mk v.1 v.2 v.3 ([]++v.4)))
abbrev Uw:Type:=Attr->(Attr->Prop)->Prop
def q3n (Zy:Vy):Uw:=fun a K=>Zy (Val.mk a.2.1 a.2.2 a.2.3 a.2.4) fun Qb=>K (Attr.mk a.1 Qb)
def Ux:Uw:=q3n Wa
abbrev Rh:Type:=Ctxt->(Ctxt->Prop)->Prop
def q7w (Bj:Uw):Rh:=fun c K=>Fits c.3->((0:Int)<=(0:Int)/\(0:Int)<=(↑c.3.length:Int)/\Sml (↑c.3.length:Int).toNat)/\(Fits c.3->Lp2 (fun Qg Zo q6w=>CAt c.3 Zo (fun y3=>Bj (Attr.mk y3.1 (Val.mk y3.2.1 y3.2.2 y3.2.3 y3.2.4)) fun Qn=>Sml (Qg++[Attr.mk Qn.1 (Val.mk Qn.2.1 Qn.2.2 Qn.2.3 Qn.2.4)]).length/\InI (Zo+1)/\q6w (Qg++[Attr.mk Qn.1 (Val.mk Qn.2.1 Qn.2.2 Qn.2.3 Qn.2.4)]) (Zo+1)) (K (Ctxt.mk c.1 c.2 Qg))) (List.replicate (Int.toNat (0:Int)) (Attr.mk (ByteArray.mk (Array.mk [])) (Val.mk (0:Int) (0:Int) (ByteArray.mk (Array.mk [])) []))) (0:Int))
def Ri:Rh:=q7w Ux
abbrev Wb:Type:=Subj->ByteArray->(Ctxt->Bool->Prop)->Prop
def q9i (Jw:Uv) (q29:Rh):Wb:=fun s kind K=>Jw (Subj.mk s.1) kind fun Qb=>Cnd (Qb<0) (K (Ctxt.mk (ByteArray.mk (Array.mk [])) (ByteArray.mk (Array.mk [])) []) false) (At s.1 Qb fun y1=>q29 y1 fun Qh=>K Qh true)
def Wc:Wb:=q9i Vd Ri
abbrev q4f:Type:=List (List Int)->(List (Int)->Prop)->Prop
def Bz:q4f:=fun fields K=>Fits fields->Lp2 (fun Qd Z2 z5i=>CAt fields Z2 (fun y2=>Lp2 (fun Qf J1 w8k=>Cnd ((0:Int)<=J1) (Fits y2->InI ((8:Int)*J1)/\(0:Int)<=(8:Int)*J1/\Sml (Qf++[Go.IntKind.u8.wrap ((Go.IntKind.u64.wrap (↑y2.length:Int)).fdiv ((2:Int) ^ Min.min ((8:Int)*J1).toNat (64:Nat)))]).length/\InI (J1 - 1)/\w8k (Qf++[Go.IntKind.u8.wrap ((Go.IntKind.u64.wrap (↑y2.length:Int)).fdiv ((2:Int) ^ Min.min ((8:Int)*J1).toNat (64:Nat)))]) (J1 - 1)) (Sml (Qf++y2).length/\InI (Z2+1)/\z5i (Qf++y2) (Z2+1))) Qd (7:Int)) (K Qd)) [] (0:Int)
abbrev Gc:Type:=Int->Int->(Int->Prop)->Prop
def Ve:Gc:=fun x k K=>(0:Int)<=Go.IntKind.u64.wrap (↑(BitVec.ofInt (64:Nat) (Go.IntKind.u64.wrap k) &&& BitVec.ofInt (64:Nat) (63:Int)).toNat:Int)/\(0:Int)<=Go.IntKind.u64.wrap ((64:Int) - Go.IntKind.u64.wrap (↑(BitVec.ofInt (64:Nat) (Go.IntKind.u64.wrap k) &&& BitVec.ofInt (64:Nat) (63:Int)).toNat:Int))/\K (Go.IntKind.u64.wrap (↑(BitVec.ofInt (64:Nat) (Go.IntKind.u64.wrap (x*2 ^ Min.min (Go.IntKind.u64.wrap (↑(BitVec.ofInt (64:Nat) (Go.IntKind.u64.wrap k) &&& BitVec.ofInt (64:Nat) (63:Int)).toNat:Int)).toNat (64:Nat)))|||BitVec.ofInt (64:Nat) (x.fdiv ((2:Int) ^ Min.min (Go.IntKind.u64.wrap ((64:Int) - Go.IntKind.u64.wrap (↑(BitVec.ofInt (64:Nat) (Go.IntKind.u64.wrap k) &&& BitVec.ofInt (64:Nat) (63:Int)).toNat:Int))).toNat (64:Nat)))).toNat:Int))
abbrev Je:Type:=Int->Int->Int->Int->Int->(Int->Int->Int->Int->Prop)->Prop
def Bq (Zr:Gc):Je:=fun v0 v1 v2 v3 n K=>Lp5 (fun Qb Qz j1e q5x w5j y8t=>Cnd (Qb<n) (Zr j1e (13:Int) fun Qd=>Zr (Go.IntKind.u64.wrap (Qz+j1e)) (32:Int) fun Qg=>Zr w5j (16:Int) fun Qh=>Zr (Go.IntKind.u64.wrap (↑(BitVec.ofInt (64:Nat) Qh ^^^ BitVec.ofInt (64:Nat) (Go.IntKind.u64.wrap (q5x+w5j))).toNat:Int)) (21:Int) fun Qf=>Zr (Go.IntKind.u64.wrap (↑(BitVec.ofInt (64:Nat) Qd ^^^ BitVec.ofInt (64:Nat) (Go.IntKind.u64.wrap (Qz+j1e))).toNat:Int)) (17:Int) fun Qn=>Zr (Go.IntKind.u64.wrap (Go.IntKind.u64.wrap (q5x+w5j)+Go.IntKind.u64.wrap (↑(BitVec.ofInt (64:Nat) Qd ^^^ BitVec.ofInt (64:Nat) (Go.IntKind.u64.wrap (Qz+j1e))).toNat:Int))) (32:Int) fun Jb=>InI (Qb+1)/\y8t (Qb+1) (Go.IntKind.u64.wrap (Qg+Go.IntKind.u64.wrap (↑(BitVec.ofInt (64:Nat) Qh ^^^ BitVec.ofInt (64:Nat) (Go.IntKind.u64.wrap (q5x+w5j))).toNat:Int))) (Go.IntKind.u64.wrap (↑(BitVec.ofInt (64:Nat) Qn ^^^ BitVec.ofInt (64:Nat) (Go.IntKind.u64.wrap (Go.IntKind.u64.wrap (q5x+w5j)+Go.IntKind.u64.wrap (↑(BitVec.ofInt (64:Nat) Qd ^^^ BitVec.ofInt (64:Nat) (Go.IntKind.u64.wrap (Qz+j1e))).toNat:Int)))).toNat:Int)) Jb (Go.IntKind.u64.wrap (↑(BitVec.ofInt (64:Nat) Qf ^^^ BitVec.ofInt (64:Nat) (Go.IntKind.u64.wrap (Qg+Go.IntKind.u64.wrap (↑(BitVec.ofInt (64:Nat) Qh ^^^ BitVec.ofInt (64:Nat) (Go.IntKind.u64.wrap (q5x+w5j))).toNat:Int)))).toNat:Int))) (K Qz j1e q5x w5j)) (0:Int) v0 v1 v2 v3
def Q9:Je:=Bq Ve
abbrev Vz:Type:=Int->Int->Int->Int->Int->(Int->Int->Int->Int->Prop)->Prop
def q14 (Zk:Je):Vz:=fun v0 v1 v2 v3 m K=>Zk v0 v1 v2 (Go.IntKind.u64.wrap (↑(BitVec.ofInt (64:Nat) v3 ^^^ BitVec.ofInt (64:Nat) m).toNat:Int)) (2:Int) fun Qb Qz j1e q5x=>K (Go.IntKind.u64.wrap (↑(BitVec.ofInt (64:Nat) Qb ^^^ BitVec.ofInt (64:Nat) m).toNat:Int)) Qz j1e q5x
def V0:Vz:=q14 Q9
abbrev q45:Type:=Int->Int->List (Int)->(Int->Prop)->Prop
def z3y (Ua:Vz) (Zk:Je):q45:=fun k0 k1 b K=>Fits b->(0:Int)<=(56:Int)/\Lp5 (fun Qd Z2 j1c j33 y8o u0d=>InI (Qd+8)/\(Fits b->Cnd (Qd+8<=(↑b.length:Int)) (Lp2 (fun Qh Ue j5l=>Cnd (Ue<8) (InI (Qd+Ue)/\At b (Qd+Ue) fun y4=>InI ((8:Int)*Ue)/\(0:Int)<=(8:Int)*Ue/\InI (Ue+1)/\j5l (Go.IntKind.u64.wrap (↑(BitVec.ofInt (64:Nat) Qh|||BitVec.ofInt (64:Nat) (Go.IntKind.u64.wrap (Go.IntKind.u64.wrap y4*2 ^ Min.min ((8:Int)*Ue).toNat (64:Nat)))).toNat:Int)) (Ue+1)) (Ua Z2 j1c j33 y8o Qh fun Qf J1 j1h y1f=>InI (Qd+8)/\u0d (Qd+8) Qf J1 j1h y1f)) (0:Int) (0:Int)) (Fits b->(8:Int)≠(0:Int)/\Lp2 (fun Qf J1 w8k=>Cnd (J1<(↑b.length:Int).tmod (8:Int)) (Fits b->Fits b->(8:Int)≠(0:Int)/\InI ((↑b.length:Int) - (↑b.length:Int).tmod (8:Int))/\InI ((↑b.length:Int) - (↑b.length:Int).tmod (8:Int)+J1)/\((0:Int)<=(↑b.length:Int) - (↑b.length:Int).tmod (8:Int)+J1/\(↑b.length:Int) - (↑b.length:Int).tmod (8:Int)+J1<(↑b.length:Int))/\ ∀y7,b[((↑b.length:Int) - (↑b.length:Int).tmod (8:Int)+J1).toNat]? =some y7->InI ((8:Int)*J1)/\(0:Int)<=(8:Int)*J1/\InI (J1+1)/\w8k (Go.IntKind.u64.wrap (↑(BitVec.ofInt (64:Nat) Qf|||BitVec.ofInt (64:Nat) (Go.IntKind.u64.wrap (Go.IntKind.u64.wrap y7*2 ^ Min.min ((8:Int)*J1).toNat (64:Nat)))).toNat:Int)) (J1+1)) (Ua Z2 j1c j33 y8o Qf fun Qn q8k u1x u2z=>Zk Qn q8k (Go.IntKind.u64.wrap (↑(BitVec.ofInt (64:Nat) u1x ^^^ BitVec.ofInt (64:Nat) (255:Int)).toNat:Int)) u2z (4:Int) fun Jb z9a y5g y76=>K (Go.IntKind.u64.wrap (↑(BitVec.ofInt (64:Nat) (Go.IntKind.u64.wrap (↑(BitVec.ofInt (64:Nat) (Go.IntKind.u64.wrap (↑(BitVec.ofInt (64:Nat) Jb ^^^ BitVec.ofInt (64:Nat) z9a).toNat:Int)) ^^^ BitVec.ofInt (64:Nat) y5g).toNat:Int)) ^^^ BitVec.ofInt (64:Nat) y76).toNat:Int)))) (Go.IntKind.u64.wrap (Go.IntKind.u64.wrap (↑b.length:Int)*2 ^ Min.min (Int.toNat (56:Int)) (64:Nat))) (0:Int)))) (0:Int) (Go.IntKind.u64.wrap (↑(BitVec.ofInt (64:Nat) k0 ^^^ BitVec.ofInt (64:Nat) (8317987319222330741:Int)).toNat:Int)) (Go.IntKind.u64.wrap (↑(BitVec.ofInt (64:Nat) k1 ^^^ BitVec.ofInt (64:Nat) (7237128888997146477:Int)).toNat:Int)) (Go.IntKind.u64.wrap (↑(BitVec.ofInt (64:Nat) k0 ^^^ BitVec.ofInt (64:Nat) (7816392313619706465:Int)).toNat:Int)) (Go.IntKind.u64.wrap (↑(BitVec.ofInt (64:Nat) k1 ^^^ BitVec.ofInt (64:Nat) (8387220255154660723:Int)).toNat:Int))
def q46:q45:=z3y V0 Q9
abbrev q15:Type:=Int->List (List Int)->(Int->Prop)->Prop
def z1f (q4p:q4f) (q89:q45):q15:=fun domain fields K=>q4p fields fun Qb=>q89 domain (0:Int) Qb fun Qd=>K Qd
def q16:q15:=z1f Bz q46
abbrev q0n:Type:=ByteArray->ByteArray->(Int->Prop)->Prop
def z73 (q6k:q15):q0n:=fun salt key K=>Sml salt.size/\Sml key.size/\q6k (1:Int) [List.map (fun b=>(↑b.toNat:Int)) (salt,key,()).1.data.toList,List.map (fun b=>(↑b.toNat:Int)) (salt,key,()).2.1.data.toList] fun Qb=>(10000:Int)≠(0:Int)/\InI (Qb.tmod (10000:Int))/\K (Qb.tmod (10000:Int))
def Gd:q0n:=z73 q16
abbrev Rj:Type:=List (Frc)->ByteArray->(Frc->Bool->Prop)->Prop
def Uy:Rj:=fun l layer K=>Fits l->Lp4 (fun Qd Z2 j1c j33 u20=>CAt l Qd (fun y2=>Cnd (y2.1=layer) (K y2 true) (InI (Qd+1)/\u20 (Qd+1) Z2 j1c j33)) (K (Frc.mk (ByteArray.mk (Array.mk [])) (ByteArray.mk (Array.mk [])) (0:Int)) false)) (0:Int) (ByteArray.mk (Array.mk [])) (ByteArray.mk (Array.mk [])) (0:Int)
abbrev q55:Type:=Envt->Frc->(Bool->Prop)->Prop
def q17:q55:=fun v f K=>Fits v.6->Lp1 (fun Qd q1d=>CAt v.6 Qd (fun y2=>Cnd (y2.1=f.2) (Cnd (y2.2=f.1) (Cnd (y2.5=2) (Fits y2.7->Lp1 (fun Qn j6d=>CAt y2.7 Qn (fun y6=>Cnd (y6.3=f.3) (Cnd ((0:Int)<=Qn) (K (decide ((0:Int)<=Qd))) (InI (Qd+1)/\q1d (Qd+1))) (InI (Qn+1)/\j6d (Qn+1))) (Cnd ((0:Int)<=(-1:Int)) (K (decide ((0:Int)<=Qd))) (InI (Qd+1)/\q1d (Qd+1)))) (0:Int)) (InI (Qd+1)/\q1d (Qd+1))) (InI (Qd+1)/\q1d (Qd+1))) (InI (Qd+1)/\q1d (Qd+1))) (K (decide ((0:Int)<=(-1:Int))))) (0:Int)
abbrev R3:Type:=Envt->Subj->(Bool->Prop)->Prop
def z1g (Zn:Wb) (Uh:q0n):R3:=fun v s K=>Cnd (v.1.3<=0) (K false) (Zn (Subj.mk s.1) v.1.2 fun Qb Qz=>Cnd (Qz=true) (Uh v.1.1 Qb.2 fun Qd=>K (decide (Qd<v.1.3))) (K false))
def R4:R3:=z1g Wc Gd
abbrev R5:Type:=Int->(Bool->Prop)->Prop
def V1:R5:=fun op K=>Cnd ((6:Int)<=op) (K (decide (op<=15))) (K false)
abbrev Zb:Type:=List (ByteArray)->List (ByteArray)->(Bool->Prop)->Prop
def Q1:Zb:=fun s1 s2 K=>Fits s1->Fits s2->Cnd ((↑s1.length:Int)=(↑s2.length:Int)) (Fits s1->Lp1 (fun Qh z9b=>CAt s1 Qh (fun y4=>At s2 Qh fun y6=>Cnd (y4=y6) (InI (Qh+1)/\z9b (Qh+1)) (K false)) (K true)) (0:Int)) (K false)
abbrev q47:Type:=Val->Val->(Bool->Prop)->Prop
def z3z (Qp:Zb):q47:=fun a b K=>Cnd (a.1=b.1) (Cnd (a.2=b.2) (Cnd (a.3=b.3) (Qp a.4 b.4 fun Qb=>K Qb) (K false)) (K false)) (K false)
def q1a:q47:=z3z Q1
abbrev Rk:Type:=Ex->Ex->(Bool->Prop)->Prop
def z74 (q9a:q47) (X:Rk):Rk:=fun a b K=>Cnd (a.1=b.1) (Cnd (a.2=b.2) (Cnd (a.3=b.3) (Fits a.4->Fits b.4->Cnd ((↑a.4.length:Int)=(↑b.4.length:Int)) (Fits a.4->Lp1 (fun Qh z9b=>CAt a.4 Qh (fun y4=>At b.4 Qh fun y6=>q9a y4 y6 fun Uf=>Cnd (Uf=true) (InI (Qh+1)/\z9b (Qh+1)) (K false)) (Fits a.5->Fits b.5->Cnd ((↑a.5.length:Int)=(↑b.5.length:Int)) (Fits a.5->Lp1 (fun W5 y77=>CAt a.5 W5 (fun y8=>At b.5 W5 fun y10=>X (Ex.mk y8.1 y8.2 y8.3 y8.4 y8.5) (Ex.mk y10.1 y10.2 y10.3 y10.4 y10.5) fun U6=>Cnd (U6=true) (InI (W5+1)/\y77 (W5+1)) (K false)) (K true)) (0:Int)) (K false))) (0:Int)) (K false)) (K false)) (K false)) (K false)
def q0o:Rk:=fun a b K=> ∀X:Rk,(∀a b K,z74 q1a X a b K->X a b K)->X a b K
abbrev W4:Type:=List (Ex)->Ex->(List (Ex)->Prop)->Prop
def q9j (Ww:R5) (q8j:Rk) (X:W4):W4:=fun l e K=>Jn1 (fun Qb=>Fits e.5->Lp2 (fun Qg Zo q6w=>CAt e.5 Zo (fun y3=>X Qg (Ex.mk y3.1 y3.2 y3.3 y3.4 y3.5) fun Qn=>InI (Zo+1)/\q6w Qn (Zo+1)) (K Qg)) Qb (0:Int)) fun z0y=>Ww e.1 fun Qd=>Cnd (Qd=true) (Fits l->Lp1 (fun Qh z9b=>CAt l Qh (fun y4=>q8j (Ex.mk y4.1 y4.2 y4.3 y4.4 y4.5) (Ex.mk e.1 e.2 e.3 e.4 e.5) fun Jb=>Cnd (Jb=true) (Cnd ((0:Int)<=Qh) (z0y l) (Sml (l++[Ex.mk e.1 e.2 e.3 e.4 e.5]).length/\z0y (l++[Ex.mk e.1 e.2 e.3 e.4 e.5]))) (InI (Qh+1)/\z9b (Qh+1))) (Cnd ((0:Int)<=(-1:Int)) (z0y l) (Sml (l++[Ex.mk e.1 e.2 e.3 e.4 e.5]).length/\z0y (l++[Ex.mk e.1 e.2 e.3 e.4 e.5])))) (0:Int)) (Cnd (e.1=5) (Fits l->Lp1 (fun Qh z9b=>CAt l Qh (fun y4=>q8j (Ex.mk y4.1 y4.2 y4.3 y4.4 y4.5) (Ex.mk e.1 e.2 e.3 e.4 e.5) fun Jb=>Cnd (Jb=true) (Cnd ((0:Int)<=Qh) (z0y l) (Sml (l++[Ex.mk e.1 e.2 e.3 e.4 e.5]).length/\z0y (l++[Ex.mk e.1 e.2 e.3 e.4 e.5]))) (InI (Qh+1)/\z9b (Qh+1))) (Cnd ((0:Int)<=(-1:Int)) (z0y l) (Sml (l++[Ex.mk e.1 e.2 e.3 e.4 e.5]).length/\z0y (l++[Ex.mk e.1 e.2 e.3 e.4 e.5])))) (0:Int)) (z0y l))
def B0:W4:=fun l e K=> ∀X:W4,(∀l e K,q9j V1 q0o X l e K->X l e K)->X l e K
abbrev U8:Type:=Ex->(Ex->Prop)->Prop
def z30 (Zy:Vy) (X:U8):U8:=fun e K=>Fits e.4->((0:Int)<=(0:Int)/\(0:Int)<=(↑e.4.length:Int)/\Sml (↑e.4.length:Int).toNat)/\(Fits e.4->Lp2 (fun Qg Zo q6w=>CAt e.4 Zo (fun y3=>Zy y3 fun Qn=>Sml (Qg++[Qn]).length/\InI (Zo+1)/\q6w (Qg++[Qn]) (Zo+1)) (Fits e.5->((0:Int)<=(0:Int)/\(0:Int)<=(↑e.5.length:Int)/\Sml (↑e.5.length:Int).toNat)/\(Fits e.5->Lp2 (fun Qn q8k u0i=>CAt e.5 q8k (fun y6=>X (Ex.mk y6.1 y6.2 y6.3 y6.4 y6.5) fun Uf=>Sml (Qn++[Ex.mk Uf.1 Uf.2 Uf.3 Uf.4 Uf.5]).length/\InI (q8k+1)/\u0i (Qn++[Ex.mk Uf.1 Uf.2 Uf.3 Uf.4 Uf.5]) (q8k+1)) (K (Ex.mk e.1 e.2 e.3 Qg Qn))) (List.replicate (Int.toNat (0:Int)) (Ex.mk (0:Int) (ByteArray.mk (Array.mk [])) (ByteArray.mk (Array.mk [])) [] [])) (0:Int)))) (List.replicate (Int.toNat (0:Int)) (Val.mk (0:Int) (0:Int) (ByteArray.mk (Array.mk [])) [])) (0:Int))
def q48:U8:=fun e K=> ∀X:U8,(∀e K,z30 Wa X e K->X e K)->X e K
abbrev B1:Type:=Ex->(List (Ex)->Prop)->Prop
def q9k (q4q:W4) (q9b:U8):B1:=fun e K=>q4q [] (Ex.mk e.1 e.2 e.3 e.4 e.5) fun Qb=>Fits Qb->((0:Int)<=(0:Int)/\(0:Int)<=(↑Qb.length:Int)/\Sml (↑Qb.length:Int).toNat)/\(Fits Qb->Lp2 (fun Qh Ue j5l=>CAt Qb Ue (fun y4=>q9b (Ex.mk y4.1 y4.2 y4.3 y4.4 y4.5) fun Jb=>Sml (Qh++[Ex.mk Jb.1 Jb.2 Jb.3 Jb.4 Jb.5]).length/\InI (Ue+1)/\j5l (Qh++[Ex.mk Jb.1 Jb.2 Jb.3 Jb.4 Jb.5]) (Ue+1)) (K Qh)) (List.replicate (Int.toNat (0:Int)) (Ex.mk (0:Int) (ByteArray.mk (Array.mk [])) (ByteArray.mk (Array.mk [])) [] [])) (0:Int))
def q4g:B1:=q9k B0 q48
abbrev Zv:Type:=List (ByteArray)->(List (ByteArray)->Prop)->Prop
def Ze (x:List (ByteArray)) (K:List (ByteArray)->Prop):Prop:=K (srt x)
abbrev J6:Type:=List (ByteArray)->(List (ByteArray)->Prop)->Prop
def Z7 (s:List (ByteArray)) (K:List (ByteArray)->Prop):Prop:=K (cpt s)
abbrev G4:Type:=Ex->(List (ByteArray)->Prop)->Prop
def q5m (q4r:B1) (Qs:Zv) (Ja:J6):G4:=fun e K=>q4r (Ex.mk e.1 e.2 e.3 e.4 e.5) fun Qb=>Fits Qb->Lp2 (fun Qg Zo q6w=>CAt Qb Zo (fun y3=>Cnd (y3.1=5) (Sml (Qg++[y3.3]).length/\InI (Zo+1)/\q6w (Qg++[y3.3]) (Zo+1)) (InI (Zo+1)/\q6w Qg (Zo+1))) (Qs Qg fun Qh=>Ja Qh fun Qf=>K Qf)) [] (0:Int)
def G5:G4:=q5m q4g Ze Z7
abbrev z1h:Type:=List (ByteArray)->List (Edg)->(List (ByteArray)->Int->Prop)->Prop
def P_graph_Order (nodes:List (ByteArray)) (edges:List (Edg)) (K:List (ByteArray)->Int->Prop):Prop:=Go.Fl.P_graph_Order nodes (edges.map fun e=>(e.1,e.2)) K
abbrev Rl:Type:=List (Seg)->(List (ByteArray)->Int->Prop)->Prop
def q7x (q0g:G4) (q6l:z1h):Rl:=fun l K=>Fits l->Lp3 (fun Qd Z2 j1c y4c=>CAt l j1c (fun y2=>Sml (Qd++[y2.1]).length/\q0g (Ex.mk y2.5.1 y2.5.2 y2.5.3 y2.5.4 y2.5.5) fun Qf=>Fits Qf->Lp2 (fun Jb z9a y75=>CAt Qf z9a (fun y7=>Sml (Jb++[Edg.mk y2.1 y7]).length/\InI (z9a+1)/\y75 (Jb++[Edg.mk y2.1 y7]) (z9a+1)) (InI (j1c+1)/\y4c (Qd++[y2.1]) Jb (j1c+1))) Z2 (0:Int)) (q6l Qd Z2 fun Qg Zo=>K Qg Zo)) [] [] (0:Int)
def Rm:Rl:=q7x G5 P_graph_Order
abbrev G6:Type:=Subj->ByteArray->ByteArray->(Val->Bool->Prop)->Prop
def q5n (Jw:Uv) (Zy:Vy):G6:=fun s kind name K=>Jw (Subj.mk s.1) kind fun Qb=>Cnd (Qb<0) (K (Val.mk (0:Int) (0:Int) (ByteArray.mk (Array.mk [])) []) false) (At s.1 Qb fun y1=>Cnd (name=ByteArray.mk (Array.mk [107,101,121])) (K (Val.mk (3:Int) (0:Int) y1.2 []) true) (Fits y1.3->Lp5 (fun Qf J1 j1h y1f (u1w:List ByteArray) u0y=>CAt y1.3 Qf (fun y5=>Cnd (y5.1=name) (Zy (Val.mk y5.2.1 y5.2.2 y5.2.3 y5.2.4) fun W5=>K W5 true) (InI (Qf+1)/\u0y (Qf+1) J1 j1h y1f u1w)) (K (Val.mk (0:Int) (0:Int) (ByteArray.mk (Array.mk [])) []) false)) (0:Int) (0:Int) (0:Int) (ByteArray.mk (Array.mk [])) []))
def G7:G6:=q5n Vd Wa
abbrev q18:Type:=Val->Val->(Bool->Prop)->Prop
def z1i (Qp:Zb):q18:=fun a b K=>Cnd (a.1=b.1) (Cnd (a.2=b.2) (Cnd (a.3=b.3) (Qp a.4 b.4 fun Qb=>K Qb) (K false)) (K false)) (K false)
def R6:q18:=z1i Q1
abbrev Z8:Type:=ByteArray->ByteArray->(Bool->Prop)->Prop
def Zq:Z8:=fun s prefix_ K=>Cnd ((↑prefix_.size:Int)<=(↑s.size:Int)) (((0:Int)<=(0:Int)/\(0:Int)<=(↑prefix_.size:Int)/\(↑prefix_.size:Int)<=(↑s.size:Int))/\K (decide (s.extract (Int.toNat (0:Int)) (↑prefix_.size:Int).toNat=prefix_))) (K false)
abbrev Vf:Type:=ByteArray->ByteArray->(Bool->Prop)->Prop
def q0p (Q6:Z8):Vf:=fun s prefix_ K=>Q6 s prefix_ fun Qb=>K Qb
def Vg:Vf:=q0p Zq
abbrev Wq:Type:=ByteArray->ByteArray->(Bool->Prop)->Prop
def Wr:Wq:=fun s suffix K=>Cnd ((↑suffix.size:Int)<=(↑s.size:Int)) (InI ((↑s.size:Int) - (↑suffix.size:Int))/\((0:Int)<=(↑s.size:Int) - (↑suffix.size:Int)/\(↑s.size:Int) - (↑suffix.size:Int)<=(↑s.size:Int)/\(↑s.size:Int)<=(↑s.size:Int))/\K (decide (s.extract ((↑s.size:Int) - (↑suffix.size:Int)).toNat (↑s.size:Int).toNat=suffix))) (K false)
abbrev Vh:Type:=ByteArray->ByteArray->(Bool->Prop)->Prop
def q0q (Wx:Wq):Vh:=fun s suffix K=>Wx s suffix fun Qb=>K Qb
def Vi:Vh:=q0q Wr
abbrev q19:Type:=ByteArray->ByteArray->(Bool->Prop)->Prop
def Hj (s:ByteArray) (substr:ByteArray) (K:Bool->Prop):Prop:=s.size<4294967281/\K (Go.Lib.contains s.data.toList substr.data.toList)
abbrev q56:Type:=Val->(Bool->Prop)->Prop
def q2a:q56:=fun v K=>Jn1 (fun Qb=>Cnd (Qb=true) (Cnd (v.3=ByteArray.mk (Array.mk [])) (Fits v.4->K (decide ((↑v.4.length:Int)=0))) (K false)) (Jn1 (fun Qd=>Cnd (Qd=true) (Cnd (v.2=0) (Fits v.4->K (decide ((↑v.4.length:Int)=0))) (K false)) (Cnd (v.2=0) (K (decide (v.3=ByteArray.mk (Array.mk [])))) (K false))) fun w2f=>Cnd (v.1=3) (w2f (decide (v.1=3))) (w2f (decide (v.1=4))))) fun z0y=>Cnd (v.1=1) (z0y (decide (v.1=1))) (z0y (decide (v.1=2)))
abbrev q49:Type:=ByteArray->(Bool->Prop)->Prop
def z32 (Zx:Vv):q49:=fun s K=>Cnd ((200:Int)<(↑s.size:Int)) (K false) (Zx s fun Qb=>Cnd (Qb=true) (Lp1 (fun (Qd:ByteArray×Nat) q1d=>Cnd (Qd.2<Qd.1.size) (Cnd ((↑(Go.Utf8.decode Qd.1 Qd.2).1:Int)<(32:Int)) (K false) (Cnd ((↑(Go.Utf8.decode Qd.1 Qd.2).1:Int)=(127:Int)) (K false) (q1d (Qd.1,Qd.2+(Go.Utf8.decode Qd.1 Qd.2).2)))) (K true)) (s,(0:Nat))) (K false))
def q5a:q49:=z32 Jt
abbrev q7y:Type:=ByteArray->ByteArray->(List (ByteArray)->Prop)->Prop
def q2b (s:ByteArray) (sep:ByteArray) (K:List (ByteArray)->Prop):Prop:=sep.size=1/\s.size<4294967281/\K (q04 s sep)
abbrev Ju:Type:=ByteArray->ByteArray->(ByteArray->Bool->Prop)->Prop
def Ge (Q6:Z8):Ju:=fun s prefix_ K=>Q6 s prefix_ fun Qb=>Cnd (Qb=true) (((0:Int)<=(↑prefix_.size:Int)/\(↑prefix_.size:Int)<=(↑s.size:Int)/\(↑s.size:Int)<=(↑s.size:Int))/\K (s.extract (↑prefix_.size:Int).toNat (↑s.size:Int).toNat) true) (K s false)
def Ws:Ju:=Ge Zq
abbrev Vj:Type:=ByteArray->ByteArray->(ByteArray->Bool->Prop)->Prop
def q0r (Wy:Ju):Vj:=fun s prefix_ K=>Wy s prefix_ fun Qb Qz=>K Qb Qz
def Vk:Vj:=q0r Ws
abbrev q9l:Type:=ByteArray->(Int->Bool->Prop)->Prop
def B2 (s:ByteArray) (K:Int->Bool->Prop):Prop:=s.size<=281474976710656/\y3i s K
abbrev V2:Type:=ByteArray->(Int->Int->Prop)->Prop
def q2c (Gs:Vj) (B7:q9l):V2:=fun s K=>Gs s (ByteArray.mk (Array.mk [45])) fun Qb Qz=>Cnd (Qb=ByteArray.mk (Array.mk [])) (K (0:Int) (1:Int)) (((0:Int)<=(0:Int)/\(0:Int)<(↑Qb.size:Int))/\ ∀b1,Qb[Int.toNat (0:Int)]? =some b1->Cnd ((↑b1.toNat:Int)=48) (Cnd ((1:Int)<(↑Qb.size:Int)) (K (0:Int) (1:Int)) (Cnd (Qz=true) (K (0:Int) (1:Int)) (Lp1 (fun (Qh:ByteArray×Nat) z9b=>Cnd (Qh.2<Qh.1.size) (Cnd ((↑(Go.Utf8.decode Qh.1 Qh.2).1:Int)<(48:Int)) (K (0:Int) (1:Int)) (Cnd ((57:Int)<(↑(Go.Utf8.decode Qh.1 Qh.2).1:Int)) (K (0:Int) (1:Int)) (z9b (Qh.1,Qh.2+(Go.Utf8.decode Qh.1 Qh.2).2)))) (B7 s fun Qf J1=>Cnd ((match (Qf,J1,()).2.1 with|true=>false|false=>true)=true) (K (0:Int) (3:Int)) (Cnd (Qf<(-1099511627776:Int)) (K (0:Int) (3:Int)) (Cnd ((1099511627776:Int)<Qf) (K (0:Int) (3:Int)) (K Qf (0:Int)))))) (Qb,(0:Nat))))) (Lp1 (fun (Qh:ByteArray×Nat) z9b=>Cnd (Qh.2<Qh.1.size) (Cnd ((↑(Go.Utf8.decode Qh.1 Qh.2).1:Int)<(48:Int)) (K (0:Int) (1:Int)) (Cnd ((57:Int)<(↑(Go.Utf8.decode Qh.1 Qh.2).1:Int)) (K (0:Int) (1:Int)) (z9b (Qh.1,Qh.2+(Go.Utf8.decode Qh.1 Qh.2).2)))) (B7 s fun Qf J1=>Cnd ((match (Qf,J1,()).2.1 with|true=>false|false=>true)=true) (K (0:Int) (3:Int)) (Cnd (Qf<(-1099511627776:Int)) (K (0:Int) (3:Int)) (Cnd ((1099511627776:Int)<Qf) (K (0:Int) (3:Int)) (K Qf (0:Int)))))) (Qb,(0:Nat))))
def V3:V2:=q2c Vk B2
abbrev Gf:Type:=ByteArray->(A3->Bool->Prop)->Prop
def z1j (q3a:q7y) (Hm:V2):Gf:=fun s K=>q3a s (ByteArray.mk (Array.mk [46])) fun Qb=>Fits Qb->Cnd ((↑Qb.length:Int)=3) (Fits Qb->LpH (fun (Qh:Int×Int×Int×Int×Int×Int×Int×Unit) z9b=>CAt Qb Qh.1 (fun y4=>Hm y4 fun Jb z9a=>Cnd (z9a=0) (Cnd (Jb<0) (K ((0:Int),(0:Int),(0:Int)) false) (Cnd ((999999:Int)<Jb) (K ((0:Int),(0:Int),(0:Int)) false) (((0:Int)<=Qh.1/\Qh.1<(↑(3:Nat):Int))/\((True/\(Qh.1=(↑(nat_lit 0):Int)->InI (Qh.1+1)/\z9b (Qh.1+1,Jb,Qh.2.2.1,Qh.2.2.2.1,Qh.2.2.2.2.1,Qh.2.2.2.2.2.1,Qh.2.2.2.2.2.2.1,())))/\(Qh.1=(↑(nat_lit 1):Int)->InI (Qh.1+1)/\z9b (Qh.1+1,Qh.2.1,Jb,Qh.2.2.2.1,Qh.2.2.2.2.1,Qh.2.2.2.2.2.1,Qh.2.2.2.2.2.2.1,())))/\(Qh.1=(↑(nat_lit 2):Int)->InI (Qh.1+1)/\z9b (Qh.1+1,Qh.2.1,Qh.2.2.1,Jb,Qh.2.2.2.2.1,Qh.2.2.2.2.2.1,Qh.2.2.2.2.2.2.1,()))))) (K ((0:Int),(0:Int),(0:Int)) false)) (K (Qh.2.1,Qh.2.2.1,Qh.2.2.2.1) true)) ((0:Int),(0:Int),(0:Int),(0:Int),(0:Int),(0:Int),(0:Int),())) (K ((0:Int),(0:Int),(0:Int)) false)
def Gg:Gf:=z1j q2b V3
abbrev q2d:Type:=Val->(Int->Prop)->Prop
def z1k (q6m:q56) (q5h:q49) (Wg:Gf):q2d:=fun v K=>Cnd (v.1<1) (K (7:Int)) (Cnd ((5:Int)<v.1) (K (7:Int)) (q6m v fun Qb=>Cnd (Qb=true) (Cnd (v.1=1) (Cnd (v.2=0) (K (0:Int)) (Cnd (v.2=1) (K (0:Int)) (K (3:Int)))) (Cnd (v.1=2) (Cnd (v.2<(-1099511627776:Int)) (K (3:Int)) (Cnd ((1099511627776:Int)<v.2) (K (3:Int)) (K (0:Int)))) (Cnd (v.1=3) (q5h v.3 fun Qd=>Cnd (Qd=true) (K (0:Int)) (K (2:Int))) (Cnd (v.1=4) (Wg v.3 fun (_:Int×Int×Int) Z2=>Cnd (Z2=true) (K (0:Int)) (K (1:Int))) (Cnd (v.1=5) (Fits v.4->Cnd ((20:Int)<(↑v.4.length:Int)) (K (5:Int)) (Fits v.4->Lp1 (fun Qh z9b=>CAt v.4 Qh (fun y4=>q5h y4 fun Jb=>Cnd (Jb=true) (InI (Qh+1)/\z9b (Qh+1)) (K (2:Int))) (Fits v.4->Lp1 (fun Qn j6d=>Cnd (Qn<(↑v.4.length:Int)) (Cnd ((0:Int)<Qn) (InI (Qn - 1)/\((0:Int)<=Qn - 1/\Qn - 1<(↑v.4.length:Int))/\ ∀y6,v.4[(Qn - 1).toNat]? =some y6->At v.4 Qn fun y8=>Cnd (Lk.blt y6 y8) (InI (Qn+1)/\j6d (Qn+1)) (K (9:Int))) (InI (Qn+1)/\j6d (Qn+1))) (K (0:Int))) (0:Int))) (0:Int))) (K (0:Int))))))) (K (15:Int))))
def q2e:q2d:=z1k q2a q5a Gg
abbrev Rn:Type:=Val->Val->(Int->Int->Prop)->Prop
def q7z (q3b:q2d) (Wg:Gf):Rn:=fun a b K=>q3b a fun Qb=>Cnd (Qb=0) (q3b b fun Qd=>Cnd (Qd=0) (Cnd (a.1=b.1) (Cnd (a.1=1) (K (0:Int) (8:Int)) (Cnd (a.1=5) (K (0:Int) (8:Int)) (Cnd (a.1=2) (Cnd (a.2=a.2) (Cnd (b.2=b.2) (Cnd (a.2<b.2) (K (-1:Int) (0:Int)) (Cnd (b.2<a.2) (K (1:Int) (0:Int)) (K (0:Int) (0:Int)))) (K (1:Int) (0:Int))) (Cnd (b.2=b.2) (K (-1:Int) (0:Int)) (K (0:Int) (0:Int)))) (Cnd (a.1=3) (Cnd (a.3=a.3) (Cnd (b.3=b.3) (Cnd (Lk.blt a.3 b.3) (K (-1:Int) (0:Int)) (Cnd (Lk.blt b.3 a.3) (K (1:Int) (0:Int)) (K (0:Int) (0:Int)))) (K (1:Int) (0:Int))) (Cnd (b.3=b.3) (K (-1:Int) (0:Int)) (K (0:Int) (0:Int)))) (Wg a.3 fun (Qg:Int×Int×Int) _=>Wg b.3 fun (Qh:Int×Int×Int) _=>([Qg.1,Qg.2.1,Qg.2.2].length<=(9223372036854775807:Nat)->Lp1 (fun Qn j6d=>Cnd (Qn<(↑[Qg.1,Qg.2.1,Qg.2.2].length:Int)) (((0:Int)<=Qn/\Qn<(↑[Qg.1,Qg.2.1,Qg.2.2].length:Int))/\ ∀y6,[Qg.1,Qg.2.1,Qg.2.2][Qn.toNat]? =some y6->[Qh.1,Qh.2.1,Qh.2.2].length<=(9223372036854775807:Nat)->Cnd ((↑[Qh.1,Qh.2.1,Qh.2.2].length:Int)<=Qn) (K (1:Int) (0:Int)) (((0:Int)<=Qn/\Qn<(↑[Qh.1,Qh.2.1,Qh.2.2].length:Int))/\ ∀y9,[Qh.1,Qh.2.1,Qh.2.2][Qn.toNat]? =some y9->Cnd (y6=y6) (Cnd (y9=y9) (Cnd (y6<y9) (Cnd ((-1:Int)=(0:Int)) (InI (Qn+1)/\j6d (Qn+1)) (K (-1:Int) (0:Int))) (Cnd (y9<y6) (Cnd ((1:Int)=(0:Int)) (InI (Qn+1)/\j6d (Qn+1)) (K (1:Int) (0:Int))) (Cnd ((0:Int)=(0:Int)) (InI (Qn+1)/\j6d (Qn+1)) (K (0:Int) (0:Int))))) (Cnd ((1:Int)=(0:Int)) (InI (Qn+1)/\j6d (Qn+1)) (K (1:Int) (0:Int)))) (Cnd (y9=y9) (Cnd ((-1:Int)=(0:Int)) (InI (Qn+1)/\j6d (Qn+1)) (K (-1:Int) (0:Int))) (Cnd ((0:Int)=(0:Int)) (InI (Qn+1)/\j6d (Qn+1)) (K (0:Int) (0:Int)))))) ([Qg.1,Qg.2.1,Qg.2.2].length<=(9223372036854775807:Nat)->[Qh.1,Qh.2.1,Qh.2.2].length<=(9223372036854775807:Nat)->Cnd ((↑[Qg.1,Qg.2.1,Qg.2.2].length:Int)<(↑[Qh.1,Qh.2.1,Qh.2.2].length:Int)) (K (-1:Int) (0:Int)) (K (0:Int) (0:Int)))) (0:Int))/\([Qg.1,Qg.2.1,Qg.2.2].length<=(9223372036854775807:Nat)->Lp1 (fun Qn j6d=>Cnd (Qn<(↑[Qg.1,Qg.2.1,Qg.2.2].length:Int)) (((0:Int)<=Qn/\Qn<(↑[Qg.1,Qg.2.1,Qg.2.2].length:Int))/\ ∀y6,[Qg.1,Qg.2.1,Qg.2.2][Qn.toNat]? =some y6->[Qh.1,Qh.2.1,Qh.2.2].length<=(9223372036854775807:Nat)->Cnd ((↑[Qh.1,Qh.2.1,Qh.2.2].length:Int)<=Qn) (K (1:Int) (0:Int)) (((0:Int)<=Qn/\Qn<(↑[Qh.1,Qh.2.1,Qh.2.2].length:Int))/\ ∀y9,[Qh.1,Qh.2.1,Qh.2.2][Qn.toNat]? =some y9->Cnd (y6=y6) (Cnd (y9=y9) (Cnd (y6<y9) (Cnd ((-1:Int)=(0:Int)) (InI (Qn+1)/\j6d (Qn+1)) (K (-1:Int) (0:Int))) (Cnd (y9<y6) (Cnd ((1:Int)=(0:Int)) (InI (Qn+1)/\j6d (Qn+1)) (K (1:Int) (0:Int))) (Cnd ((0:Int)=(0:Int)) (InI (Qn+1)/\j6d (Qn+1)) (K (0:Int) (0:Int))))) (Cnd ((1:Int)=(0:Int)) (InI (Qn+1)/\j6d (Qn+1)) (K (1:Int) (0:Int)))) (Cnd (y9=y9) (Cnd ((-1:Int)=(0:Int)) (InI (Qn+1)/\j6d (Qn+1)) (K (-1:Int) (0:Int))) (Cnd ((0:Int)=(0:Int)) (InI (Qn+1)/\j6d (Qn+1)) (K (0:Int) (0:Int)))))) ([Qg.1,Qg.2.1,Qg.2.2].length<=(9223372036854775807:Nat)->[Qh.1,Qh.2.1,Qh.2.2].length<=(9223372036854775807:Nat)->Cnd ((↑[Qg.1,Qg.2.1,Qg.2.2].length:Int)<(↑[Qh.1,Qh.2.1,Qh.2.2].length:Int)) (K (-1:Int) (0:Int)) (K (0:Int) (0:Int)))) (0:Int))))))) (K (0:Int) (8:Int))) (K (0:Int) Qd)) (K (0:Int) Qb)
def Uz:Rn:=q7z q2e Gg
abbrev q2f:Type:=Subj->Ex->(Bool->Prop)->Prop
def z1l (q0h:G6) (Ww:R5) (Bk:q18) (Gt:Vf) (Gu:Vh) (Hn:q19) (Ru:Rn):q2f:=fun s e K=>q0h (Subj.mk s.1) e.2 e.3 fun Qb Qz=>Cnd (Qz=true) (Ww e.1 fun Qd=>Cnd (Qd=true) (Cnd (e.1=6) (K true) (Cnd (e.1=8) (Fits e.4->Lp1 (fun Qh z9b=>CAt e.4 Qh (fun y4=>Bk Qb y4 fun Jb=>Cnd (Jb=true) (K (decide ((0:Int)<=Qh))) (InI (Qh+1)/\z9b (Qh+1))) (K (decide ((0:Int)<=(-1:Int))))) (0:Int)) (Fits e.4->Cnd ((↑e.4.length:Int)=0) (K false) (((0:Int)<=(0:Int)/\(0:Int)<(↑e.4.length:Int))/\ ∀y3,e.4[Int.toNat (0:Int)]? =some y3->Cnd (Qb.1=3) (Cnd (e.1=7) (Bk Qb y3 fun Qn=>K Qn) (Cnd (e.1=9) (Cnd (y3.1=3) (Gt Qb.3 y3.3 fun Qn=>K Qn) (K false)) (Cnd (e.1=10) (Cnd (y3.1=3) (Gu Qb.3 y3.3 fun Qn=>K Qn) (K false)) (Cnd (e.1=11) (Cnd (y3.1=3) (Hn Qb.3 y3.3 fun Qn=>Cnd (Qn=true) (K true) (Cnd (y3.1=3) (Cnd (Qb.1=5) (Fits Qb.4->Lp1 (fun W5 y77=>CAt Qb.4 W5 (fun y8=>Cnd (y3.3=y8) (K (decide ((0:Int)<=W5))) (InI (W5+1)/\y77 (W5+1))) (K (decide ((0:Int)<=(-1:Int))))) (0:Int)) (K false)) (K false))) (Cnd (y3.1=3) (Cnd (Qb.1=5) (Fits Qb.4->Lp1 (fun Jb y78=>CAt Qb.4 Jb (fun y7=>Cnd (y3.3=y7) (K (decide ((0:Int)<=Jb))) (InI (Jb+1)/\y78 (Jb+1))) (K (decide ((0:Int)<=(-1:Int))))) (0:Int)) (K false)) (K false))) (Ru Qb y3 fun Qn q8k=>Cnd (q8k=0) (Cnd (e.1=12) (K (decide (Qn<0))) (Cnd (e.1=13) (K (decide (Qn<=0))) (Cnd (e.1=14) (K (decide ((0:Int)<Qn))) (K (decide ((0:Int)<=Qn)))))) (K false)))))) (Cnd (e.1=7) (Bk Qb y3 fun Qn=>K Qn) (Cnd (e.1=9) (K false) (Cnd (e.1=10) (K false) (Cnd (e.1=11) (Cnd (y3.1=3) (Cnd (Qb.1=5) (Fits Qb.4->Lp1 (fun Jb y78=>CAt Qb.4 Jb (fun y7=>Cnd (y3.3=y7) (K (decide ((0:Int)<=Jb))) (InI (Jb+1)/\y78 (Jb+1))) (K (decide ((0:Int)<=(-1:Int))))) (0:Int)) (K false)) (K false)) (Ru Qb y3 fun Qn q8k=>Cnd (q8k=0) (Cnd (e.1=12) (K (decide (Qn<0))) (Cnd (e.1=13) (K (decide (Qn<=0))) (Cnd (e.1=14) (K (decide ((0:Int)<Qn))) (K (decide ((0:Int)<=Qn)))))) (K false)))))))))) (K false)) (K false)
def R7:q2f:=z1l G7 V1 R6 Vg Vi Hj Uz
abbrev Wd:Type:=Subj->List (ByteArray)->Ex->(Bool->Prop)->Prop
def z1m (q6n:q2f) (X:Wd):Wd:=fun s in_ e K=>Cnd (e.1=1) (K true) (Cnd (e.1=2) (Fits e.5->Lp1 (fun Qd q1d=>CAt e.5 Qd (fun y2=>X (Subj.mk s.1) in_ (Ex.mk y2.1 y2.2 y2.3 y2.4 y2.5) fun Qf=>Cnd (Qf=true) (InI (Qd+1)/\q1d (Qd+1)) (K (match decide ((0:Int)<=Qd) with|true=>false|false=>true))) (K true)) (0:Int)) (Cnd (e.1=3) (Fits e.5->Lp1 (fun Qd q1d=>CAt e.5 Qd (fun y2=>X (Subj.mk s.1) in_ (Ex.mk y2.1 y2.2 y2.3 y2.4 y2.5) fun Qf=>Cnd (Qf=true) (K (decide ((0:Int)<=Qd))) (InI (Qd+1)/\q1d (Qd+1))) (K (decide ((0:Int)<=(-1:Int))))) (0:Int)) (Cnd (e.1=4) (Fits e.5->Cnd ((0:Int)<(↑e.5.length:Int)) (((0:Int)<=(0:Int)/\(0:Int)<(↑e.5.length:Int))/\ ∀y1,e.5[Int.toNat (0:Int)]? =some y1->X (Subj.mk s.1) in_ (Ex.mk y1.1 y1.2 y1.3 y1.4 y1.5) fun Qh=>K (match decide ((Qh,()).1=true) with|true=>false|false=>true)) (K false)) (Cnd (e.1=5) (Fits in_->Lp1 (fun Qd q1d=>CAt in_ Qd (fun y2=>Cnd (e.3=y2) (K (decide ((0:Int)<=Qd))) (InI (Qd+1)/\q1d (Qd+1))) (K (decide ((0:Int)<=(-1:Int))))) (0:Int)) (q6n (Subj.mk s.1) (Ex.mk e.1 e.2 e.3 e.4 e.5) fun Qb=>K Qb)))))
def Gh:Wd:=fun s in_ e K=> ∀X:Wd,(∀s in_ e K,z1m R7 X s in_ e K->X s in_ e K)->X s in_ e K
abbrev V4:Type:=Seg->Subj->List (ByteArray)->(Bool->Prop)->Prop
def q2g (Zn:Wb) (Jl:Wd):V4:=fun g s in_ K=>Zn (Subj.mk s.1) g.2 fun Qb Qz=>Cnd (Qz=true) (Fits g.4->Lp1 (fun Qg j1f=>CAt g.4 Qg (fun y3=>Cnd (Qb.2=y3) (Cnd ((0:Int)<=Qg) (K false) (Fits g.3->Lp1 (fun Jb y78=>CAt g.3 Jb (fun y7=>Cnd (Qb.2=y7) (Cnd ((0:Int)<=Jb) (K true) (Cnd (g.5.1=0) (K false) (Jl (Subj.mk s.1) in_ (Ex.mk g.5.1 g.5.2 g.5.3 g.5.4 g.5.5) fun Qr=>K Qr))) (InI (Jb+1)/\y78 (Jb+1))) (Cnd ((0:Int)<=(-1:Int)) (K true) (Cnd (g.5.1=0) (K false) (Jl (Subj.mk s.1) in_ (Ex.mk g.5.1 g.5.2 g.5.3 g.5.4 g.5.5) fun W5=>K W5)))) (0:Int))) (InI (Qg+1)/\j1f (Qg+1))) (Cnd ((0:Int)<=(-1:Int)) (K false) (Fits g.3->Lp1 (fun Qf w5m=>CAt g.3 Qf (fun y5=>Cnd (Qb.2=y5) (Cnd ((0:Int)<=Qf) (K true) (Cnd (g.5.1=0) (K false) (Jl (Subj.mk s.1) in_ (Ex.mk g.5.1 g.5.2 g.5.3 g.5.4 g.5.5) fun W5=>K W5))) (InI (Qf+1)/\w5m (Qf+1))) (Cnd ((0:Int)<=(-1:Int)) (K true) (Cnd (g.5.1=0) (K false) (Jl (Subj.mk s.1) in_ (Ex.mk g.5.1 g.5.2 g.5.3 g.5.4 g.5.5) fun Qn=>K Qn)))) (0:Int)))) (0:Int)) (K false)
def V5:V4:=q2g Wc Gh
abbrev U0:Type:=List (Seg)->Subj->(List (ByteArray)->Prop)->Prop
def q3o (q3c:Rl) (Ho:V4) (Qs:Zv):U0:=fun l s K=>q3c l fun Qb Qz=>Cnd (Qz=0) (Fits l->Lp2 (fun Qg j1f q6w=>CAt l Qg (fun y3=>InI (Qg+1)/\q6w (Qg+1) (put j1f y3.1 (Seg.mk y3.1 y3.2 y3.3 y3.4 (Ex.mk y3.5.1 y3.5.2 y3.5.3 y3.5.4 y3.5.5)))) (Fits Qb->Lp2 (fun Qf J1 w8k=>CAt Qb J1 (fun y5=>Ho (Seg.mk ((j1f y5).getD (Seg.mk (ByteArray.mk (Array.mk [])) (ByteArray.mk (Array.mk [])) [] [] (Ex.mk (0:Int) (ByteArray.mk (Array.mk [])) (ByteArray.mk (Array.mk [])) [] []))).1 ((j1f y5).getD (Seg.mk (ByteArray.mk (Array.mk [])) (ByteArray.mk (Array.mk [])) [] [] (Ex.mk (0:Int) (ByteArray.mk (Array.mk [])) (ByteArray.mk (Array.mk [])) [] []))).2 ((j1f y5).getD (Seg.mk (ByteArray.mk (Array.mk [])) (ByteArray.mk (Array.mk [])) [] [] (Ex.mk (0:Int) (ByteArray.mk (Array.mk [])) (ByteArray.mk (Array.mk [])) [] []))).3 ((j1f y5).getD (Seg.mk (ByteArray.mk (Array.mk [])) (ByteArray.mk (Array.mk [])) [] [] (Ex.mk (0:Int) (ByteArray.mk (Array.mk [])) (ByteArray.mk (Array.mk [])) [] []))).4 (Ex.mk ((j1f y5).getD (Seg.mk (ByteArray.mk (Array.mk [])) (ByteArray.mk (Array.mk [])) [] [] (Ex.mk (0:Int) (ByteArray.mk (Array.mk [])) (ByteArray.mk (Array.mk [])) [] []))).5.1 ((j1f y5).getD (Seg.mk (ByteArray.mk (Array.mk [])) (ByteArray.mk (Array.mk [])) [] [] (Ex.mk (0:Int) (ByteArray.mk (Array.mk [])) (ByteArray.mk (Array.mk [])) [] []))).5.2 ((j1f y5).getD (Seg.mk (ByteArray.mk (Array.mk [])) (ByteArray.mk (Array.mk [])) [] [] (Ex.mk (0:Int) (ByteArray.mk (Array.mk [])) (ByteArray.mk (Array.mk [])) [] []))).5.3 ((j1f y5).getD (Seg.mk (ByteArray.mk (Array.mk [])) (ByteArray.mk (Array.mk [])) [] [] (Ex.mk (0:Int) (ByteArray.mk (Array.mk [])) (ByteArray.mk (Array.mk [])) [] []))).5.4 ((j1f y5).getD (Seg.mk (ByteArray.mk (Array.mk [])) (ByteArray.mk (Array.mk [])) [] [] (Ex.mk (0:Int) (ByteArray.mk (Array.mk [])) (ByteArray.mk (Array.mk [])) [] []))).5.5)) (Subj.mk s.1) Qf fun W5=>Cnd (W5=true) (Sml (Qf++[y5]).length/\InI (J1+1)/\w8k (Qf++[y5]) (J1+1)) (InI (J1+1)/\w8k Qf (J1+1))) (Qs Qf fun Qn=>K Qn)) [] (0:Int))) (0:Int) fun _=>none) (K [])
def U1:U0:=q3o Rm V5 Ze
abbrev W7:Type:=Envt->Subj->ByteArray->(Bool->Prop)->Prop
def q3p (Bl:U0) (Jl:Wd):W7:=fun v s experiment K=>Fits v.6->Lp1 (fun Qd q1d=>CAt v.6 Qd (fun y2=>Cnd (y2.1=experiment) (Bl v.3 (Subj.mk s.1) fun Qf=>Jl (Subj.mk s.1) Qf (Ex.mk y2.8.1 y2.8.2 y2.8.3 y2.8.4 y2.8.5) fun Qn=>K Qn) (InI (Qd+1)/\q1d (Qd+1))) (K false)) (0:Int)
def W8:W7:=q3p U1 Gh
abbrev q57:Type:=List (Rng)->Int->(Int->Prop)->Prop
def q2h:q57:=fun l bucket K=>Fits l->Lp1 (fun Qd q1d=>CAt l Qd (fun y2=>Cnd (y2.1<=bucket) (Cnd (bucket<y2.2) (K y2.3) (InI (Qd+1)/\q1d (Qd+1))) (InI (Qd+1)/\q1d (Qd+1))) (K (0:Int))) (0:Int)
abbrev We:Type:=Envt->Subj->List (Frc)->ByteArray->(Asg->Int->Prop)->Prop
def q9m (Zn:Wb) (U5:Rj) (Uh:q0n) (q6o:q57) (W9:W7) (Bm:R3) (q6p:q55):We:=fun v s forced key K=>Jn1 (fun Qb=>Cnd (Qb<0) (K (Asg.mk (ByteArray.mk (Array.mk [])) (ByteArray.mk (Array.mk [])) (0:Int) (0:Int) false) (11:Int)) (At v.5 Qb fun y1=>Zn (Subj.mk s.1) y1.2 fun Qh Ue=>Jn1 (fun Qf=>U5 forced key fun Qn q8k=>Jn1 (fun Jb=>Cnd (Jb=true) (Cnd (Qn.2=ByteArray.mk (Array.mk [])) (K (Asg.mk key (ByteArray.mk (Array.mk [])) Qf (0:Int) false) (0:Int)) (K (Asg.mk key Qn.2 Qf Qn.3 false) (0:Int))) (Jn1 (fun W5=>Cnd (W5=true) (K (Asg.mk key (ByteArray.mk (Array.mk [])) Qf (0:Int) true) (0:Int)) (Cnd (Ue=true) (Fits v.6->Lp3 (fun Qr z89 u0w u1v=>CAt v.6 Qr (fun y10=>Jn1 (fun U6=>Jn1 (fun Q8=>Cnd (Q8=true) (Uh y10.4 Qh.2 fun J8=>q6o y10.7 J8 fun j1o=>K (Asg.mk key y10.1 Qf j1o false) (0:Int)) (InI (Qr+1)/\u1v (Qr+1) z89 u0w)) fun y4g=>Cnd (y10.2=key) (Cnd (y10.5=2) (Cnd (U6=true) (W9 (Envt.mk (Sett.mk v.1.1 v.1.2 v.1.3) v.2 v.3 v.4 v.5 v.6) (Subj.mk s.1) y10.1 fun J8=>y4g J8) (y4g false)) (y4g false)) (y4g false)) fun u0u=>Fits y10.6->Lp1 (fun J8 y09=>CAt y10.6 J8 (fun y15=>Cnd (y15.1<=Qf) (Cnd (Qf<y15.2) (u0u (decide ((0:Int)<=J8))) (InI (J8+1)/\y09 (J8+1))) (InI (J8+1)/\y09 (J8+1))) (u0u (decide ((0:Int)<=(-1:Int))))) (0:Int)) (K (Asg.mk key z89 Qf u0w false) (0:Int))) (0:Int) (ByteArray.mk (Array.mk [])) (0:Int)) (K (Asg.mk key (ByteArray.mk (Array.mk [])) Qf (0:Int) false) (0:Int)))) fun y8n=>Bm (Envt.mk (Sett.mk v.1.1 v.1.2 v.1.3) v.2 v.3 v.4 v.5 v.6) (Subj.mk s.1) fun Uf=>Cnd (Uf=true) (y8n true) (Cnd (Ue=true) (y8n (decide (Qf<y1.4))) (y8n false)))) fun y5e=>Cnd (q8k=true) (Cnd (Qn.2=ByteArray.mk (Array.mk [])) (y5e true) (q6p (Envt.mk (Sett.mk v.1.1 v.1.2 v.1.3) v.2 v.3 v.4 v.5 v.6) Qn fun W5=>y5e W5)) (y5e false)) fun v56=>Cnd (Ue=true) (Uh y1.3 Qh.2 fun Qn=>v56 Qn) (v56 (-1:Int)))) fun z0y=>Fits v.5->Lp1 (fun Qg j1f=>CAt v.5 Qg (fun y3=>Cnd (y3.1=key) (z0y Qg) (InI (Qg+1)/\j1f (Qg+1))) (z0y (-1:Int))) (0:Int)
def Wf:We:=q9m Wc Uy Gd q2h W8 R4 q17
abbrev z57:Type:=List (List Int)->(List (Int)->Prop)->Prop
def z0q:z57:=fun fields K=>Lp2 (fun Qb Qz q3e=>Fits fields->CAt fields Qz (fun y2=>Fits y2->Lp2 (fun Qn q8k u0i=>Cnd ((0:Int)<=q8k) ((0:Int)<=Go.IntKind.u64.wrap q8k/\Sml (Qn++[Go.IntKind.u8.wrap ((Go.IntKind.u64.wrap (↑y2.length:Int)).fdiv ((2:Int) ^ Min.min (Go.IntKind.u64.wrap q8k).toNat (64:Nat)))]).length/\InI (q8k - 8)/\u0i (Qn++[Go.IntKind.u8.wrap ((Go.IntKind.u64.wrap (↑y2.length:Int)).fdiv ((2:Int) ^ Min.min (Go.IntKind.u64.wrap q8k).toNat (64:Nat)))]) (q8k - 8)) (At fields Qz fun y6=>Sml (Qn++y6).length/\InI (Qz+1)/\q3e (Qn++y6) (Qz+1))) Qb (56:Int)) (K Qb)) [] (0:Int)
abbrev z1n:Type:=Int->Int->(Int->Prop)->Prop
def q70:z1n:=fun x n K=>(0:Int)<=n/\(0:Int)<=Go.IntKind.u64.wrap ((64:Int) - n)/\K (Go.IntKind.u64.wrap (↑(BitVec.ofInt (64:Nat) (Go.IntKind.u64.wrap (x*2 ^ Min.min n.toNat (64:Nat)))|||BitVec.ofInt (64:Nat) (x.fdiv ((2:Int) ^ Min.min (Go.IntKind.u64.wrap ((64:Int) - n)).toNat (64:Nat)))).toNat:Int))
abbrev G8:Type:=Sip->Int->(Sip->Prop)->Prop
def q5o (Gv:z1n):G8:=fun v n K=>Lp5 (fun Qb Qz j1e q5x w5j y8t=>Cnd (Qb<n) (Gv j1e (13:Int) fun Qd=>Gv (Go.IntKind.u64.wrap (Qz+j1e)) (32:Int) fun Qg=>Gv w5j (16:Int) fun Qh=>Gv (Go.IntKind.u64.wrap (↑(BitVec.ofInt (64:Nat) Qh ^^^ BitVec.ofInt (64:Nat) (Go.IntKind.u64.wrap (q5x+w5j))).toNat:Int)) (21:Int) fun Qf=>Gv (Go.IntKind.u64.wrap (↑(BitVec.ofInt (64:Nat) Qd ^^^ BitVec.ofInt (64:Nat) (Go.IntKind.u64.wrap (Qz+j1e))).toNat:Int)) (17:Int) fun Qn=>Gv (Go.IntKind.u64.wrap (Go.IntKind.u64.wrap (q5x+w5j)+Go.IntKind.u64.wrap (↑(BitVec.ofInt (64:Nat) Qd ^^^ BitVec.ofInt (64:Nat) (Go.IntKind.u64.wrap (Qz+j1e))).toNat:Int))) (32:Int) fun Jb=>InI (Qb+1)/\y8t (Qb+1) (Go.IntKind.u64.wrap (Qg+Go.IntKind.u64.wrap (↑(BitVec.ofInt (64:Nat) Qh ^^^ BitVec.ofInt (64:Nat) (Go.IntKind.u64.wrap (q5x+w5j))).toNat:Int))) (Go.IntKind.u64.wrap (↑(BitVec.ofInt (64:Nat) Qn ^^^ BitVec.ofInt (64:Nat) (Go.IntKind.u64.wrap (Go.IntKind.u64.wrap (q5x+w5j)+Go.IntKind.u64.wrap (↑(BitVec.ofInt (64:Nat) Qd ^^^ BitVec.ofInt (64:Nat) (Go.IntKind.u64.wrap (Qz+j1e))).toNat:Int)))).toNat:Int)) Jb (Go.IntKind.u64.wrap (↑(BitVec.ofInt (64:Nat) Qf ^^^ BitVec.ofInt (64:Nat) (Go.IntKind.u64.wrap (Qg+Go.IntKind.u64.wrap (↑(BitVec.ofInt (64:Nat) Qh ^^^ BitVec.ofInt (64:Nat) (Go.IntKind.u64.wrap (q5x+w5j))).toNat:Int)))).toNat:Int))) (K (Sip.mk Qz j1e q5x w5j))) (0:Int) v.1 v.2 v.3 v.4
def Z1:G8:=q5o q70
abbrev z92:Type:=Int->Int->List (Int)->(Int->Prop)->Prop
def w3n (Vo:G8):z92:=fun k0 k1 b K=>Lp5 (fun Qb Qz j1e q5x w5j y8t=>Fits b->(8:Int)≠(0:Int)/\InI ((↑b.length:Int).tdiv (8:Int))/\Cnd (Qb<=(↑b.length:Int).tdiv (8:Int)) (Lp2 (fun Qg Zo q6w=>Cnd (Zo<8) (InI ((8:Int)*Qb)/\InI ((8:Int)*Qb+Zo)/\(Fits b->Cnd ((8:Int)*Qb+Zo<(↑b.length:Int)) (InI ((8:Int)*Qb)/\InI ((8:Int)*Qb+Zo)/\((0:Int)<=(8:Int)*Qb+Zo/\(8:Int)*Qb+Zo<(↑b.length:Int))/\ ∀y4,b[((8:Int)*Qb+Zo).toNat]? =some y4->InI ((8:Int)*Zo)/\(0:Int)<=Go.IntKind.u64.wrap ((8:Int)*Zo)/\InI (Zo+1)/\q6w (Go.IntKind.u64.wrap (↑(BitVec.ofInt (64:Nat) Qg|||BitVec.ofInt (64:Nat) (Go.IntKind.u64.wrap (Go.IntKind.u64.wrap y4*2 ^ Min.min (Go.IntKind.u64.wrap ((8:Int)*Zo)).toNat (64:Nat)))).toNat:Int)) (Zo+1)) (Jn1 (fun Qf=>Vo (Sip.mk Qz j1e q5x (Go.IntKind.u64.wrap (↑(BitVec.ofInt (64:Nat) w5j ^^^ BitVec.ofInt (64:Nat) Qf).toNat:Int))) (2:Int) fun Qn=>InI (Qb+1)/\y8t (Qb+1) (Go.IntKind.u64.wrap (↑(BitVec.ofInt (64:Nat) Qn.1 ^^^ BitVec.ofInt (64:Nat) Qf).toNat:Int)) Qn.2 Qn.3 Qn.4) fun v56=>Fits b->(8:Int)≠(0:Int)/\InI ((↑b.length:Int).tdiv (8:Int))/\Cnd (Qb=(↑b.length:Int).tdiv (8:Int)) (Fits b->(256:Int)≠(0:Int)/\(0:Int)<=(56:Int)/\v56 (Go.IntKind.u64.wrap (↑(BitVec.ofInt (64:Nat) Qg|||BitVec.ofInt (64:Nat) (Go.IntKind.u64.wrap (Go.IntKind.u64.wrap ((↑b.length:Int).tmod (256:Int))*(2:Int) ^ Min.min (Int.toNat (56:Int)) (64:Nat)))).toNat:Int))) (v56 Qg)))) (Jn1 (fun Qh=>Vo (Sip.mk Qz j1e q5x (Go.IntKind.u64.wrap (↑(BitVec.ofInt (64:Nat) w5j ^^^ BitVec.ofInt (64:Nat) Qh).toNat:Int))) (2:Int) fun Qf=>InI (Qb+1)/\y8t (Qb+1) (Go.IntKind.u64.wrap (↑(BitVec.ofInt (64:Nat) Qf.1 ^^^ BitVec.ofInt (64:Nat) Qh).toNat:Int)) Qf.2 Qf.3 Qf.4) fun y08=>Fits b->(8:Int)≠(0:Int)/\InI ((↑b.length:Int).tdiv (8:Int))/\Cnd (Qb=(↑b.length:Int).tdiv (8:Int)) (Fits b->(256:Int)≠(0:Int)/\(0:Int)<=(56:Int)/\y08 (Go.IntKind.u64.wrap (↑(BitVec.ofInt (64:Nat) Qg|||BitVec.ofInt (64:Nat) (Go.IntKind.u64.wrap (Go.IntKind.u64.wrap ((↑b.length:Int).tmod (256:Int))*(2:Int) ^ Min.min (Int.toNat (56:Int)) (64:Nat)))).toNat:Int))) (y08 Qg))) (0:Int) (0:Int)) (Vo (Sip.mk Qz j1e (Go.IntKind.u64.wrap (↑(BitVec.ofInt (64:Nat) q5x ^^^ BitVec.ofInt (64:Nat) (255:Int)).toNat:Int)) w5j) (4:Int) fun Qg=>K (Go.IntKind.u64.wrap (↑(BitVec.ofInt (64:Nat) (Go.IntKind.u64.wrap (↑(BitVec.ofInt (64:Nat) (Go.IntKind.u64.wrap (↑(BitVec.ofInt (64:Nat) Qg.1 ^^^ BitVec.ofInt (64:Nat) Qg.2).toNat:Int)) ^^^ BitVec.ofInt (64:Nat) Qg.3).toNat:Int)) ^^^ BitVec.ofInt (64:Nat) Qg.4).toNat:Int)))) (0:Int) (Go.IntKind.u64.wrap (↑(BitVec.ofInt (64:Nat) k0 ^^^ BitVec.ofInt (64:Nat) (8317987319222330741:Int)).toNat:Int)) (Go.IntKind.u64.wrap (↑(BitVec.ofInt (64:Nat) k1 ^^^ BitVec.ofInt (64:Nat) (7237128888997146477:Int)).toNat:Int)) (Go.IntKind.u64.wrap (↑(BitVec.ofInt (64:Nat) k0 ^^^ BitVec.ofInt (64:Nat) (7816392313619706465:Int)).toNat:Int)) (Go.IntKind.u64.wrap (↑(BitVec.ofInt (64:Nat) k1 ^^^ BitVec.ofInt (64:Nat) (8387220255154660723:Int)).toNat:Int))
def z93:z92:=w3n Z1
abbrev z33:Type:=Int->List (List Int)->(Int->Prop)->Prop
def j7q (z6m:z57) (j6e:z92):z33:=fun domain fields K=>z6m fields fun Qb=>j6e domain (0:Int) Qb fun Qd=>K Qd
def z34:z33:=j7q z0q z93
abbrev z58:Type:=ByteArray->ByteArray->(Int->Prop)->Prop
def w3o (j1r:z33):z58:=fun salt key K=>Sml salt.size/\Sml key.size/\j1r (1:Int) [List.map (fun b=>(↑b.toNat:Int)) (salt,key,()).1.data.toList,List.map (fun b=>(↑b.toNat:Int)) (salt,key,()).2.1.data.toList] fun Qb=>(10000:Int)≠(0:Int)/\InI (Qb.tmod (10000:Int))/\K (Qb.tmod (10000:Int))
def q8q:z58:=w3o z34
abbrev q5b:Type:=Envt->Subj->List (Frc)->(List (Asg)->Prop)->Prop
def z35 (Za:We):q5b:=fun v s forced K=>Fits v.5->Lp2 (fun Qd Z2 z5i=>CAt v.5 Z2 (fun y2=>Za (Envt.mk (Sett.mk v.1.1 v.1.2 v.1.3) v.2 v.3 v.4 v.5 v.6) (Subj.mk s.1) forced y2.1 fun Qf _=>Sml (Qd++[Qf]).length/\InI (Z2+1)/\z5i (Qd++[Qf]) (Z2+1)) (K Qd)) [] (0:Int)
def q5c:q5b:=z35 Wf
abbrev R8:Type:=(Bool->Prop)->Prop
def z1o (B8:q4d) (Za:We) (z6n:z58) (q9c:q5b):R8:=fun K=>B8 fun Qb=>Za (Envt.mk (Sett.mk Qb.1.1 Qb.1.2 Qb.1.3) Qb.2 Qb.3 Qb.4 Qb.5 Qb.6) (Subj.mk [Ctxt.mk (ByteArray.mk (Array.mk [117,115,101,114])) (ByteArray.mk (Array.mk [117])) []]) [] (ByteArray.mk (Array.mk [108])) fun Qd Z2=>B8 fun Qg=>Za (Envt.mk (Sett.mk Qg.1.1 Qg.1.2 Qg.1.3) Qg.2 Qg.3 Qg.4 Qg.5 Qg.6) (Subj.mk []) [] (ByteArray.mk (Array.mk [108])) fun Qh Ue=>Cnd (Z2=0) (Cnd (Qd.2=ByteArray.mk (Array.mk [120])) (Cnd (Qd.4=2) (z6n (ByteArray.mk (Array.mk [])) (ByteArray.mk (Array.mk [117])) fun Qf=>Cnd (Qd.3=Qf) (Cnd (Ue=0) (Cnd (Qh.1=ByteArray.mk (Array.mk [108])/\Qh.2=ByteArray.mk (Array.mk [])/\Qh.3=(-1:Int)/\Qh.4=0/\Qh.5=false) (q9c (Envt.mk (Sett.mk (ByteArray.mk (Array.mk [])) (ByteArray.mk (Array.mk [])) (0:Int)) [] [] [] [] []) (Subj.mk []) [] fun Qn=>Fits Qn->K (decide ((↑Qn.length:Int)=0))) (K false)) (K false)) (K false)) (K false)) (K false)) (K false)
def R9:R8:=z1o q4e Wf q8q q5c
abbrev j2m:Type:=List (Int)->Int->(List (Int)->Int->Prop)->Prop
def z77:j2m:=fun list_ most K=>Jn1 (fun Qb=>K Qb (0:Int)) fun z0y=>Fits list_->Cnd (most<(↑list_.length:Int)) (((0:Int)<=(0:Int)/\(0:Int)<=most/\most<=(↑list_.length:Int))/\z0y (List.drop (Int.toNat (0:Int)) (List.take most.toNat list_))) (z0y list_)
abbrev q71:Type:=List (Int)->Int->ByteArray->(Ctxt->Int->Prop)->Prop
def z78 (z2i:z7q) (Q3:Wz) (Qc:Zh) (Ji:q1n):q71:=fun list at_ kind K=>z2i list at_ fun Qb Qz=>Q3 fun Qd=>Lp3 (fun Qg Zo w5l u0b=>Fits Qd->CAt Qd Qg (fun y4=>Cnd (y4.1=kind) (Qc list w5l (4:Int) fun Jb z9a=>Cnd ((0:Int)<Jb) (At Qd Qg fun y7=>At Qd Qg fun y9=>Ji list z9a y9.3 fun J7 j9w=>Sml (Zo++[Attr.mk y7.2 J7]).length/\InI (Qg+1)/\u0b (Qg+1) (Zo++[Attr.mk y7.2 J7]) j9w) (InI (Qg+1)/\u0b (Qg+1) Zo z9a)) (InI (Qg+1)/\u0b (Qg+1) Zo w5l)) (K (Ctxt.mk kind Qb Zo) w5l)) (0:Int) [] Qz
def q3q:q71:=z78 z7r Jz Zd Un
abbrev q0s:Type:=List (Int)->Int->(Subj->Int->Prop)->Prop
def z79 (Qc:Zh) (q03:q71):q0s:=fun list at_ K=>Qc list at_ (6:Int) fun Qb Qz=>Jn2 (fun Qd Z2=>Cnd (Qb=1) (K (Subj.mk Z2) Qd) (Cnd (Qb=5) (K (Subj.mk Z2) Qd) (q03 list Qd (ByteArray.mk (Array.mk [117,115,101,114])) fun Qg Zo=>Sml (Z2++[Qg]).length/\K (Subj.mk (Z2++[Qg])) Zo))) fun w2f=>Cnd (Qb=1) (q03 list Qz (ByteArray.mk (Array.mk [100,101,118,105,99,101])) fun Qg Zo=>Sml ([]++[Qg]).length/\w2f Zo ([]++[Qg])) (Cnd (Qb=2) (q03 list Qz (ByteArray.mk (Array.mk [100,101,118,105,99,101])) fun Qg Zo=>Sml ([]++[Qg]).length/\w2f Zo ([]++[Qg])) (Cnd (Qb=4) (q03 list Qz (ByteArray.mk (Array.mk [100,101,118,105,99,101])) fun Qg Zo=>Sml ([]++[Qg]).length/\w2f Zo ([]++[Qg])) (w2f Qz [])))
def Rp:q0s:=z79 Zd q3q
abbrev z0r:Type:=List (Int)->Int->Envt->(List (Frc)->Int->Prop)->Prop
def j2n (Qc:Zh):z0r:=fun list at_ v K=>Lp3 (fun Qb Qz j1e u21=>Qc list j1e (3:Int) fun Qd Z2=>Cnd (Qz<Qd) (Qc list Z2 (4:Int) fun Qg Zo=>InI ((1:Int)+Qg)/\Jn2 (fun Qh Ue=>Jn4 (fun Qf J1 j1h y1f=>Sml (Qb++[Frc.mk Qf J1 j1h]).length/\InI (Qz+1)/\u21 (Qb++[Frc.mk Qf J1 j1h]) (Qz+1) y1f) fun v56=>Qc list Ue (4:Int) fun Qn q8k=>Fits v.6->CAt v.6 Qn (fun y7=>Jn2 (fun Qr z89=>At v.6 Qn fun y10=>Qc list z89 (4:Int) fun U6 y8k=>Cnd ((0:Int)<U6) (Fits y10.7->Cnd ((0:Int)<(↑y10.7.length:Int)) (Fits y10.7->Qc list y8k (↑y10.7.length:Int) fun j1o y8l=>At y10.7 j1o fun y16=>v56 Qr y7.1 y16.3 y8l) (v56 Qr y7.1 ((1:Int)+Qg) y8k)) (v56 Qr y7.1 ((1:Int)+Qg) y8k)) fun u0c=>Qc list q8k (4:Int) fun Hr q2z=>Cnd ((0:Int)<Hr) (At v.6 Qn fun y11=>u0c y11.2 q2z) (u0c Qh q2z)) (v56 Qh (ByteArray.mk (Array.mk [])) ((1:Int)+Qg) q8k)) fun y08=>Qc list Zo (3:Int) fun Qf J1=>Cnd (Qf=1) (y08 (ByteArray.mk (Array.mk [108,98])) J1) (y08 (ByteArray.mk (Array.mk [108,97])) J1)) (K Qb Z2)) [] (0:Int) at_
def z0s:z0r:=j2n Zd
abbrev Ba:Type:=List (Int)->List (Int)->(Envt->Subj->List (Frc)->Prop)->Prop
def z1p (q91:j2m) (q3d:Rf) (Gw:q0s) (z6o:z0r):Ba:=fun codes who K=>q91 codes (400:Int) fun Qb Qz=>q3d Qb Qz (10:Int) fun Qd _=>q91 who (80:Int) fun Qg Zo=>Gw Qg Zo fun Qh Ue=>z6o Qg Ue (Envt.mk (Sett.mk Qd.1.1 Qd.1.2 Qd.1.3) Qd.2 Qd.3 Qd.4 Qd.5 Qd.6) fun Qf _=>K (Envt.mk (Sett.mk Qd.1.1 Qd.1.2 Qd.1.3) Qd.2 Qd.3 Qd.4 Qd.5 Qd.6) (Subj.mk Qh.1) Qf
def Gi:Ba:=z1p z77 Rg Rp z0s
abbrev z94:Type:=Subj->ByteArray->(Ctxt->Bool->Prop)->Prop
def z36:z94:=fun s kind K=>Lp4 (fun Qb Qz j1e (q5x:List Attr) u2g=>Fits s.1->CAt s.1 Qb (fun y2=>Cnd (y2.1=kind) (At s.1 Qb fun y4=>K y4 true) (InI (Qb+1)/\u2g (Qb+1) Qz j1e q5x)) (K (Ctxt.mk (ByteArray.mk (Array.mk [])) (ByteArray.mk (Array.mk [])) []) false)) (0:Int) (ByteArray.mk (Array.mk [])) (ByteArray.mk (Array.mk [])) []
abbrev j38:Type:=List (Frc)->ByteArray->(Frc->Bool->Prop)->Prop
def z38:j38:=fun l layer K=>Lp4 (fun Qb Qz j1e q5x u2g=>Fits l->CAt l Qb (fun y2=>Cnd (y2.1=layer) (At l Qb fun y4=>K y4 true) (InI (Qb+1)/\u2g (Qb+1) Qz j1e q5x)) (K (Frc.mk (ByteArray.mk (Array.mk [])) (ByteArray.mk (Array.mk [])) (0:Int)) false)) (0:Int) (ByteArray.mk (Array.mk [])) (ByteArray.mk (Array.mk [])) (0:Int)
abbrev q8r:Type:=Envt->ByteArray->(Int->Prop)->Prop
def q2i:q8r:=fun v key K=>Lp1 (fun Qb q1e=>Fits v.6->CAt v.6 Qb (fun y2=>Cnd (y2.1=key) (K Qb) (InI (Qb+1)/\q1e (Qb+1))) (K (-1:Int))) (0:Int)
abbrev j2o:Type:=Envt->Subj->(Bool->Prop)->Prop
def w1i (z5l:z94) (z6n:z58):j2o:=fun v s K=>z5l (Subj.mk s.1) v.1.2 fun Qb Qz=>Cnd (Qz=true) (Cnd ((0:Int)<v.1.3) (z6n v.1.1 Qb.2 fun Qd=>K (decide (Qd<v.1.3))) (K false)) (K false)
def j2p:j2o:=w1i z36 q8q
abbrev j2q:Type:=List (ByteArray)->List (Edg)->ByteArray->(Bool->Prop)->Prop
def w1j (Zz:R2):j2q:=fun order edges node K=>Lp1 (fun Qb q1e=>Fits edges->CAt edges Qb (fun y2=>Cnd (y2.1=node) (At edges Qb fun y4=>Zz order y4.2 fun Jb=>Cnd (Jb=true) (InI (Qb+1)/\q1e (Qb+1)) (K false)) (InI (Qb+1)/\q1e (Qb+1))) (Zz order node fun Qg=>K (match decide ((Qg,()).1=true) with|true=>false|false=>true))) (0:Int)
def j2r:j2q:=w1j Gb
abbrev j2s:Type:=List (ByteArray)->List (Edg)->(List (ByteArray)->Int->Prop)->Prop
def w1k (Zz:R2) (v57:j2q):j2s:=fun nodes edges K=>Lp1 (fun Qb q1e=>Fits nodes->Cnd (Qb<(↑nodes.length:Int)) (((0:Int)<=(0:Int)/\(0:Int)<=Qb/\Qb<=(↑nodes.length:Int))/\At nodes Qb fun y2=>Zz (List.drop (Int.toNat (0:Int)) (List.take Qb.toNat nodes)) y2 fun Qf=>Cnd (Qf=true) (K [] (10:Int)) (InI (Qb+1)/\q1e (Qb+1))) (Lp1 (fun Qg j1f=>Fits edges->CAt edges Qg (fun y4=>Zz nodes y4.1 fun Jb=>Cnd (Jb=true) (At edges Qg fun y7=>Zz nodes y7.2 fun Qr=>Cnd (Qr=true) (InI (Qg+1)/\j1f (Qg+1)) (K [] (11:Int))) (K [] (11:Int))) (Lp1 (fun Qf w5m=>Fits Qf->Fits nodes->Cnd ((↑Qf.length:Int)<(↑nodes.length:Int)) (Lp4 (fun W5 z6t v6b v1o y8s=>Fits nodes->CAt nodes v6b (fun y9=>v57 v1o edges y9 fun J7=>Cnd (J7=true) (Cnd (z6t=true) (At nodes v6b fun y12=>Cnd (Lk.blt y12 W5) (At nodes v6b fun y14=>InI (v6b+1)/\y8s y14 true (v6b+1) v1o) (InI (v6b+1)/\y8s W5 z6t (v6b+1) v1o)) (At nodes v6b fun y12=>InI (v6b+1)/\y8s y12 true (v6b+1) v1o)) (InI (v6b+1)/\y8s W5 z6t (v6b+1) v1o)) (Cnd (z6t=true) (Sml ([]++v1o).length/\Sml ([]++v1o++[W5]).length/\w5m ([]++v1o++[W5])) (K [] (12:Int)))) (ByteArray.mk (Array.mk [])) false (0:Int) Qf) (K Qf (0:Int))) [])) (0:Int))) (0:Int)
def j2t:j2s:=w1k Gb j2r
abbrev z8a:Type:=List (Seg)->(List (ByteArray)->Int->Prop)->Prop
def j7r (Jx:R0) (q39:q3l) (v58:j2s):z8a:=fun l K=>Jx l fun Qb=>q39 l fun Qd=>v58 Qb Qd fun Qg Zo=>K Qg Zo
def z8b:z8a:=j7r R1 H9 j2t
abbrev z8c:Type:=Subj->ByteArray->ByteArray->(Val->Bool->Prop)->Prop
def j7s (z5l:z94):z8c:=fun s kind name K=>z5l (Subj.mk s.1) kind fun Qb Qz=>Cnd (Qz=true) (Cnd (name=ByteArray.mk (Array.mk [107,101,121])) (K (Val.mk (3:Int) (0:Int) Qb.2 []) true) (Lp5 (fun Qd Z2 j1c j33 (y8o:List ByteArray) u0d=>Fits Qb.3->CAt Qb.3 Qd (fun y3=>Cnd (y3.1=name) (At Qb.3 Qd fun y5=>K (Val.mk y5.2.1 y5.2.2 y5.2.3 y5.2.4) true) (InI (Qd+1)/\u0d (Qd+1) Z2 j1c j33 y8o)) (K (Val.mk (0:Int) (0:Int) (ByteArray.mk (Array.mk [])) []) false)) (0:Int) (0:Int) (0:Int) (ByteArray.mk (Array.mk [])) [])) (K (Val.mk (0:Int) (0:Int) (ByteArray.mk (Array.mk [])) []) false)
def z8d:z8c:=j7s z36
abbrev z39:Type:=ByteArray->ByteArray->Int->(Bool->Prop)->Prop
def q8s:z39:=fun s t i K=>Cnd ((0:Int)<=i) (InI (i+(↑t.size:Int))/\Cnd (i+(↑t.size:Int)<=(↑s.size:Int)) (InI (i+(↑t.size:Int))/\((0:Int)<=i/\i<=i+(↑t.size:Int)/\i+(↑t.size:Int)<=(↑s.size:Int))/\K (decide (s.extract i.toNat (i+(↑t.size:Int)).toNat=t))) (K false)) (K false)
abbrev q9n:Type:=Val->Val->(Bool->Prop)->Prop
def z62 (Zz:R2) (q9d:z39):q9n:=fun v w K=>Cnd (w.1=3) (Cnd (v.1=5) (Zz v.4 w.3 fun Qb=>K Qb) (Lp1 (fun Qb q1e=>Cnd (v.1=3) (InI (Qb+(↑w.3.size:Int))/\Cnd (Qb+(↑w.3.size:Int)<=(↑v.3.size:Int)) (q9d v.3 w.3 Qb fun Qd=>Cnd (Qd=true) (K true) (InI (Qb+1)/\q1e (Qb+1))) (K false)) (K false)) (0:Int))) (K false)
def q9o:q9n:=z62 Gb q8s
abbrev w6r:Type:=Bool->Bool->(Int->Prop)->Prop
def z4a:w6r:=fun less greater K=>Cnd (less=true) (K (-1:Int)) (Cnd (greater=true) (K (1:Int)) (K (0:Int)))
abbrev z4b:Type:=Val->Val->(Int->Int->Prop)->Prop
def j39 (Jr:q06) (Qe:w6r) (q38:q6s):z4b:=fun a b K=>Jr a fun Qb=>Cnd (Qb=0) (Jr b fun Qd=>Cnd (Qd=0) (Cnd (a.1=b.1) (Cnd (a.1=1) (K (0:Int) (8:Int)) (Cnd (a.1=5) (K (0:Int) (8:Int)) (Cnd (a.1=2) (Qe (decide (a.2<b.2)) (decide (b.2<a.2)) fun Qg=>K Qg (0:Int)) (Cnd (a.1=3) (Qe (decide (Lk.blt a.3 b.3)) (decide (Lk.blt b.3 a.3)) fun Qg=>K Qg (0:Int)) (q38 a.3 fun (Qg:Int×Int×Int) _=>q38 b.3 fun (Qh:Int×Int×Int) _=>Lp1 (fun Qf w5m=>Cnd (Qf<3) (((0:Int)<=Qf/\Qf<(↑(3:Nat):Int))/\((True/\(Qf=(↑(nat_lit 0):Int)->((0:Int)<=Qf/\Qf<(↑(3:Nat):Int))/\((True/\(Qf=(↑(nat_lit 0):Int)->Cnd (Qg.1=Qh.1) (InI (Qf+1)/\w5m (Qf+1)) (((0:Int)<=Qf/\Qf<(↑(3:Nat):Int))/\((True/\(Qf=(↑(nat_lit 0):Int)->((0:Int)<=Qf/\Qf<(↑(3:Nat):Int))/\((True/\(Qf=(↑(nat_lit 0):Int)->Qe (decide (Qg.1<Qh.1)) true fun Qr=>K Qr (0:Int)))/\(Qf=(↑(nat_lit 1):Int)->Qe (decide (Qg.1<Qh.2.1)) true fun Qr=>K Qr (0:Int)))/\(Qf=(↑(nat_lit 2):Int)->Qe (decide (Qg.1<Qh.2.2)) true fun Qr=>K Qr (0:Int))))/\(Qf=(↑(nat_lit 1):Int)->((0:Int)<=Qf/\Qf<(↑(3:Nat):Int))/\((True/\(Qf=(↑(nat_lit 0):Int)->Qe (decide (Qg.2.1<Qh.1)) true fun Qr=>K Qr (0:Int)))/\(Qf=(↑(nat_lit 1):Int)->Qe (decide (Qg.2.1<Qh.2.1)) true fun Qr=>K Qr (0:Int)))/\(Qf=(↑(nat_lit 2):Int)->Qe (decide (Qg.2.1<Qh.2.2)) true fun Qr=>K Qr (0:Int))))/\(Qf=(↑(nat_lit 2):Int)->((0:Int)<=Qf/\Qf<(↑(3:Nat):Int))/\((True/\(Qf=(↑(nat_lit 0):Int)->Qe (decide (Qg.2.2<Qh.1)) true fun Qr=>K Qr (0:Int)))/\(Qf=(↑(nat_lit 1):Int)->Qe (decide (Qg.2.2<Qh.2.1)) true fun Qr=>K Qr (0:Int)))/\(Qf=(↑(nat_lit 2):Int)->Qe (decide (Qg.2.2<Qh.2.2)) true fun Qr=>K Qr (0:Int))))))/\(Qf=(↑(nat_lit 1):Int)->Cnd (Qg.1=Qh.2.1) (InI (Qf+1)/\w5m (Qf+1)) (((0:Int)<=Qf/\Qf<(↑(3:Nat):Int))/\((True/\(Qf=(↑(nat_lit 0):Int)->((0:Int)<=Qf/\Qf<(↑(3:Nat):Int))/\((True/\(Qf=(↑(nat_lit 0):Int)->Qe (decide (Qg.1<Qh.1)) true fun Qr=>K Qr (0:Int)))/\(Qf=(↑(nat_lit 1):Int)->Qe (decide (Qg.1<Qh.2.1)) true fun Qr=>K Qr (0:Int)))/\(Qf=(↑(nat_lit 2):Int)->Qe (decide (Qg.1<Qh.2.2)) true fun Qr=>K Qr (0:Int))))/\(Qf=(↑(nat_lit 1):Int)->((0:Int)<=Qf/\Qf<(↑(3:Nat):Int))/\((True/\(Qf=(↑(nat_lit 0):Int)->Qe (decide (Qg.2.1<Qh.1)) true fun Qr=>K Qr (0:Int)))/\(Qf=(↑(nat_lit 1):Int)->Qe (decide (Qg.2.1<Qh.2.1)) true fun Qr=>K Qr (0:Int)))/\(Qf=(↑(nat_lit 2):Int)->Qe (decide (Qg.2.1<Qh.2.2)) true fun Qr=>K Qr (0:Int))))/\(Qf=(↑(nat_lit 2):Int)->((0:Int)<=Qf/\Qf<(↑(3:Nat):Int))/\((True/\(Qf=(↑(nat_lit 0):Int)->Qe (decide (Qg.2.2<Qh.1)) true fun Qr=>K Qr (0:Int)))/\(Qf=(↑(nat_lit 1):Int)->Qe (decide (Qg.2.2<Qh.2.1)) true fun Qr=>K Qr (0:Int)))/\(Qf=(↑(nat_lit 2):Int)->Qe (decide (Qg.2.2<Qh.2.2)) true fun Qr=>K Qr (0:Int))))))/\(Qf=(↑(nat_lit 2):Int)->Cnd (Qg.1=Qh.2.2) (InI (Qf+1)/\w5m (Qf+1)) (((0:Int)<=Qf/\Qf<(↑(3:Nat):Int))/\((True/\(Qf=(↑(nat_lit 0):Int)->((0:Int)<=Qf/\Qf<(↑(3:Nat):Int))/\((True/\(Qf=(↑(nat_lit 0):Int)->Qe (decide (Qg.1<Qh.1)) true fun Qr=>K Qr (0:Int)))/\(Qf=(↑(nat_lit 1):Int)->Qe (decide (Qg.1<Qh.2.1)) true fun Qr=>K Qr (0:Int)))/\(Qf=(↑(nat_lit 2):Int)->Qe (decide (Qg.1<Qh.2.2)) true fun Qr=>K Qr (0:Int))))/\(Qf=(↑(nat_lit 1):Int)->((0:Int)<=Qf/\Qf<(↑(3:Nat):Int))/\((True/\(Qf=(↑(nat_lit 0):Int)->Qe (decide (Qg.2.1<Qh.1)) true fun Qr=>K Qr (0:Int)))/\(Qf=(↑(nat_lit 1):Int)->Qe (decide (Qg.2.1<Qh.2.1)) true fun Qr=>K Qr (0:Int)))/\(Qf=(↑(nat_lit 2):Int)->Qe (decide (Qg.2.1<Qh.2.2)) true fun Qr=>K Qr (0:Int))))/\(Qf=(↑(nat_lit 2):Int)->((0:Int)<=Qf/\Qf<(↑(3:Nat):Int))/\((True/\(Qf=(↑(nat_lit 0):Int)->Qe (decide (Qg.2.2<Qh.1)) true fun Qr=>K Qr (0:Int)))/\(Qf=(↑(nat_lit 1):Int)->Qe (decide (Qg.2.2<Qh.2.1)) true fun Qr=>K Qr (0:Int)))/\(Qf=(↑(nat_lit 2):Int)->Qe (decide (Qg.2.2<Qh.2.2)) true fun Qr=>K Qr (0:Int)))))))/\(Qf=(↑(nat_lit 1):Int)->((0:Int)<=Qf/\Qf<(↑(3:Nat):Int))/\((True/\(Qf=(↑(nat_lit 0):Int)->Cnd (Qg.2.1=Qh.1) (InI (Qf+1)/\w5m (Qf+1)) (((0:Int)<=Qf/\Qf<(↑(3:Nat):Int))/\((True/\(Qf=(↑(nat_lit 0):Int)->((0:Int)<=Qf/\Qf<(↑(3:Nat):Int))/\((True/\(Qf=(↑(nat_lit 0):Int)->Qe (decide (Qg.1<Qh.1)) true fun Qr=>K Qr (0:Int)))/\(Qf=(↑(nat_lit 1):Int)->Qe (decide (Qg.1<Qh.2.1)) true fun Qr=>K Qr (0:Int)))/\(Qf=(↑(nat_lit 2):Int)->Qe (decide (Qg.1<Qh.2.2)) true fun Qr=>K Qr (0:Int))))/\(Qf=(↑(nat_lit 1):Int)->((0:Int)<=Qf/\Qf<(↑(3:Nat):Int))/\((True/\(Qf=(↑(nat_lit 0):Int)->Qe (decide (Qg.2.1<Qh.1)) true fun Qr=>K Qr (0:Int)))/\(Qf=(↑(nat_lit 1):Int)->Qe (decide (Qg.2.1<Qh.2.1)) true fun Qr=>K Qr (0:Int)))/\(Qf=(↑(nat_lit 2):Int)->Qe (decide (Qg.2.1<Qh.2.2)) true fun Qr=>K Qr (0:Int))))/\(Qf=(↑(nat_lit 2):Int)->((0:Int)<=Qf/\Qf<(↑(3:Nat):Int))/\((True/\(Qf=(↑(nat_lit 0):Int)->Qe (decide (Qg.2.2<Qh.1)) true fun Qr=>K Qr (0:Int)))/\(Qf=(↑(nat_lit 1):Int)->Qe (decide (Qg.2.2<Qh.2.1)) true fun Qr=>K Qr (0:Int)))/\(Qf=(↑(nat_lit 2):Int)->Qe (decide (Qg.2.2<Qh.2.2)) true fun Qr=>K Qr (0:Int))))))/\(Qf=(↑(nat_lit 1):Int)->Cnd (Qg.2.1=Qh.2.1) (InI (Qf+1)/\w5m (Qf+1)) (((0:Int)<=Qf/\Qf<(↑(3:Nat):Int))/\((True/\(Qf=(↑(nat_lit 0):Int)->((0:Int)<=Qf/\Qf<(↑(3:Nat):Int))/\((True/\(Qf=(↑(nat_lit 0):Int)->Qe (decide (Qg.1<Qh.1)) true fun Qr=>K Qr (0:Int)))/\(Qf=(↑(nat_lit 1):Int)->Qe (decide (Qg.1<Qh.2.1)) true fun Qr=>K Qr (0:Int)))/\(Qf=(↑(nat_lit 2):Int)->Qe (decide (Qg.1<Qh.2.2)) true fun Qr=>K Qr (0:Int))))/\(Qf=(↑(nat_lit 1):Int)->((0:Int)<=Qf/\Qf<(↑(3:Nat):Int))/\((True/\(Qf=(↑(nat_lit 0):Int)->Qe (decide (Qg.2.1<Qh.1)) true fun Qr=>K Qr (0:Int)))/\(Qf=(↑(nat_lit 1):Int)->Qe (decide (Qg.2.1<Qh.2.1)) true fun Qr=>K Qr (0:Int)))/\(Qf=(↑(nat_lit 2):Int)->Qe (decide (Qg.2.1<Qh.2.2)) true fun Qr=>K Qr (0:Int))))/\(Qf=(↑(nat_lit 2):Int)->((0:Int)<=Qf/\Qf<(↑(3:Nat):Int))/\((True/\(Qf=(↑(nat_lit 0):Int)->Qe (decide (Qg.2.2<Qh.1)) true fun Qr=>K Qr (0:Int)))/\(Qf=(↑(nat_lit 1):Int)->Qe (decide (Qg.2.2<Qh.2.1)) true fun Qr=>K Qr (0:Int)))/\(Qf=(↑(nat_lit 2):Int)->Qe (decide (Qg.2.2<Qh.2.2)) true fun Qr=>K Qr (0:Int))))))/\(Qf=(↑(nat_lit 2):Int)->Cnd (Qg.2.1=Qh.2.2) (InI (Qf+1)/\w5m (Qf+1)) (((0:Int)<=Qf/\Qf<(↑(3:Nat):Int))/\((True/\(Qf=(↑(nat_lit 0):Int)->((0:Int)<=Qf/\Qf<(↑(3:Nat):Int))/\((True/\(Qf=(↑(nat_lit 0):Int)->Qe (decide (Qg.1<Qh.1)) true fun Qr=>K Qr (0:Int)))/\(Qf=(↑(nat_lit 1):Int)->Qe (decide (Qg.1<Qh.2.1)) true fun Qr=>K Qr (0:Int)))/\(Qf=(↑(nat_lit 2):Int)->Qe (decide (Qg.1<Qh.2.2)) true fun Qr=>K Qr (0:Int))))/\(Qf=(↑(nat_lit 1):Int)->((0:Int)<=Qf/\Qf<(↑(3:Nat):Int))/\((True/\(Qf=(↑(nat_lit 0):Int)->Qe (decide (Qg.2.1<Qh.1)) true fun Qr=>K Qr (0:Int)))/\(Qf=(↑(nat_lit 1):Int)->Qe (decide (Qg.2.1<Qh.2.1)) true fun Qr=>K Qr (0:Int)))/\(Qf=(↑(nat_lit 2):Int)->Qe (decide (Qg.2.1<Qh.2.2)) true fun Qr=>K Qr (0:Int))))/\(Qf=(↑(nat_lit 2):Int)->((0:Int)<=Qf/\Qf<(↑(3:Nat):Int))/\((True/\(Qf=(↑(nat_lit 0):Int)->Qe (decide (Qg.2.2<Qh.1)) true fun Qr=>K Qr (0:Int)))/\(Qf=(↑(nat_lit 1):Int)->Qe (decide (Qg.2.2<Qh.2.1)) true fun Qr=>K Qr (0:Int)))/\(Qf=(↑(nat_lit 2):Int)->Qe (decide (Qg.2.2<Qh.2.2)) true fun Qr=>K Qr (0:Int)))))))/\(Qf=(↑(nat_lit 2):Int)->((0:Int)<=Qf/\Qf<(↑(3:Nat):Int))/\((True/\(Qf=(↑(nat_lit 0):Int)->Cnd (Qg.2.2=Qh.1) (InI (Qf+1)/\w5m (Qf+1)) (((0:Int)<=Qf/\Qf<(↑(3:Nat):Int))/\((True/\(Qf=(↑(nat_lit 0):Int)->((0:Int)<=Qf/\Qf<(↑(3:Nat):Int))/\((True/\(Qf=(↑(nat_lit 0):Int)->Qe (decide (Qg.1<Qh.1)) true fun Qr=>K Qr (0:Int)))/\(Qf=(↑(nat_lit 1):Int)->Qe (decide (Qg.1<Qh.2.1)) true fun Qr=>K Qr (0:Int)))/\(Qf=(↑(nat_lit 2):Int)->Qe (decide (Qg.1<Qh.2.2)) true fun Qr=>K Qr (0:Int))))/\(Qf=(↑(nat_lit 1):Int)->((0:Int)<=Qf/\Qf<(↑(3:Nat):Int))/\((True/\(Qf=(↑(nat_lit 0):Int)->Qe (decide (Qg.2.1<Qh.1)) true fun Qr=>K Qr (0:Int)))/\(Qf=(↑(nat_lit 1):Int)->Qe (decide (Qg.2.1<Qh.2.1)) true fun Qr=>K Qr (0:Int)))/\(Qf=(↑(nat_lit 2):Int)->Qe (decide (Qg.2.1<Qh.2.2)) true fun Qr=>K Qr (0:Int))))/\(Qf=(↑(nat_lit 2):Int)->((0:Int)<=Qf/\Qf<(↑(3:Nat):Int))/\((True/\(Qf=(↑(nat_lit 0):Int)->Qe (decide (Qg.2.2<Qh.1)) true fun Qr=>K Qr (0:Int)))/\(Qf=(↑(nat_lit 1):Int)->Qe (decide (Qg.2.2<Qh.2.1)) true fun Qr=>K Qr (0:Int)))/\(Qf=(↑(nat_lit 2):Int)->Qe (decide (Qg.2.2<Qh.2.2)) true fun Qr=>K Qr (0:Int))))))/\(Qf=(↑(nat_lit 1):Int)->Cnd (Qg.2.2=Qh.2.1) (InI (Qf+1)/\w5m (Qf+1)) (((0:Int)<=Qf/\Qf<(↑(3:Nat):Int))/\((True/\(Qf=(↑(nat_lit 0):Int)->((0:Int)<=Qf/\Qf<(↑(3:Nat):Int))/\((True/\(Qf=(↑(nat_lit 0):Int)->Qe (decide (Qg.1<Qh.1)) true fun Qr=>K Qr (0:Int)))/\(Qf=(↑(nat_lit 1):Int)->Qe (decide (Qg.1<Qh.2.1)) true fun Qr=>K Qr (0:Int)))/\(Qf=(↑(nat_lit 2):Int)->Qe (decide (Qg.1<Qh.2.2)) true fun Qr=>K Qr (0:Int))))/\(Qf=(↑(nat_lit 1):Int)->((0:Int)<=Qf/\Qf<(↑(3:Nat):Int))/\((True/\(Qf=(↑(nat_lit 0):Int)->Qe (decide (Qg.2.1<Qh.1)) true fun Qr=>K Qr (0:Int)))/\(Qf=(↑(nat_lit 1):Int)->Qe (decide (Qg.2.1<Qh.2.1)) true fun Qr=>K Qr (0:Int)))/\(Qf=(↑(nat_lit 2):Int)->Qe (decide (Qg.2.1<Qh.2.2)) true fun Qr=>K Qr (0:Int))))/\(Qf=(↑(nat_lit 2):Int)->((0:Int)<=Qf/\Qf<(↑(3:Nat):Int))/\((True/\(Qf=(↑(nat_lit 0):Int)->Qe (decide (Qg.2.2<Qh.1)) true fun Qr=>K Qr (0:Int)))/\(Qf=(↑(nat_lit 1):Int)->Qe (decide (Qg.2.2<Qh.2.1)) true fun Qr=>K Qr (0:Int)))/\(Qf=(↑(nat_lit 2):Int)->Qe (decide (Qg.2.2<Qh.2.2)) true fun Qr=>K Qr (0:Int))))))/\(Qf=(↑(nat_lit 2):Int)->Cnd (Qg.2.2=Qh.2.2) (InI (Qf+1)/\w5m (Qf+1)) (((0:Int)<=Qf/\Qf<(↑(3:Nat):Int))/\((True/\(Qf=(↑(nat_lit 0):Int)->((0:Int)<=Qf/\Qf<(↑(3:Nat):Int))/\((True/\(Qf=(↑(nat_lit 0):Int)->Qe (decide (Qg.1<Qh.1)) true fun Qr=>K Qr (0:Int)))/\(Qf=(↑(nat_lit 1):Int)->Qe (decide (Qg.1<Qh.2.1)) true fun Qr=>K Qr (0:Int)))/\(Qf=(↑(nat_lit 2):Int)->Qe (decide (Qg.1<Qh.2.2)) true fun Qr=>K Qr (0:Int))))/\(Qf=(↑(nat_lit 1):Int)->((0:Int)<=Qf/\Qf<(↑(3:Nat):Int))/\((True/\(Qf=(↑(nat_lit 0):Int)->Qe (decide (Qg.2.1<Qh.1)) true fun Qr=>K Qr (0:Int)))/\(Qf=(↑(nat_lit 1):Int)->Qe (decide (Qg.2.1<Qh.2.1)) true fun Qr=>K Qr (0:Int)))/\(Qf=(↑(nat_lit 2):Int)->Qe (decide (Qg.2.1<Qh.2.2)) true fun Qr=>K Qr (0:Int))))/\(Qf=(↑(nat_lit 2):Int)->((0:Int)<=Qf/\Qf<(↑(3:Nat):Int))/\((True/\(Qf=(↑(nat_lit 0):Int)->Qe (decide (Qg.2.2<Qh.1)) true fun Qr=>K Qr (0:Int)))/\(Qf=(↑(nat_lit 1):Int)->Qe (decide (Qg.2.2<Qh.2.1)) true fun Qr=>K Qr (0:Int)))/\(Qf=(↑(nat_lit 2):Int)->Qe (decide (Qg.2.2<Qh.2.2)) true fun Qr=>K Qr (0:Int))))))) (K (0:Int) (0:Int))) (0:Int)))))) (K (0:Int) (8:Int))) (K (0:Int) Qd)) (K (0:Int) Qb)
def q8t:z4b:=j39 Hh z4a q05
abbrev j2u:Type:=Subj->Ex->(Bool->Prop)->Prop
def w1l (v1q:z8c) (Q2:Vb) (q1c:q6r) (q9d:z39) (z7h:q9n) (j4p:z4b):j2u:=fun s e K=>v1q (Subj.mk s.1) e.2 e.3 fun Qb Qz=>Cnd (Qz=true) (Q2 e.1 fun Qd=>Cnd (Qd=true) (Cnd (e.1=6) (K true) (Cnd (e.1=8) (Lp1 (fun Qg j1f=>Fits e.4->CAt e.4 Qg (fun y4=>q1c Qb y4 fun Jb=>Cnd (Jb=true) (K true) (InI (Qg+1)/\j1f (Qg+1))) (K false)) (0:Int)) (Fits e.4->Cnd ((↑e.4.length:Int)=0) (K false) (((0:Int)<=(0:Int)/\(0:Int)<(↑e.4.length:Int))/\ ∀y3,e.4[Int.toNat (0:Int)]? =some y3->Cnd (Qb.1=3) (Cnd (e.1=7) (q1c Qb y3 fun Qn=>K Qn) (Cnd (e.1=9) (Cnd (y3.1=3) (q9d Qb.3 y3.3 (0:Int) fun Qn=>K Qn) (K false)) (Cnd (e.1=10) (Cnd (y3.1=3) (InI ((↑Qb.3.size:Int) - (↑y3.3.size:Int))/\q9d Qb.3 y3.3 ((↑Qb.3.size:Int) - (↑y3.3.size:Int)) fun Qn=>K Qn) (K false)) (Cnd (e.1=11) (z7h Qb y3 fun Qn=>K Qn) (j4p Qb y3 fun Qn q8k=>Cnd (q8k=0) (Cnd (e.1=12) (K (decide (Qn<0))) (Cnd (e.1=13) (K (decide (Qn<=0))) (Cnd (e.1=14) (K (decide ((0:Int)<Qn))) (K (decide ((0:Int)<=Qn)))))) (K false)))))) (Cnd (e.1=7) (q1c Qb y3 fun Qn=>K Qn) (Cnd (e.1=9) (K false) (Cnd (e.1=10) (K false) (Cnd (e.1=11) (z7h Qb y3 fun Qn=>K Qn) (j4p Qb y3 fun Qn q8k=>Cnd (q8k=0) (Cnd (e.1=12) (K (decide (Qn<0))) (Cnd (e.1=13) (K (decide (Qn<=0))) (Cnd (e.1=14) (K (decide ((0:Int)<Qn))) (K (decide ((0:Int)<=Qn)))))) (K false)))))))))) (K false)) (K false)
def j2v:j2u:=w1l z8d Jm q3f q8s q9o q8t
abbrev q6u:Type:=Subj->List (ByteArray)->Ex->(Bool->Prop)->Prop
def w1m (Zz:R2) (v59:j2u) (X:q6u):q6u:=fun s in_ e K=>Cnd (e.1=1) (K true) (Cnd (e.1=2) (Lp1 (fun Qb q1e=>Fits e.5->CAt e.5 Qb (fun y2=>X (Subj.mk s.1) in_ (Ex.mk y2.1 y2.2 y2.3 y2.4 y2.5) fun Qf=>Cnd (Qf=true) (InI (Qb+1)/\q1e (Qb+1)) (K false)) (K true)) (0:Int)) (Cnd (e.1=3) (Lp1 (fun Qb q1e=>Fits e.5->CAt e.5 Qb (fun y2=>X (Subj.mk s.1) in_ (Ex.mk y2.1 y2.2 y2.3 y2.4 y2.5) fun Qf=>Cnd (Qf=true) (K true) (InI (Qb+1)/\q1e (Qb+1))) (K false)) (0:Int)) (Cnd (e.1=4) (Fits e.5->Cnd ((0:Int)<(↑e.5.length:Int)) (((0:Int)<=(0:Int)/\(0:Int)<(↑e.5.length:Int))/\ ∀y1,e.5[Int.toNat (0:Int)]? =some y1->X (Subj.mk s.1) in_ (Ex.mk y1.1 y1.2 y1.3 y1.4 y1.5) fun Qh=>K (match decide ((Qh,()).1=true) with|true=>false|false=>true)) (K false)) (Cnd (e.1=5) (Zz in_ e.3 fun Qb=>K Qb) (v59 (Subj.mk s.1) (Ex.mk e.1 e.2 e.3 e.4 e.5) fun Qb=>K Qb)))))
def j2w:q6u:=fun s in_ e K=> ∀X:q6u,(∀s in_ e K,w1m Gb j2v X s in_ e K->X s in_ e K)->X s in_ e K
abbrev z4c:Type:=Seg->Subj->List (ByteArray)->(Bool->Prop)->Prop
def j4a (z5l:z94) (Zz:R2) (j34:q6u):z4c:=fun g s in_ K=>z5l (Subj.mk s.1) g.2 fun Qb Qz=>Cnd (Qz=true) (Zz g.4 Qb.2 fun Qd=>Cnd (Qd=true) (K false) (Zz g.3 Qb.2 fun Qg=>Cnd (Qg=true) (K true) (Cnd (g.5.1=0) (K false) (j34 (Subj.mk s.1) in_ (Ex.mk g.5.1 g.5.2 g.5.3 g.5.4 g.5.5) fun Qh=>K Qh)))) (K false)
def z4d:z4c:=j4a z36 Gb j2w
abbrev z1q:Type:=List (Seg)->Subj->(List (ByteArray)->Prop)->Prop
def z95 (v1r:z8a) (w8h:z4c) (Uk:q54):z1q:=fun l s K=>v1r l fun Qb _=>Lp2 (fun Qd Z2 z5i=>Fits Qb->Cnd (Z2<(↑Qb.length:Int)) (Lp2 (fun Qh Ue j5l=>Fits l->CAt l Ue (fun y5=>At Qb Z2 fun y7=>Cnd (y5.1=y7) (At l Ue fun y9=>w8h (Seg.mk y9.1 y9.2 y9.3 y9.4 (Ex.mk y9.5.1 y9.5.2 y9.5.3 y9.5.4 y9.5.5)) (Subj.mk s.1) Qh fun J7=>Cnd (J7=true) (At Qb Z2 fun y12=>Uk Qh y12 fun J8=>InI (Ue+1)/\j5l J8 (Ue+1)) (InI (Ue+1)/\j5l Qh (Ue+1))) (InI (Ue+1)/\j5l Qh (Ue+1))) (InI (Z2+1)/\z5i Qh (Z2+1))) Qd (0:Int)) (K Qd)) [] (0:Int)
def z1r:z1q:=z95 z8b z4d q12
abbrev q9p:Type:=Envt->Subj->ByteArray->(Bool->Prop)->Prop
def z63 (j1s:q8r) (w5k:z1q) (j34:q6u):q9p:=fun v s experiment K=>j1s (Envt.mk (Sett.mk v.1.1 v.1.2 v.1.3) v.2 v.3 v.4 v.5 v.6) experiment fun Qb=>Cnd ((0:Int)<=Qb) (At v.6 Qb fun y1=>w5k v.3 (Subj.mk s.1) fun Qh=>j34 (Subj.mk s.1) Qh (Ex.mk y1.8.1 y1.8.2 y1.8.3 y1.8.4 y1.8.5) fun Qf=>K Qf) (K false)
def q9q:q9p:=z63 q2i z1r j2w
abbrev q2j:Type:=List (Int)->List (Int)->Subj->List (Frc)->ByteArray->(Bool->Prop)->Prop
def q2k (Bn:R8) (Bo:Ba) (Bm:R3) (v6a:j2o) (W9:W7) (w00:q9p) (U5:Rj) (w8i:j38):q2j:=fun codes who s forced key K=>Bn fun Qb=>Cnd (Qb=true) (Fits s.1->Cnd ((8:Int)<(↑s.1.length:Int)) (K true) (Fits forced->Cnd ((8:Int)<(↑forced.length:Int)) (K true) (Bo codes who fun Qh Ue y8p=>[Subj.mk Ue.1,Subj.mk s.1].length<=(9223372036854775807:Nat)->Lp1 (fun Qn j6d=>Cnd (Qn<(↑[Subj.mk Ue.1,Subj.mk s.1].length:Int)) (((0:Int)<=Qn/\Qn<(↑[Subj.mk Ue.1,Subj.mk s.1].length:Int))/\ ∀y6,[Subj.mk Ue.1,Subj.mk s.1][Qn.toNat]? =some y6->Bm (Envt.mk (Sett.mk Qh.1.1 Qh.1.2 Qh.1.3) Qh.2 Qh.3 Qh.4 Qh.5 Qh.6) (Subj.mk y6.1) fun Uf=>v6a (Envt.mk (Sett.mk Qh.1.1 Qh.1.2 Qh.1.3) Qh.2 Qh.3 Qh.4 Qh.5 Qh.6) (Subj.mk y6.1) fun Qr=>Cnd (Uf=Qr) ([ByteArray.mk (Array.mk [120,97]),ByteArray.mk (Array.mk [120,98]),ByteArray.mk (Array.mk [120,99]),key].length<=(9223372036854775807:Nat)->Lp1 (fun J7 y8m=>Cnd (J7<(↑[ByteArray.mk (Array.mk [120,97]),ByteArray.mk (Array.mk [120,98]),ByteArray.mk (Array.mk [120,99]),key].length:Int)) (((0:Int)<=J7/\J7<(↑[ByteArray.mk (Array.mk [120,97]),ByteArray.mk (Array.mk [120,98]),ByteArray.mk (Array.mk [120,99]),key].length:Int))/\ ∀y12,[ByteArray.mk (Array.mk [120,97]),ByteArray.mk (Array.mk [120,98]),ByteArray.mk (Array.mk [120,99]),key][J7.toNat]? =some y12->W9 (Envt.mk (Sett.mk Qh.1.1 Qh.1.2 Qh.1.3) Qh.2 Qh.3 Qh.4 Qh.5 Qh.6) (Subj.mk y6.1) y12 fun J8=>w00 (Envt.mk (Sett.mk Qh.1.1 Qh.1.2 Qh.1.3) Qh.2 Qh.3 Qh.4 Qh.5 Qh.6) (Subj.mk y6.1) y12 fun j1o=>Cnd (J8=j1o) (InI (J7+1)/\y8m (J7+1)) (K false)) (InI (Qn+1)/\j6d (Qn+1))) (0:Int)) (K false)) ([y8p,forced].length<=(9223372036854775807:Nat)->Lp1 (fun W5 y77=>Cnd (W5<(↑[y8p,forced].length:Int)) (((0:Int)<=W5/\W5<(↑[y8p,forced].length:Int))/\ ∀y8,[y8p,forced][W5.toNat]? =some y8->[ByteArray.mk (Array.mk [108,97]),ByteArray.mk (Array.mk [108,98]),key].length<=(9223372036854775807:Nat)->Lp1 (fun J7 y8m=>Cnd (J7<(↑[ByteArray.mk (Array.mk [108,97]),ByteArray.mk (Array.mk [108,98]),key].length:Int)) (((0:Int)<=J7/\J7<(↑[ByteArray.mk (Array.mk [108,97]),ByteArray.mk (Array.mk [108,98]),key].length:Int))/\ ∀y12,[ByteArray.mk (Array.mk [108,97]),ByteArray.mk (Array.mk [108,98]),key][J7.toNat]? =some y12->U5 y8 y12 fun J8 u2h=>w8i y8 y12 fun j1o y8l=>Cnd (J8.1=j1o.1/\J8.2=j1o.2/\J8.3=j1o.3) (Cnd (u2h=y8l) (InI (J7+1)/\y8m (J7+1)) (K false)) (K false)) (InI (W5+1)/\y77 (W5+1))) (0:Int)) (K true)) (0:Int))) (0:Int)))) (K false)
def q2l:q2j:=q2k R9 Gi R4 j2p W8 q9q Uy z38
abbrev w3p:Type:=Int->Int->(Int->Prop)->Prop
def z8e:w3p:=fun x n K=>n≠(0:Int)/\Cnd (x.tmod n<0) (InI (x.tmod n+n)/\K (x.tmod n+n)) (K (x.tmod n))
abbrev q0t:Type:=List (Int)->List (Int)->List (Int)->Int->Int->(Bool->Prop)->Prop
def q0u (Bn:R8) (Bo:Ba) (j9y:w3p) (Wo:q0m) (q91:j2m) (Gw:q0s) (Za:We):q0t:=fun codes who later which holdout K=>Bn fun Qb=>Cnd (Qb=true) (Bo codes who fun Qd Z2 _=>j9y which (4:Int) fun Qg=>Fits Qd.6->Cnd ((↑Qd.6.length:Int)<=Qg) (K true) (At Qd.6 Qg fun y4=>Cnd (y4.5=2) (At Qd.6 Qg fun y6=>Fits y6.7->InI ((↑y6.7.length:Int) - 1)/\((0:Int)<=(↑y6.7.length:Int) - 1/\(↑y6.7.length:Int) - 1<(↑y6.7.length:Int))/\ ∀y9,y6.7[((↑y6.7.length:Int) - 1).toNat]? =some y9->j9y holdout (10001:Int) fun J7=>Wo (Envt.mk (Sett.mk (ByteArray.mk (Array.mk [122])) (ByteArray.mk (Array.mk [117,115,101,114])) J7) Qd.2 Qd.3 Qd.4 Qd.5 Qd.6) fun U6=>Cnd (U6=true) (q91 later (80:Int) fun Q8 j9x=>Gw Q8 j9x fun J8 _=>[Subj.mk Z2.1,Subj.mk J8.1,Subj.mk []].length<=(9223372036854775807:Nat)->Lp4 (fun Hd y1a u0v y4h u2i=>Cnd (Hd<(↑[Subj.mk Z2.1,Subj.mk J8.1,Subj.mk []].length:Int)) (At y1a Hd fun y17=>Za (Envt.mk (Sett.mk (ByteArray.mk (Array.mk [122])) (ByteArray.mk (Array.mk [117,115,101,114])) J7) Qd.2 Qd.3 Qd.4 Qd.5 Qd.6) (Subj.mk y17.1) y4h y6.2 fun Z3 y1c=>Za (Envt.mk (Sett.mk (ByteArray.mk (Array.mk [122])) (ByteArray.mk (Array.mk [117,115,101,114])) J7) Qd.2 Qd.3 Qd.4 Qd.5 Qd.6) (Subj.mk y17.1) u0v y6.2 fun q02 v55=>Cnd (y1c=0) (Cnd (v55=0) (Cnd (Z3.2=y6.1) (((0:Int)<=(0:Int)/\(0:Int)<(↑y4h.length:Int))/\ ∀y21,y4h[Int.toNat (0:Int)]? =some y21->Cnd (Z3.4=y21.3) (Cnd (Z3.5=true) (K false) (Cnd (q02.2=ByteArray.mk (Array.mk [])) (Cnd (q02.4=0) (Cnd (q02.5=true) (K false) (InI (Hd+1)/\u2i (Hd+1) y1a u0v y4h)) (K false)) (K false))) (K false)) (K false)) (K false)) (K false)) (K true)) (0:Int) [Subj.mk Z2.1,Subj.mk J8.1,Subj.mk []] [Frc.mk y6.2 (ByteArray.mk (Array.mk [])) (0:Int)] [Frc.mk y6.2 y6.1 y9.3]) (K true)) (K true))) (K false)
def Jn:q0t:=q0u R9 Gi z8e Ud z77 Rp Wf
end Go.En
end
noncomputable section
set_option maxRecDepth 100000
namespace Go.Proofs
open Go.Shelf
def Tryz.laysC172_ren:Go.Shelf.Ren:=⟨fun|172=>270|244=>287|245=>288|247=>296|279=>297|280=>298|281=>299|282=>300|287=>303|316=>304|171=>306|205=>305|321=>307|322=>308|243=>309|246=>310|283=>311|284=>312|285=>313|286=>314|129=>203|317=>315|318=>316|319=>317|320=>318|337=>319|338=>320|n=>n,fun|9=>9|3=>3|75=>326|76=>327|4=>4|5=>5|167=>354|37=>22|0=>0|85=>355|2=>2|168=>357|53=>112|175=>360|46=>221|210=>364|127=>368|145=>371|143=>369|21=>21|171=>373|173=>375|212=>378|51=>282|20=>20|213=>379|232=>380|233=>381|80=>124|n=>n,fun|15=>6|16=>7|17=>8|18=>9|19=>10|n=>n⟩
theorem Tryz.laysC172:Go.Proofs.LaysC.n172 Tryz.prog Tryz.laysC172_ren:={
 mixed:=by kernel_rfl
 f129:=Tryz.func203.trans (congrArg some (by kernel_rfl))
 f171:=Tryz.func306.trans (congrArg some (by kernel_rfl))
 f172:=Tryz.func270.trans (congrArg some (by kernel_rfl))
 f205:=Tryz.func305.trans (congrArg some (by kernel_rfl))
 f243:=Tryz.func309.trans (congrArg some (by kernel_rfl))
 f244:=Tryz.func287.trans (congrArg some (by kernel_rfl))
 f245:=Tryz.func288.trans (congrArg some (by kernel_rfl))
 f246:=Tryz.func310.trans (congrArg some (by kernel_rfl))
 f247:=Tryz.func296.trans (congrArg some (by kernel_rfl))
 f279:=Tryz.func297.trans (congrArg some (by kernel_rfl))
 f280:=Tryz.func298.trans (congrArg some (by kernel_rfl))
 f281:=Tryz.func299.trans (congrArg some (by kernel_rfl))
 f282:=Tryz.func300.trans (congrArg some (by kernel_rfl))
 f283:=Tryz.func311.trans (congrArg some (by kernel_rfl))
 f284:=Tryz.func312.trans (congrArg some (by kernel_rfl))
 f285:=Tryz.func313.trans (congrArg some (by kernel_rfl))
 f286:=Tryz.func314.trans (congrArg some (by kernel_rfl))
 f287:=Tryz.func303.trans (congrArg some (by kernel_rfl))
 f316:=Tryz.func304.trans (congrArg some (by kernel_rfl))
 f317:=Tryz.func315.trans (congrArg some (by kernel_rfl))
 f318:=Tryz.func316.trans (congrArg some (by kernel_rfl))
 f319:=Tryz.func317.trans (congrArg some (by kernel_rfl))
 f320:=Tryz.func318.trans (congrArg some (by kernel_rfl))
 f321:=Tryz.func307.trans (congrArg some (by kernel_rfl))
 f322:=Tryz.func308.trans (congrArg some (by kernel_rfl))
 f337:=Tryz.func319.trans (congrArg some (by kernel_rfl))
 f338:=Tryz.func320.trans (congrArg some (by kernel_rfl))
 t0:=Tryz.underlying0
 a0:=Tryz.isAgg0
 z0:=Tryz.sizeOf0
 v0:=Tryz.zeroValue0
 t2:=Tryz.underlying2
 a2:=Tryz.isAgg2
 z2:=Tryz.sizeOf2
 v2:=Tryz.zeroValue2
 t3:=Tryz.underlying3
 a3:=Tryz.isAgg3
 z3:=Tryz.sizeOf3
 v3:=Tryz.zeroValue3
 t4:=Tryz.underlying4
 a4:=Tryz.isAgg4
 z4:=Tryz.sizeOf4
 v4:=Tryz.zeroValue4
 t5:=Tryz.underlying5
 a5:=Tryz.isAgg5
 z5:=Tryz.sizeOf5
 v5:=Tryz.zeroValue5
 t9:=Tryz.underlying9
 a9:=Tryz.isAgg9
 z9:=Tryz.sizeOf9
 v9:=Tryz.zeroValue9
 t20:=Tryz.underlying20
 a20:=Tryz.isAgg20
 z20:=Tryz.sizeOf20
 v20:=Tryz.zeroValue20
 t21:=Tryz.underlying21
 a21:=Tryz.isAgg21
 z21:=Tryz.sizeOf21
 v21:=Tryz.zeroValue21
 t37:=Tryz.underlying22
 a37:=Tryz.isAgg22
 z37:=Tryz.sizeOf22
 v37:=Tryz.zeroValue22
 t46:=Tryz.underlying221
 a46:=Tryz.isAgg221
 z46:=Tryz.sizeOf221
 v46:=Tryz.zeroValue221
 t51:=Tryz.underlying282
 a51:=Tryz.isAgg282
 z51:=Tryz.sizeOf282
 v51:=Tryz.zeroValue282
 t53:=Tryz.underlying112
 a53:=Tryz.isAgg112
 z53:=Tryz.sizeOf112
 v53:=Tryz.zeroValue112
 t75:=Tryz.underlying326
 a75:=Tryz.isAgg326
 z75:=Tryz.sizeOf326
 v75:=Tryz.zeroValue326
 t76:=Tryz.underlying327
 a76:=Tryz.isAgg327
 z76:=Tryz.sizeOf327
 v76:=Tryz.zeroValue327
 t85:=Tryz.underlying355
 a85:=Tryz.isAgg355
 z85:=Tryz.sizeOf355
 v85:=Tryz.zeroValue355
 t127:=Tryz.underlying368
 a127:=Tryz.isAgg368
 z127:=Tryz.sizeOf368
 v127:=Tryz.zeroValue368
 t143:=Tryz.underlying369
 a143:=Tryz.isAgg369
 z143:=Tryz.sizeOf369
 v143:=Tryz.zeroValue369
 t145:=Tryz.underlying371
 a145:=Tryz.isAgg371
 z145:=Tryz.sizeOf371
 v145:=Tryz.zeroValue371
 t167:=Tryz.underlying354
 a167:=Tryz.isAgg354
 z167:=Tryz.sizeOf354
 v167:=Tryz.zeroValue354
 t168:=Tryz.underlying357
 a168:=Tryz.isAgg357
 z168:=Tryz.sizeOf357
 v168:=Tryz.zeroValue357
 t171:=Tryz.underlying373
 a171:=Tryz.isAgg373
 z171:=Tryz.sizeOf373
 v171:=Tryz.zeroValue373
 t173:=Tryz.underlying375
 a173:=Tryz.isAgg375
 z173:=Tryz.sizeOf375
 v173:=Tryz.zeroValue375
 t175:=Tryz.underlying360
 a175:=Tryz.isAgg360
 z175:=Tryz.sizeOf360
 v175:=Tryz.zeroValue360
 t210:=Tryz.underlying364
 a210:=Tryz.isAgg364
 z210:=Tryz.sizeOf364
 v210:=Tryz.zeroValue364
 t212:=Tryz.underlying378
 a212:=Tryz.isAgg378
 z212:=Tryz.sizeOf378
 v212:=Tryz.zeroValue378
 t213:=Tryz.underlying379
 a213:=Tryz.isAgg379
 z213:=Tryz.sizeOf379
 t232:=Tryz.underlying380
 a232:=Tryz.isAgg380
 z232:=Tryz.sizeOf380
 v232:=Tryz.zeroValue380
 t233:=Tryz.underlying381
 a233:=Tryz.isAgg381
 z233:=Tryz.sizeOf381
 v233:=Tryz.zeroValue381
 g15:=by kernel_rfl
 g16:=by kernel_rfl
 g17:=by kernel_rfl
 g18:=by kernel_rfl
 g19:=by kernel_rfl
 t80:=Tryz.underlying124
 a80:=Tryz.isAgg124
 z80:=Tryz.sizeOf124
 v80:=Tryz.zeroValue124
 i0:=by kernel_rfl
 i2:=by kernel_rfl
 i3:=by kernel_rfl
 i4:=by kernel_rfl
 i5:=by kernel_rfl
 i9:=by kernel_rfl
 i20:=by kernel_rfl
 i21:=by kernel_rfl
 i37:=by kernel_rfl
 i46:=by kernel_rfl
 i51:=by kernel_rfl
 i53:=by kernel_rfl
 i75:=by kernel_rfl
 i76:=by kernel_rfl
 i80:=by kernel_rfl
 i85:=by kernel_rfl
 i127:=by kernel_rfl
 i143:=by kernel_rfl
 i145:=by kernel_rfl
 i167:=by kernel_rfl
 i168:=by kernel_rfl
 i171:=by kernel_rfl
 i173:=by kernel_rfl
 i175:=by kernel_rfl
 i210:=by kernel_rfl
 i212:=by kernel_rfl
 i232:=by kernel_rfl
 i233:=by kernel_rfl
 m15:=by kernel_rfl
 m16:=by kernel_rfl
 m17:=by kernel_rfl
 m18:=by kernel_rfl
 m19:=by kernel_rfl
 c0:=by kernel_rfl
 c2:=by kernel_rfl
 c3:=by kernel_rfl
 c4:=by kernel_rfl
 c5:=by kernel_rfl
 c9:=by kernel_rfl
 c20:=by kernel_rfl
 c21:=by kernel_rfl
 c37:=by kernel_rfl
 c46:=by kernel_rfl
 c51:=by kernel_rfl
 c53:=by kernel_rfl
 c75:=by kernel_rfl
 c76:=by kernel_rfl
 c80:=by kernel_rfl
 c85:=by kernel_rfl
 c127:=by kernel_rfl
 c143:=by kernel_rfl
 c145:=by kernel_rfl
 c167:=by kernel_rfl
 c168:=by kernel_rfl
 c171:=by kernel_rfl
 c173:=by kernel_rfl
 c175:=by kernel_rfl
 c210:=by kernel_rfl
 c212:=by kernel_rfl
 c213:=by kernel_rfl
 c232:=by kernel_rfl
 c233:=by kernel_rfl}
open Go.RowKit in
theorem Tryz.strconv_Atoi_ok (s:ByteArray) (hmax:s.size<=9223372036854775806) (v:Int) (h:Lib.atoiAll s.data.toList= .ok v) (w:World):
  Calls Tryz.prog 270 #[.string s] w fun e w'=>e= .returned (.tuple #[.int .i64 v,.nilIface])/\(w'=w∨ ∃t,w'=Lib.bytesWorld w 5 t):=Any.strconv_Atoi_ok Tryz.laysC172 s hmax v h w
open Go.RowKit in
theorem Tryz.strconv_Atoi_syntax (s:ByteArray) (hlim:s.size<=281474976710656) (h:Lib.atoiAll s.data.toList=Go.Lib.NumEnd.syntax) (ev:Value) (w:World) (hv:w.cell? ⟨6,0,none⟩=some ev) (hev:ev= .nilIface∨ ∃te pe,ev= .iface te pe):
  Calls Tryz.prog 270 #[.string s] w fun e w'=> ∃N,e= .returned (.tuple #[.int .i64 (0),.iface 357 (.pointer (some ⟨N,0,none⟩))])/\w.heap.size<=N/\w'.heap[N]? =some (.cells #[.string ⟨#[65,116,111,105]⟩,.string s,ev] 364 (0,0))/\Below w.heap.size w w':=Any.strconv_Atoi_syntax Tryz.laysC172 s hlim h ev w hv hev
open Go.RowKit in
theorem Tryz.strconv_Atoi_range (s:ByteArray) (hlim:s.size<=281474976710656) (h:Lib.atoiAll s.data.toList= .range) (ev:Value) (w:World) (hv:w.cell? ⟨7,0,none⟩=some ev) (hev:ev= .nilIface∨ ∃te pe,ev= .iface te pe):
  Calls Tryz.prog 270 #[.string s] w fun e w'=> ∃N,e= .returned (.tuple #[.int .i64 (Lib.atoiSat s.data.toList),.iface 357 (.pointer (some ⟨N,0,none⟩))])/\w.heap.size<=N/\w'.heap[N]? =some (.cells #[.string ⟨#[65,116,111,105]⟩,.string s,ev] 364 (0,0))/\Below w.heap.size w w':=Any.strconv_Atoi_range Tryz.laysC172 s hlim h ev w hv hev
def Tryz.lays144_ren:Go.Shelf.Ren:=⟨fun|144=>136|143=>177|219=>226|217=>264|225=>265|224=>266|267=>267|266=>282|314=>283|n=>n,fun|9=>9|4=>4|3=>3|5=>5|46=>221|146=>345|51=>282|n=>n,fun|1=>3|n=>n⟩
theorem Tryz.lays144:Go.Proofs.Lays.n144 Tryz.prog Tryz.lays144_ren:={
 mixed:=by kernel_rfl
 f143:=Tryz.func177.trans (congrArg some (by kernel_rfl))
 f144:=Tryz.func136.trans (congrArg some (by kernel_rfl))
 f217:=Tryz.func264.trans (congrArg some (by kernel_rfl))
 f219:=Tryz.func226.trans (congrArg some (by kernel_rfl))
 f224:=Tryz.func266.trans (congrArg some (by kernel_rfl))
 f225:=Tryz.func265.trans (congrArg some (by kernel_rfl))
 f266:=Tryz.func282.trans (congrArg some (by kernel_rfl))
 f267:=Tryz.func267.trans (congrArg some (by kernel_rfl))
 f314:=Tryz.func283.trans (congrArg some (by kernel_rfl))
 t3:=Tryz.underlying3
 a3:=Tryz.isAgg3
 z3:=Tryz.sizeOf3
 v3:=Tryz.zeroValue3
 t4:=Tryz.underlying4
 a4:=Tryz.isAgg4
 z4:=Tryz.sizeOf4
 v4:=Tryz.zeroValue4
 t5:=Tryz.underlying5
 a5:=Tryz.isAgg5
 z5:=Tryz.sizeOf5
 v5:=Tryz.zeroValue5
 t9:=Tryz.underlying9
 a9:=Tryz.isAgg9
 z9:=Tryz.sizeOf9
 v9:=Tryz.zeroValue9
 t46:=Tryz.underlying221
 a46:=Tryz.isAgg221
 z46:=Tryz.sizeOf221
 v46:=Tryz.zeroValue221
 t51:=Tryz.underlying282
 a51:=Tryz.isAgg282
 z51:=Tryz.sizeOf282
 v51:=Tryz.zeroValue282
 t146:=Tryz.underlying345
 a146:=Tryz.isAgg345
 z146:=Tryz.sizeOf345
 v146:=Tryz.zeroValue345
 g1:=by kernel_rfl}
open Go.RowKit Go.Lib in
theorem Tryz.strings_Contains (s sub:ByteArray) (m:Int) (w:World) (hs:s.size<4294967281) (hm:w.cell? ⟨3,0,none⟩=some (.int .i64 m)):
  Calls Tryz.prog 136 #[.string s,.string sub] w fun e w'=>e= .returned (.bool (Lib.contains s.data.toList sub.data.toList))/\w'=w:=Any.strings_Contains Tryz.lays144 s sub m w hs hm
def Tryz.lays190_ren:Go.Shelf.Ren:=⟨fun|190=>80|125=>141|258=>140|128=>202|129=>203|302=>193|303=>194|304=>195|305=>196|306=>197|307=>198|308=>199|309=>200|310=>201|333=>238|329=>239|330=>240|334=>241|335=>242|336=>230|344=>275|n=>n,fun|31=>44|9=>9|3=>3|46=>221|0=>0|51=>282|53=>112|4=>4|183=>275|182=>274|131=>279|5=>5|218=>302|222=>306|228=>331|229=>332|n=>n,fun|n=>n⟩
theorem Tryz.lays190:Go.Proofs.Lays.n190 Tryz.prog Tryz.lays190_ren:={
 mixed:=by kernel_rfl
 f125:=Tryz.func141.trans (congrArg some (by kernel_rfl))
 f128:=Tryz.func202.trans (congrArg some (by kernel_rfl))
 f129:=Tryz.func203.trans (congrArg some (by kernel_rfl))
 f190:=Tryz.func80.trans (congrArg some (by kernel_rfl))
 f258:=Tryz.func140.trans (congrArg some (by kernel_rfl))
 f302:=Tryz.func193.trans (congrArg some (by kernel_rfl))
 f303:=Tryz.func194.trans (congrArg some (by kernel_rfl))
 f304:=Tryz.func195.trans (congrArg some (by kernel_rfl))
 f305:=Tryz.func196.trans (congrArg some (by kernel_rfl))
 f306:=Tryz.func197.trans (congrArg some (by kernel_rfl))
 f307:=Tryz.func198.trans (congrArg some (by kernel_rfl))
 f308:=Tryz.func199.trans (congrArg some (by kernel_rfl))
 f309:=Tryz.func200.trans (congrArg some (by kernel_rfl))
 f310:=Tryz.func201.trans (congrArg some (by kernel_rfl))
 f329:=Tryz.func239.trans (congrArg some (by kernel_rfl))
 f330:=Tryz.func240.trans (congrArg some (by kernel_rfl))
 f333:=Tryz.func238.trans (congrArg some (by kernel_rfl))
 f334:=Tryz.func241.trans (congrArg some (by kernel_rfl))
 f335:=Tryz.func242.trans (congrArg some (by kernel_rfl))
 f336:=Tryz.func230.trans (congrArg some (by kernel_rfl))
 f344:=Tryz.func275.trans (congrArg some (by kernel_rfl))
 t0:=Tryz.underlying0
 a0:=Tryz.isAgg0
 z0:=Tryz.sizeOf0
 v0:=Tryz.zeroValue0
 t3:=Tryz.underlying3
 a3:=Tryz.isAgg3
 z3:=Tryz.sizeOf3
 v3:=Tryz.zeroValue3
 t4:=Tryz.underlying4
 a4:=Tryz.isAgg4
 z4:=Tryz.sizeOf4
 v4:=Tryz.zeroValue4
 t5:=Tryz.underlying5
 a5:=Tryz.isAgg5
 z5:=Tryz.sizeOf5
 v5:=Tryz.zeroValue5
 t9:=Tryz.underlying9
 a9:=Tryz.isAgg9
 z9:=Tryz.sizeOf9
 v9:=Tryz.zeroValue9
 t31:=Tryz.underlying44
 a31:=Tryz.isAgg44
 z31:=Tryz.sizeOf44
 v31:=Tryz.zeroValue44
 t46:=Tryz.underlying221
 a46:=Tryz.isAgg221
 z46:=Tryz.sizeOf221
 v46:=Tryz.zeroValue221
 t51:=Tryz.underlying282
 a51:=Tryz.isAgg282
 z51:=Tryz.sizeOf282
 v51:=Tryz.zeroValue282
 t53:=Tryz.underlying112
 a53:=Tryz.isAgg112
 z53:=Tryz.sizeOf112
 v53:=Tryz.zeroValue112
 t131:=Tryz.underlying279
 a131:=Tryz.isAgg279
 z131:=Tryz.sizeOf279
 v131:=Tryz.zeroValue279
 t182:=Tryz.underlying274
 a182:=Tryz.isAgg274
 z182:=Tryz.sizeOf274
 v182:=Tryz.zeroValue274
 t183:=Tryz.underlying275
 a183:=Tryz.isAgg275
 z183:=Tryz.sizeOf275
 v183:=Tryz.zeroValue275
 t218:=Tryz.underlying302
 a218:=Tryz.isAgg302
 z218:=Tryz.sizeOf302
 v218:=Tryz.zeroValue302
 t222:=Tryz.underlying306
 a222:=Tryz.isAgg306
 z222:=Tryz.sizeOf306
 v222:=Tryz.zeroValue306
 t228:=Tryz.underlying331
 a228:=Tryz.isAgg331
 z228:=Tryz.sizeOf331
 v228:=Tryz.zeroValue331
 t229:=Tryz.underlying332
 a229:=Tryz.isAgg332
 z229:=Tryz.sizeOf332
 v229:=Tryz.zeroValue332}
open Go.Sort Go.RowKit in
theorem Tryz.slices_Sort_string (blk off cap:Nat) (ss:List (List UInt8)) (w:World) (hH:Holds encStr w blk off ss.toArray) (hblk:blk<w.heap.size) (hsz:ss.length<4611686018427387904):
  Calls Tryz.prog 80 #[.slice (some ⟨blk,off,none⟩) ss.length cap] w fun e w'=>
   e= .returned (.tuple #[])/\ ∃n os,w'=grow (putRow encStr (Sort.ahead w n) blk off (ss.mergeSort fun x y=>decide (x<=y)).toArray) os:=Any.slices_Sort_string Tryz.lays190 blk off cap ss w hH hblk hsz
def Tryz.lays146_ren:Go.Shelf.Ren:=⟨fun|146=>231|221=>268|268=>284|138=>285|143=>177|195=>293|197=>294|218=>295|219=>226|260=>302|217=>264|225=>265|224=>266|267=>267|266=>282|314=>283|n=>n,fun|9=>9|31=>44|3=>3|4=>4|0=>0|105=>352|21=>21|5=>5|46=>221|119=>335|139=>338|138=>337|146=>345|51=>282|n=>n,fun|1=>3|3=>4|4=>5|n=>n⟩
theorem Tryz.lays146:Go.Proofs.Lays.n146 Tryz.prog Tryz.lays146_ren:={
 mixed:=by kernel_rfl
 f138:=Tryz.func285.trans (congrArg some (by kernel_rfl))
 f143:=Tryz.func177.trans (congrArg some (by kernel_rfl))
 f146:=Tryz.func231.trans (congrArg some (by kernel_rfl))
 f195:=Tryz.func293.trans (congrArg some (by kernel_rfl))
 f197:=Tryz.func294.trans (congrArg some (by kernel_rfl))
 f217:=Tryz.func264.trans (congrArg some (by kernel_rfl))
 f218:=Tryz.func295.trans (congrArg some (by kernel_rfl))
 f219:=Tryz.func226.trans (congrArg some (by kernel_rfl))
 f221:=Tryz.func268.trans (congrArg some (by kernel_rfl))
 f224:=Tryz.func266.trans (congrArg some (by kernel_rfl))
 f225:=Tryz.func265.trans (congrArg some (by kernel_rfl))
 f260:=Tryz.func302.trans (congrArg some (by kernel_rfl))
 f266:=Tryz.func282.trans (congrArg some (by kernel_rfl))
 f267:=Tryz.func267.trans (congrArg some (by kernel_rfl))
 f268:=Tryz.func284.trans (congrArg some (by kernel_rfl))
 f314:=Tryz.func283.trans (congrArg some (by kernel_rfl))
 t0:=Tryz.underlying0
 a0:=Tryz.isAgg0
 z0:=Tryz.sizeOf0
 v0:=Tryz.zeroValue0
 t3:=Tryz.underlying3
 a3:=Tryz.isAgg3
 z3:=Tryz.sizeOf3
 v3:=Tryz.zeroValue3
 t4:=Tryz.underlying4
 a4:=Tryz.isAgg4
 z4:=Tryz.sizeOf4
 v4:=Tryz.zeroValue4
 t5:=Tryz.underlying5
 a5:=Tryz.isAgg5
 z5:=Tryz.sizeOf5
 v5:=Tryz.zeroValue5
 t9:=Tryz.underlying9
 a9:=Tryz.isAgg9
 z9:=Tryz.sizeOf9
 v9:=Tryz.zeroValue9
 t21:=Tryz.underlying21
 a21:=Tryz.isAgg21
 z21:=Tryz.sizeOf21
 v21:=Tryz.zeroValue21
 t31:=Tryz.underlying44
 a31:=Tryz.isAgg44
 z31:=Tryz.sizeOf44
 v31:=Tryz.zeroValue44
 t46:=Tryz.underlying221
 a46:=Tryz.isAgg221
 z46:=Tryz.sizeOf221
 v46:=Tryz.zeroValue221
 t51:=Tryz.underlying282
 a51:=Tryz.isAgg282
 z51:=Tryz.sizeOf282
 v51:=Tryz.zeroValue282
 t105:=Tryz.underlying352
 a105:=Tryz.isAgg352
 z105:=Tryz.sizeOf352
 v105:=Tryz.zeroValue352
 t119:=Tryz.underlying335
 a119:=Tryz.isAgg335
 z119:=Tryz.sizeOf335
 t138:=Tryz.underlying337
 a138:=Tryz.isAgg337
 z138:=Tryz.sizeOf337
 v138:=Tryz.zeroValue337
 t139:=Tryz.underlying338
 a139:=Tryz.isAgg338
 z139:=Tryz.sizeOf338
 v139:=Tryz.zeroValue338
 t146:=Tryz.underlying345
 a146:=Tryz.isAgg345
 z146:=Tryz.sizeOf345
 v146:=Tryz.zeroValue345
 g1:=by kernel_rfl
 g3:=by kernel_rfl
 g4:=by kernel_rfl}
open Go.RowKit Go.Lib in
theorem Tryz.strings_Split (s sep:ByteArray) (m:Int) (w:World) (hs:s.size<4294967281) (hm:w.cell? ⟨3,0,none⟩=some (.int .i64 m)) (h1:1<=sep.size):
  Calls Tryz.prog 231 #[.string s,.string sep] w fun e w'=>
   e= .returned (.slice (some ⟨w.heap.size,0,none⟩) (Lib.countB s sep+1) (Lib.countB s sep+1))/\w'=w.alloc (.cells ((Lib.splitB sep 0 (Lib.countB s sep) s).map Value.string).toArray 9):=Any.strings_Split Tryz.lays146 (by kernel_rfl) s sep m w hs hm h1
def Tryz.lays194_ren:Go.Shelf.Ren:=⟨fun|194=>184|n=>n,fun|31=>44|9=>9|3=>3|4=>4|0=>0|n=>n,fun|n=>n⟩
theorem Tryz.lays194:Go.Proofs.Lays.n194 Tryz.prog Tryz.lays194_ren:={
 mixed:=by kernel_rfl
 f194:=Tryz.func184.trans (congrArg some (by kernel_rfl))
 t0:=Tryz.underlying0
 a0:=Tryz.isAgg0
 z0:=Tryz.sizeOf0
 v0:=Tryz.zeroValue0
 t3:=Tryz.underlying3
 a3:=Tryz.isAgg3
 z3:=Tryz.sizeOf3
 v3:=Tryz.zeroValue3
 t4:=Tryz.underlying4
 a4:=Tryz.isAgg4
 z4:=Tryz.sizeOf4
 v4:=Tryz.zeroValue4
 t9:=Tryz.underlying9
 a9:=Tryz.isAgg9
 z9:=Tryz.sizeOf9
 v9:=Tryz.zeroValue9
 t31:=Tryz.underlying44
 a31:=Tryz.isAgg44
 z31:=Tryz.sizeOf44
 v31:=Tryz.zeroValue44}
open Go.RowKit Go.Lib Go.Sort in
theorem Tryz.slices_Compact_string (blk off cap:Nat) (zs:List (List UInt8)) (w:World) (hH:Holds encStr w blk off zs.toArray) (hsz:zs.length<=9223372036854775807) (hcap:zs.length<=cap):
  Calls Tryz.prog 184 #[.slice (some ⟨blk,off,none⟩) zs.length cap] w fun e w'=>e= .returned (.slice (some ⟨blk,off,none⟩) (Lib.compact zs).length cap)/\ ∃q,w'=putRow encStr (Sort.ahead w q) blk off (Lib.compact zs++List.replicate (zs.length - (Lib.compact zs).length) []).toArray:=Any.slices_Compact_string Tryz.lays194 blk off cap zs w hH hsz hcap
open Go.RowKit Go.Lib Go.Sort in
theorem Tryz.slices_Compact_string_empty (a:Option Addr) (cap:Nat) (w:World):
  Calls Tryz.prog 184 #[.slice a 0 cap] w fun e w'=>e= .returned (.slice a 0 cap)/\w'=w:=Any.slices_Compact_string_empty Tryz.lays194 a cap w
def Tryz.laysNm224_ren:Go.Shelf.Ren:=⟨fun|24=>192|n=>n,fun|24=>44|9=>9|3=>3|4=>4|0=>0|n=>n,fun|n=>n⟩
theorem Tryz.laysNm224:Go.Proofs.Lays2.n24 Tryz.prog Tryz.laysNm224_ren:={
 mixed:=by kernel_rfl
 f24:=Tryz.func192.trans (congrArg some (by kernel_rfl))
 t0:=Tryz.underlying0
 a0:=Tryz.isAgg0
 z0:=Tryz.sizeOf0
 v0:=Tryz.zeroValue0
 t3:=Tryz.underlying3
 a3:=Tryz.isAgg3
 z3:=Tryz.sizeOf3
 v3:=Tryz.zeroValue3
 t4:=Tryz.underlying4
 a4:=Tryz.isAgg4
 z4:=Tryz.sizeOf4
 v4:=Tryz.zeroValue4
 t9:=Tryz.underlying9
 a9:=Tryz.isAgg9
 z9:=Tryz.sizeOf9
 v9:=Tryz.zeroValue9
 t24:=Tryz.underlying44
 a24:=Tryz.isAgg44
 z24:=Tryz.sizeOf44
 v24:=Tryz.zeroValue44
 i9:=by kernel_rfl}
open Go.RowKit Go.Lib Go.Sort in
theorem Tryz.slices_Delete_string (blk off cap i j:Nat) (zs:List (List UInt8)) (w:World) (hH:Holds encStr w blk off zs.toArray) (hcap:zs.length<=cap) (hm:cap<=9223372036854775807) (hij:i<=j) (hj:j<=zs.length):
  Calls Tryz.prog 192 #[.slice (some ⟨blk,off,none⟩) zs.length cap,.int .i64 i,.int .i64 j] w fun e w'=>e= .returned (.slice (some ⟨blk,off,none⟩) (zs.length - (j - i)) cap)/\ ∃q,w'=putRow encStr (Sort.ahead w q) blk off (zs.take i++zs.drop j++List.replicate (j - i) []).toArray:=Any.slices_Delete_string Tryz.laysNm224 blk off cap i j zs w hH hcap hm hij hj
open Go.RowKit Go.Sort in
theorem Tryz.slices_Sort_string_none (p:Option Addr) (cap:Nat) (w:World):
  Calls Tryz.prog 80 #[.slice p 0 cap] w fun e w'=>e= .returned (.tuple #[])/\w'=w:=Any.slices_Sort_string_none Tryz.lays190 p cap w
def Tryz.lays196_ren:Go.Shelf.Ren:=⟨fun|196=>246|259=>276|n=>n,fun|9=>9|4=>4|3=>3|5=>5|12=>12|119=>335|0=>0|46=>221|139=>338|138=>337|53=>112|n=>n,fun|3=>4|4=>5|n=>n⟩
theorem Tryz.lays196:Go.Proofs.Lays.n196 Tryz.prog Tryz.lays196_ren:={
 mixed:=by kernel_rfl
 f196:=Tryz.func246.trans (congrArg some (by kernel_rfl))
 f259:=Tryz.func276.trans (congrArg some (by kernel_rfl))
 t0:=Tryz.underlying0
 a0:=Tryz.isAgg0
 z0:=Tryz.sizeOf0
 v0:=Tryz.zeroValue0
 t3:=Tryz.underlying3
 a3:=Tryz.isAgg3
 z3:=Tryz.sizeOf3
 v3:=Tryz.zeroValue3
 t4:=Tryz.underlying4
 a4:=Tryz.isAgg4
 z4:=Tryz.sizeOf4
 v4:=Tryz.zeroValue4
 t5:=Tryz.underlying5
 a5:=Tryz.isAgg5
 z5:=Tryz.sizeOf5
 v5:=Tryz.zeroValue5
 t9:=Tryz.underlying9
 a9:=Tryz.isAgg9
 z9:=Tryz.sizeOf9
 v9:=Tryz.zeroValue9
 t12:=Tryz.underlying12
 a12:=Tryz.isAgg12
 z12:=Tryz.sizeOf12
 v12:=Tryz.zeroValue12
 t46:=Tryz.underlying221
 a46:=Tryz.isAgg221
 z46:=Tryz.sizeOf221
 v46:=Tryz.zeroValue221
 t53:=Tryz.underlying112
 a53:=Tryz.isAgg112
 z53:=Tryz.sizeOf112
 v53:=Tryz.zeroValue112
 t119:=Tryz.underlying335
 a119:=Tryz.isAgg335
 z119:=Tryz.sizeOf335
 t138:=Tryz.underlying337
 a138:=Tryz.isAgg337
 z138:=Tryz.sizeOf337
 v138:=Tryz.zeroValue337
 t139:=Tryz.underlying338
 a139:=Tryz.isAgg338
 z139:=Tryz.sizeOf338
 v139:=Tryz.zeroValue338
 g3:=by kernel_rfl
 g4:=by kernel_rfl}
def Tryz.sorted185_ren:Go.Shelf.Ren:=⟨fun|6=>185|8=>236|9=>80|11=>274|13=>141|12=>140|23=>202|24=>203|14=>193|15=>194|16=>195|17=>196|18=>197|19=>198|20=>199|21=>200|22=>201|25=>238|26=>239|27=>240|28=>241|29=>242|30=>230|31=>275|n=>n,fun|26=>9|28=>265|24=>44|0=>0|3=>3|37=>221|48=>282|50=>112|4=>4|40=>275|39=>274|45=>279|5=>5|9=>9|51=>302|55=>306|57=>331|58=>332|33=>271|n=>n,fun|n=>n⟩
theorem Tryz.sorted185:Go.Proofs.SlLaysZ.n6 Tryz.prog Tryz.sorted185_ren:={
 mixed:=by kernel_rfl
 f6:=⟨Tryz.f185.name,by decide,Tryz.func185.trans (congrArg some (by kernel_rfl))⟩
 f8:=⟨Tryz.f236.name,by decide,Tryz.func236.trans (congrArg some (by kernel_rfl))⟩
 f11:=⟨Tryz.f274.name,by decide,Tryz.func274.trans (congrArg some (by kernel_rfl))⟩
 t0:=Tryz.underlying0
 a0:=Tryz.isAgg0
 z0:=Tryz.sizeOf0
 v0:=Tryz.zeroValue0
 t24:=Tryz.underlying44
 a24:=Tryz.isAgg44
 z24:=Tryz.sizeOf44
 v24:=Tryz.zeroValue44
 t26:=Tryz.underlying9
 a26:=Tryz.isAgg9
 z26:=Tryz.sizeOf9
 v26:=Tryz.zeroValue9
 t28:=Tryz.underlying265
 a28:=Tryz.isAgg265
 z28:=Tryz.sizeOf265
 v28:=Tryz.zeroValue265
 i26:=by kernel_rfl}
end Go.Proofs
end
noncomputable section
set_option maxRecDepth 100000
namespace Go.Fl
open Go Go.Proofs Go.RowKit Go.Maps Go.Sort Go.Shelf
variable {P:Program} {ρ:Ren}
def v86 (F:Fence) (n:Nat) (P:Program) (g:Nat) (lb:Array Value) (ss:List (List UInt8)) (w:World):Prop:=
 ∀(l:Nat) (J:List (List UInt8)->World->Prop) (W:World),Below w.heap.size w W->AbidesFrom W.heap.size J->(∀pre W1,J pre W1->Below w.heap.size w W1)->
  (∀pre x W1,J pre W1->pre.length<ss.length->YieldAt F (n - 1) P l #[encStr x] W1 fun e W'=>e= .returned (.bool true)/\J (pre++[x]) W'/\KeepsWalks W1 W')->
  J [] W->CallsIn F n P g (#[.func (.yield l) #[] #[]]++lb) W fun e W'=>(∃v,e= .returned v)/\J ss W'
theorem w1n {W:World} {base j:Nat} {e:TypeId} {v:Value} {k:Nat} {xs:List Value} {o:Obj} (h:W.ownsRow base e 1 v k xs) (hj:W.heap[j]? =some o) (hno: ∀cur,o≠ .cells cur e (0,0)) (o':Obj):(W.putObj j o').ownsRow base e 1 v k xs:=
 h.kept (grownBy_putObj_a W j o') (ownsRow_ne_a h hj hno)
set_option maxHeartbeats 2000000 in
theorem j7t (L:SlLaysZ.n11 P ρ) (F:Fence) (n:Nat) (hf:F.fn (ρ.f 11)) (hro:F.round=none) (hn:2<=n) (g:Nat) (lb:Array Value) (hg:F.fn g) (eg: ∀args w,(callFunc g args).run P w= .ok (.enter g args) w)
  (ss:List (List UInt8)) (hN:ss.length<=maxLen) (hNb:ss.length*16<=140737488355328) (w:World) (hseq:v86 F (n - 1) P g lb ss w):
  CallsIn F n P (ρ.f 11) #[.slice none 0 0,.func (.func g) #[] lb] w fun e w'=> ∃v,e= .returned v/\w'.ownsRow w.heap.size (ρ.t 26) 1 v ss.length (ss.map encStr)/\Below w.heap.size w w':=by
 have mixed:=L.mixed;have t0:=L.t0;have a0:=L.a0;have z0:=L.z0;have v0:=L.v0;have t24:=L.t24;have a24:=L.a24;have z24:=L.z24;have v24:=L.v24;have t26:=L.t26;have a26:=L.a26;have z26:=L.z26;have v26:=L.v26
 have u0:=run_underlying L.t0;have u24:=run_underlying L.t24;have u26:=run_underlying L.t26
 have apart:ρ.t 24≠ρ.t 26:=fun e=>by have h:=L.t24;rw [e,L.t26] at h;cases h
 obtain ⟨_,_,body⟩:=L.f11
 refine callsIn_of_wp_marks body rfl hf ?_ hro
 simp only [SlBodyZ.n11_ntmps ρ,List.size_toArray,List.length_cons,List.length_nil,Nat.reduceAdd,Nat.reduceSub,Array.replicate_succ,Array.replicate_zero,List.push_toArray,List.append_toArray,List.nil_append,List.cons_append]
 gi_wp2
 refine wpIn_rangeFunc fun fn hfn=> ?_
 rw [hro]
 generalize hA:w.alloc (.cells #[.slice none 0 0] (ρ.t 24))=A
 have sA:A.heap.size=w.heap.size+1:=by rw [←hA];simp
 have bA:Below w.heap.size w A:=by rw [←hA];exact (Below.refl _ w).alloc (Nat.le_refl _) _
 have xA:A.heap[w.heap.size]? =some (.cells #[.slice none 0 0] (ρ.t 24) (0,0)):=by rw [←hA];exact World.alloc_heap_new w _
 generalize hrec:AnyZ.apRec ρ fn (.func (.func g) #[] lb) w.heap.size A.heap.size .ready none=rec
 generalize hB:(A.alloc (.deferred (some []))).alloc (.loop rec)=B
 have oldB: ∀k,k<A.heap.size->B.heap[k]? =A.heap[k]? :=fun k hk=>by rw [←hB];exact (Below.heap_alloc _ _ k (by simp;omega)).trans (Below.heap_alloc _ _ k hk)
 have bB:Below w.heap.size w B:=by rw [←hB];exact (bA.alloc bA.size _).alloc (by have:=bA.size;simp;omega) _
 have dB:B.heap[A.heap.size]? =some (.deferred (some [])):=by rw [←hB];exact (Below.heap_alloc _ _ _ (by simp)).trans (World.alloc_heap_new A _)
 have lB:B.heap[A.heap.size+1]? =some (.loop rec):=by rw [←hB];have:=World.alloc_heap_new (A.alloc (.deferred (some []))) (.loop rec);rwa [World.size_alloc] at this
 have start:AnyZ.ApAt ρ w fn (.func (.func g) #[] lb) w.heap.size (A.heap.size+1) A.heap.size [] B:=
  ⟨⟨_,(oldB _ (by omega)).trans xA,⟨rfl,.inl ⟨rfl,rfl⟩⟩,by simp⟩,by rw [hrec];exact lB,dB,bB⟩
 refine ⟨A.heap.size+1,[{target:= .collected A.heap.size,args:= #[]}],B,{target:= .fn (.func g) lb,args:= #[.func (.yield (A.heap.size+1)) #[] #[]]},B,g,#[.func (.yield (A.heap.size+1)) #[] #[]]++lb,B,?_,?_,?_,?_,fun _=>(by omega),?_⟩
 ·rw [←hB,←hrec];exact run_enterLoop_outer _ _ _ _ _
 ·simp [resolve,go_sem]
 ·intro f' h';simp [Target.leads] at h';exact h'▸hg
 ·simp [invoke,go_sem,eg]
 refine (hseq _ (AnyZ.ApAt ρ w fn (.func (.func g) #[] lb) w.heap.size (A.heap.size+1) A.heap.size) B bB (AnyZ.ap_abides ρ _ _ _ _ _ _ _ bB.size) (fun _ _ h=>h.below)
  (fun pre x W h hl=>AnyZ.apYield {L with} F _ w fn hfn _ _ _ _ (by omega) (by omega) (by omega) (Nat.le_refl _) (by omega) ss.length hN hNb pre x W h hl) start).mono ?_
 rintro e C ⟨⟨_,rfl⟩,hC⟩
 obtain ⟨v,hv,hrow,_⟩:=hC.box
 have hend:=run_endLoop (P:=P) hC.L (by simp [AnyZ.apRec])
 generalize hD:C.putObj (A.heap.size+1) (.loop {AnyZ.apRec ρ fn (.func (.func g) #[] lb) w.heap.size A.heap.size .ready none with state:= .exhausted})=D at hend
 have rowD:D.ownsRow w.heap.size (ρ.t 26) 1 v ss.length (ss.map encStr):=by rw [←hD];exact w1n hrow hC.L (fun _ h=>by cases h) _
 have boxD:D.heap[w.heap.size]? =some (.cells #[v] (ρ.t 24) (0,0)):=by rw [←hD];exact (World.putObj_heap_other (by omega)).trans hv
 have defD:D.heap[A.heap.size]? =some (.deferred (some [])):=by rw [←hD];exact (World.putObj_heap_other (by omega)).trans hC.K
 have belD:Below w.heap.size w D:=by rw [←hD];exact hC.below.grown (grownBy_putObj_a _ _ _) hC.below.size (fun k h=>by cases h;omega)
 obtain ⟨cellD,markD⟩:=cell_of_box_a boxD
 clear hD
 refine ⟨none,D,hend,?_⟩
 gi_wp2
 rw [←sA]
 refine ⟨by simp,.inl ⟨_,_,rfl,run_takeDeferred defD,?_⟩⟩
 exact ⟨_,results_tmp rfl _ _ _,v,rfl,w1n rowD defD (fun _ h=>by cases h) _,belD.grown (grownBy_putObj_a _ _ _) belD.size (fun k h=>by cases h;omega)⟩
end Go.Fl
end
noncomputable section
set_option maxRecDepth 100000
namespace Go.Proofs.YtfiomedjdipbgaaGreatDoor
open Go Go.Proofs Go.RowKit Go.Fl Go.Maps Go.Sort Go.Shelf
attribute [local go_sem] Oper.semAt_some
set_option maxHeartbeats 2000000 in
theorem w9z (n:Nat) (hn:1<=n) (w W:World) (l Bs b off cap:Nat) (zs:List (List UInt8)) (hreach:zs.length<=140737488355328) (hBs:Bs<w.heap.size) (hb:b<w.heap.size) (J:List (List UInt8)->World->Prop)
  (hJ: ∀pre W1,J pre W1->Below w.heap.size w W1) (hc:w.cell? ⟨Bs,0,none⟩=some (.slice (some ⟨b,off,none⟩) zs.length cap)) (hcs: ∀j,j<zs.length->w.cell? ⟨b,off+j,none⟩=some (encStr (zs[j]?.getD [])))
  (hY: ∀pre x W1,J pre W1->pre.length<zs.length->YieldAt Fence.wide (n - 1) Tryz.prog l #[encStr x] W1 fun e W'=>e= .returned (.bool true)/\J (pre++[x]) W'/\KeepsWalks W1 W') (h0:J [] W):
  CallsIn Fence.wide n Tryz.prog 237 #[.func (.yield l) #[] #[],.pointer (some ⟨Bs,0,none⟩)] W fun e W'=>(∃v,e= .returned v)/\J zs W':=by
 have hc0:=((hJ _ _ h0).cell (p:=⟨Bs,0,none⟩) hBs).trans hc
 refine callsIn_of_wp Tryz.func237 rfl trivial ?_ rfl
 simp only [Tryz.ntmps237,List.size_toArray,List.length_cons,List.length_nil,Nat.reduceAdd,Nat.reduceSub,Array.replicate_succ,Array.replicate_zero,List.push_toArray,List.append_toArray,List.nil_append,List.cons_append]
 gi_wp2
 gi_loopw [7] (fun i wr=> ∃k:Nat,k<=zs.length/\i= .int .i64 k/\J (zs.take k) wr) (fun i _=>zs.length - (intOf i).toNat)
 case atStart=>exact ⟨0,Nat.zero_le _,rfl,h0⟩
 case round=>
  obtain ⟨k,hk,rfl,hJk⟩:=hrel
  by_cases hlt:k<zs.length
  ·have hck:=((hJ _ _ hJk).cell (p:=⟨b,off+k,none⟩) hb).trans (hcs k hlt)
   obtain ⟨fn,tmps,assign,body,hy,hR⟩:=hY _ zs[k] wr hJk (by rw [List.length_take];omega)
   gi_wp2
   refine hR.mono ?_
   rintro e W3 ⟨rfl,hJ3,_⟩
   gi_wp2
   go_roundw
   case rel=>exact ⟨k+1,by omega,by simp,by rw [List.take_succ_eq_append_getElem hlt];exact hJ3⟩
   case measure=>simp [intOf];omega
  ·obtain rfl:k=zs.length:=by omega
   rw [List.take_length] at hJk
   gi_wp2
   go_end0
   exact ⟨⟨_,rfl⟩,hJk⟩
set_option maxHeartbeats 2000000 in
theorem w90 (n:Nat) (w W:World) (l Bs cap:Nat) (a:Option Addr) (hBs:Bs<w.heap.size) (J:List (List UInt8)->World->Prop) (hJ: ∀pre W1,J pre W1->Below w.heap.size w W1) (hc:w.cell? ⟨Bs,0,none⟩=some (.slice a 0 cap)) (h0:J [] W):
  CallsIn Fence.wide n Tryz.prog 237 #[.func (.yield l) #[] #[],.pointer (some ⟨Bs,0,none⟩)] W fun e W'=>(∃v,e= .returned v)/\J [] W':=by
 have hc0:=((hJ _ _ h0).cell (p:=⟨Bs,0,none⟩) hBs).trans hc
 refine callsIn_of_wp Tryz.func237 rfl trivial ?_ rfl
 simp only [Tryz.ntmps237,List.size_toArray,List.length_cons,List.length_nil,Nat.reduceAdd,Nat.reduceSub,Array.replicate_succ,Array.replicate_zero,List.push_toArray,List.append_toArray,List.nil_append,List.cons_append]
 gi_wp2
 gi_loopw [7] (fun i wr=>i= .int .i64 0/\J [] wr) (fun _ _=>0)
 case atStart=>exact ⟨rfl,h0⟩
 case round=>
  obtain ⟨rfl,hJs⟩:=hrel
  gi_wp2
  go_end0
  exact ⟨⟨_,rfl⟩,hJs⟩
theorem u1r {σ:Hv} {w:World} (Bs:Nat) (v:Value) (l:List ByteArray) (hV:View σ w) (hB:σ Bs=some (.cells #[v] 44 (0,0))) (hr:RSl 1 (REnc Qj) σ v l) (hs:Sml l.length):
  Calls Tryz.prog 274 #[.slice none 0 0,.func (.func 237) #[] #[.pointer (some ⟨Bs,0,none⟩)]] w fun e w1=> ∃v1,e= .returned v1/\Grow [] σ w σ w1/\((vec v1 9 1 l.length (l.flatMap Qj)).ok w1/\ ∀k,(vec v1 9 1 l.length (l.flatMap Qj)).foot=some k->w.heap.size<=k/\σ k=none):=by
 have hBw:=hV _ _ hB
 have hBl:=lt_of_block hBw
 have hBc:w.cell? ⟨Bs,0,none⟩=some v:=by simp [World.cell?,hBw]
 have hlen:(l.map (·.data.toList)).length=l.length:=List.length_map _
 have hgive:v86 Fence.wide 2 Tryz.prog 237 #[.pointer (some ⟨Bs,0,none⟩)] (l.map (·.data.toList)) w:=by
  intro lp J W _ _ hJB hY h0
  obtain ⟨a,cap,rfl,h1,h2,hel⟩:=hr
  cases hl0:l with
  |nil=>
   subst hl0
   exact w90 2 w W lp Bs cap a hBl J hJB hBc h0
  |cons x l'=>
   obtain ⟨ad,cs,rfl,_,hrow0,hcs0⟩:=hel 0 x (by rw [hl0];rfl)
   have cell0:=(hrow0.row hV) 0 _ (by rw [hcs0];rfl)
   obtain ⟨ab,ao,asp⟩:=ad
   have hsp:asp=none:=by
    cases asp with
    |none=>rfl
    |some s=>
     have:=hrow0 0 (.string x) (by rw [hcs0];rfl)
     simp [Hv.cell,Addr.add] at this
     split at this<;>simp at this
   subst hsp
   have hbl:ab<w.heap.size:=by
    have:=hrow0 0 (.string x) (by rw [hcs0];rfl)
    simp only [Ui] at this
    unfold Hv.cell at this
    simp only at this
    cases hq:σ ab with
    |none=>rw [hq] at this;simp at this
    |some o=>exact lt_of_block (hV _ _ hq)
   rw [←hl0]
   have hcome:=w9z 2 (by omega) w W lp Bs ab ao cap (l.map (·.data.toList)) (by rw [hlen];exact h2) hBl hbl J hJB (by rw [hlen];exact hBc) (fun j hj=>by
    rw [hlen] at hj
    obtain ⟨y,hy⟩:=getq hj
    obtain ⟨ad',cs',had,_,hrow,hcs⟩:=hel j y hy
    cases had
    have hc:=(hrow.row hV) 0 (.string y) (by rw [hcs];rfl)
    rw [q1g,Ui] at hc
    rw [List.getElem?_map,hy]
    simpa [encStr] using hc) hY h0
   exact hcome
 refine (callsIn_wide (n:=3)).1 ((j7t (ρ:=Tryz.sorted185_ren) {Tryz.sorted185 with} Fence.wide 3 trivial rfl (by omega) 237 _ trivial (enters_of Tryz.func237 (by kernel_rfl) rfl) (l.map (·.data.toList)) (by rw [hlen];exact (q4u hs (show 16<=32768 by omega)).2) (by rw [hlen];exact (q4u hs (by omega)).1) w hgive).mono ?_)
 rintro e w1 ⟨v1,rfl,hown,hbel⟩
 rw [hlen] at hown
 have hfl:(l.map (·.data.toList)).map encStr=l.flatMap Qj:=(Rw l).symm
 rw [hfl] at hown
 have hsame: ∀b,b<w.heap.size->w1.heap[b]? =w.heap[b]? :=fun b hb=>hbel.block b hb
 refine ⟨v1,rfl,⟨⟨hbel.os,hbel.tape,hbel.output,hbel.size,fun k hk _=>hbel.block k hk⟩,fun b o hb=>(hbel.block b (lt_of_block (hV b o hb))).trans (hV b o hb),.refl _,fun _ _ _=>rfl⟩,?_,?_⟩
 ·exact ⟨hown.1,hown.2.imp id fun ⟨g,cap,cur,e1,_,e3⟩=>⟨g,cap,cur,e1,Nat.zero_le _,e3⟩⟩
 ·intro k hk
  have hge:w.heap.size<=k:=(hown.lt k hk).1
  refine ⟨hge,?_⟩
  cases hq:σ k with
  |none=>rfl
  |some o=>have:=lt_of_block (hV k o hq);omega
end Go.Proofs.YtfiomedjdipbgaaGreatDoor
end
