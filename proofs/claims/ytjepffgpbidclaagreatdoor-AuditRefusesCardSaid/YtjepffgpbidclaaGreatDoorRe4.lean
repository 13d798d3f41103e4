/- For every input AuditRefuses returns true and leaves its arguments as they were. This is part 4 of 10. Conditions: those in the statements. -/
import Derived.Test.YtjepffgpbidclaaGreatDoorProg
import Derived.Test.YtjepffgpbidclaaGreatDoorRe3
import Derived.Lib.ValidU
import Derived.Lib.ItoaNum
import Derived.KernelRfl
import Derived.Conc.MuLone
import Derived.Shelf.Small.Bits
import Derived.Shelf.Utf8.RuneCount
import Derived.Shelf.Strconv.Atoi
import Derived.Shelf.Strconv.Itoa0
import Derived.Shelf.Strconv.Itoa1
import Derived.Shelf.LaysM
import Derived.Shelf.Strconv.Itoa2
import Derived.Shelf.Strconv.Itoa3
import Derived.Shelf.Strconv.AtoiErrFast
import Derived.Shelf.Strconv.ParseIntEmpty
import Derived.Shelf.Strconv.AtoiFail
import Derived.Shelf.Strconv.Clone
import Derived.Shelf.Strconv.SyntaxError
import Derived.Shelf.LaysC
import Derived.Shelf.Strconv.ToError
import Derived.Shelf.Strconv.Lower
import Derived.Shelf.Strconv.ParseUint10
import Derived.Shelf.Strconv.ParseUint10Empty
import Derived.Shelf.Strconv.ParseUint10Any
import Derived.Shelf.Strconv.ParseInt10
import Derived.Shelf.Strconv.AtoiLong
import Derived.Shelf.Strconv.AtoiInnerAll
import Derived.Shelf.Strconv.RangeError
import Derived.Shelf.Strconv.ToErrorRange
import Derived.Shelf.Strconv.AtoiAll
import Derived.Shelf.Strconv.ErrVarAll
import Derived.Shelf.Strings.Search1
import Derived.Shelf.Strings.Search2
import Derived.Shelf.Strings.Search3
import Derived.Shelf.Strings.Count
import Derived.Shelf.Strings.Shaped
import Derived.Shelf.Sort.Plain
import Derived.Shelf.Strings.Split
import Derived.Shelf.Strings.Fields
import Derived.Shelf.Strings.SplitShaped
import Derived.Shelf.Unicode.Latin
import Derived.Shelf.Unicode.Decode
import Derived.Shelf.Strings.RuneCount
import Derived.Shelf.Strings.Explode
import Derived.Shelf.Unicode.DecodeSlow
import Derived.Shelf.Unicode.DecodeAny
import Derived.Shelf.Unicode.Is16White
import Derived.Shelf.Unicode.IsSpaceAny
import Derived.Shelf.Unicode.Is16Any
import Derived.Shelf.Unicode.Is32Any
import Derived.Shelf.Unicode.ExclAny
import Derived.Ground.Names2Prog
import Derived.Shelf.Slices.Clone
import Derived.Shelf.Slices.CompactS
import Derived.Shelf.Slices.SearchI
import Derived.Shelf.Slices.Delete
import Derived.Shelf.Slices.Cells
import Derived.Shelf.Slices.In.SortNone
import Derived.Shelf.Slices.Empties
import Derived.Ground.SlgnProg
import Derived.Shelf.SlicesE.Clone
import Derived.Ground.NamesProg
import Derived.Shelf.Unicode.ValidAny
import Derived.Shelf.SlIter.Sorted
import Derived.Ground.GgzProg
import Derived.Shelf.SlIter.Collect
import Derived.WalkKit
import Derived.OwnWalkIn
import Derived.TacticsInMore
import Derived.LoopNIn
import Derived.LoopIn
import Derived.RangeFuncLeaves
import Derived.Lib.AppendIntMem
noncomputable section
set_option maxRecDepth 100000
open Go Go.RowKit Go.Fl Go.Fl.Lk Go.Fx
namespace Go.En
abbrev Two(p:Prop):Prop:=p/\p
abbrev Uk:Type:=(List (ByteArray)->Prop)->Prop
def q14:Uk:=fun K=>K [B8 [104,111,109,101],B8 [115,104,111,112]]
abbrev Jq:Type:=Int->Int->Int->Int->Int->(Envt->Prop)->Prop
def q0d(Za:Uk):Jq:=fun salt hold cut one two K=>(26:Int)≠(0:Int)/\(↑((B8 [115]).size+(bsOf [Go.IntKind.u8.wrap ((97:Int)+salt.tmod (26:Int))]).size):Int)<=(9223372036854775807:Int)/\InI hold/\(50:Int)≠(0:Int)/\InI (hold.tmod (50:Int)*(20:Int))/\Lp2 (fun Qb Gc w0s=>[B8 [102,97,115,116,45,102,108,97,103],B8 [115,104,111,112,45,102,108,97,103],B8 [115,108,111,119,45,102,108,97,103],B8 [116,111,112,45,102,108,97,103]].length<=(9223372036854775807:Nat)->Cnd (Qb<(↑[B8 [102,97,115,116,45,102,108,97,103],B8 [115,104,111,112,45,102,108,97,103],B8 [115,108,111,119,45,102,108,97,103],B8 [116,111,112,45,102,108,97,103]].length:Int)) (((0:Int)<=Qb/\Qb<(↑[B8 [102,97,115,116,45,102,108,97,103],B8 [115,104,111,112,45,102,108,97,103],B8 [115,108,111,119,45,102,108,97,103],B8 [116,111,112,45,102,108,97,103]].length:Int))/\ ∀y2,[B8 [102,97,115,116,45,102,108,97,103],B8 [115,104,111,112,45,102,108,97,103],B8 [115,108,111,119,45,102,108,97,103],B8 [116,111,112,45,102,108,97,103]][Qb.toNat]? =some y2->Lp2 (fun Qf Gd j5q=>Cnd (Qf<=3) (InI (Qf*10)/\Sml (Gd++[Val.mk (2:Int) (Qf*10) (B8 []) []]).length/\InI (Qf+1)/\j5q (Qf+1) (Gd++[Val.mk (2:Int) (Qf*10) (B8 []) []])) (Sml (Gc++[Flg.mk y2 (2:Int) Gd true (3:Int) [] [] [] (Srv.mk (3:Int) (B8 []) (B8 []) (B8 []) [])]).length/\InI (Qb+1)/\w0s (Qb+1) (Gc++[Flg.mk y2 (2:Int) Gd true (3:Int) [] [] [] (Srv.mk (3:Int) (B8 []) (B8 []) (B8 []) [])]))) (1:Int) []) (Lp2 (fun Ql Hb j5r=>Cnd (Ql<2) (Za fun Qe=>At Qe Ql fun y4=>Za fun W8=>At W8 Ql fun y7=>(↑((B8 [115]++bsOf [Go.IntKind.u8.wrap ((97:Int)+salt.tmod (26:Int))]).size+y7.size):Int)<=(9223372036854775807:Int)/\Sml (Hb++[Lay_.mk y4 (B8 [117,115,101,114]) (B8 [115]++bsOf [Go.IntKind.u8.wrap ((97:Int)+salt.tmod (26:Int))]++y7) (hold.tmod (50:Int)*(20:Int)) (0:Int) []]).length/\InI (Ql+1)/\j5r (Ql+1) (Hb++[Lay_.mk y4 (B8 [117,115,101,114]) (B8 [115]++bsOf [Go.IntKind.u8.wrap ((97:Int)+salt.tmod (26:Int))]++y7) (hold.tmod (50:Int)*(20:Int)) (0:Int) []])) (InI one/\(9998:Int)≠(0:Int)/\InI ((1:Int)+one.tmod (9998:Int))/\InI ((1:Int)+one.tmod (9998:Int)+(1:Int))/\InI two/\InI ((9999:Int) - ((1:Int)+one.tmod (9998:Int)))/\(9999:Int) - ((1:Int)+one.tmod (9998:Int))≠(0:Int)/\InI ((1:Int)+one.tmod (9998:Int)+(1:Int)+two.tmod ((9999:Int) - ((1:Int)+one.tmod (9998:Int))))/\InI (hold.tmod (50:Int)*(20:Int)+(1:Int))/\InI cut/\InI ((10000:Int) - hold.tmod (50:Int)*(20:Int))/\InI ((10000:Int) - hold.tmod (50:Int)*(20:Int) - (1:Int))/\(10000:Int) - hold.tmod (50:Int)*(20:Int) - (1:Int)≠(0:Int)/\InI (hold.tmod (50:Int)*(20:Int)+(1:Int)+cut.tmod ((10000:Int) - hold.tmod (50:Int)*(20:Int) - (1:Int)))/\Lp2 (fun Qe Hw z7a=>Cnd (Qe<4) ((2:Int)≠(0:Int)/\((0:Int)<=Qe/\Qe<(↑[B8 [102,97,115,116,45,102,108,97,103],B8 [115,104,111,112,45,102,108,97,103],B8 [115,108,111,119,45,102,108,97,103],B8 [116,111,112,45,102,108,97,103]].length:Int))/\ ∀y4,[B8 [102,97,115,116,45,102,108,97,103],B8 [115,104,111,112,45,102,108,97,103],B8 [115,108,111,119,45,102,108,97,103],B8 [116,111,112,45,102,108,97,103]][Qe.toNat]? =some y4->(((0:Int)<=Qe/\Qe<(↑[B8 [98,108,117,101],B8 [102,97,115,116],B8 [103,114,101,101,110],B8 [115,108,111,119]].length:Int))/\ ∀y6,[B8 [98,108,117,101],B8 [102,97,115,116],B8 [103,114,101,101,110],B8 [115,108,111,119]][Qe.toNat]? =some y6->(Za fun q57=>((0:Int)<=Qe.tmod (2:Int)/\Qe.tmod (2:Int)<(↑q57.length:Int))/\ ∀y9,q57[(Qe.tmod (2:Int)).toNat]? =some y9->(↑((B8 [115]++bsOf [Go.IntKind.u8.wrap ((97:Int)+salt.tmod (26:Int))]).size+(bsOf [Go.IntKind.u8.wrap ((48:Int)+Go.IntKind.u8.wrap Qe)]).size):Int)<=(9223372036854775807:Int)/\Cnd ((2:Int)<=Qe) (Sml (Hw++[Exper.mk y6 y9 y4 (B8 [115]++bsOf [Go.IntKind.u8.wrap ((97:Int)+salt.tmod (26:Int))]++bsOf [Go.IntKind.u8.wrap ((48:Int)+Go.IntKind.u8.wrap Qe)]) (2:Int) [Spn.mk (hold.tmod (50:Int)*(20:Int)+(1:Int)+cut.tmod ((10000:Int) - hold.tmod (50:Int)*(20:Int) - (1:Int))) (10000:Int)] [Rng.mk (0:Int) ((1:Int)+one.tmod (9998:Int)) (1:Int),Rng.mk ((1:Int)+one.tmod (9998:Int)) ((1:Int)+one.tmod (9998:Int)+(1:Int)+two.tmod ((9999:Int) - ((1:Int)+one.tmod (9998:Int)))) (2:Int),Rng.mk ((1:Int)+one.tmod (9998:Int)+(1:Int)+two.tmod ((9999:Int) - ((1:Int)+one.tmod (9998:Int)))) (10000:Int) (3:Int)] (Ex.mk (1:Int) (B8 []) (B8 []) [] [])]).length/\InI (Qe+1)/\z7a (Qe+1) (Hw++[Exper.mk y6 y9 y4 (B8 [115]++bsOf [Go.IntKind.u8.wrap ((97:Int)+salt.tmod (26:Int))]++bsOf [Go.IntKind.u8.wrap ((48:Int)+Go.IntKind.u8.wrap Qe)]) (2:Int) [Spn.mk (hold.tmod (50:Int)*(20:Int)+(1:Int)+cut.tmod ((10000:Int) - hold.tmod (50:Int)*(20:Int) - (1:Int))) (10000:Int)] [Rng.mk (0:Int) ((1:Int)+one.tmod (9998:Int)) (1:Int),Rng.mk ((1:Int)+one.tmod (9998:Int)) ((1:Int)+one.tmod (9998:Int)+(1:Int)+two.tmod ((9999:Int) - ((1:Int)+one.tmod (9998:Int)))) (2:Int),Rng.mk ((1:Int)+one.tmod (9998:Int)+(1:Int)+two.tmod ((9999:Int) - ((1:Int)+one.tmod (9998:Int)))) (10000:Int) (3:Int)] (Ex.mk (1:Int) (B8 []) (B8 []) [] [])])) (Sml (Hw++[Exper.mk y6 y9 y4 (B8 [115]++bsOf [Go.IntKind.u8.wrap ((97:Int)+salt.tmod (26:Int))]++bsOf [Go.IntKind.u8.wrap ((48:Int)+Go.IntKind.u8.wrap Qe)]) (2:Int) [Spn.mk (hold.tmod (50:Int)*(20:Int)) (hold.tmod (50:Int)*(20:Int)+(1:Int)+cut.tmod ((10000:Int) - hold.tmod (50:Int)*(20:Int) - (1:Int)))] [Rng.mk (0:Int) ((1:Int)+one.tmod (9998:Int)) (1:Int),Rng.mk ((1:Int)+one.tmod (9998:Int)) ((1:Int)+one.tmod (9998:Int)+(1:Int)+two.tmod ((9999:Int) - ((1:Int)+one.tmod (9998:Int)))) (2:Int),Rng.mk ((1:Int)+one.tmod (9998:Int)+(1:Int)+two.tmod ((9999:Int) - ((1:Int)+one.tmod (9998:Int)))) (10000:Int) (3:Int)] (Ex.mk (1:Int) (B8 []) (B8 []) [] [])]).length/\InI (Qe+1)/\z7a (Qe+1) (Hw++[Exper.mk y6 y9 y4 (B8 [115]++bsOf [Go.IntKind.u8.wrap ((97:Int)+salt.tmod (26:Int))]++bsOf [Go.IntKind.u8.wrap ((48:Int)+Go.IntKind.u8.wrap Qe)]) (2:Int) [Spn.mk (hold.tmod (50:Int)*(20:Int)) (hold.tmod (50:Int)*(20:Int)+(1:Int)+cut.tmod ((10000:Int) - hold.tmod (50:Int)*(20:Int) - (1:Int)))] [Rng.mk (0:Int) ((1:Int)+one.tmod (9998:Int)) (1:Int),Rng.mk ((1:Int)+one.tmod (9998:Int)) ((1:Int)+one.tmod (9998:Int)+(1:Int)+two.tmod ((9999:Int) - ((1:Int)+one.tmod (9998:Int)))) (2:Int),Rng.mk ((1:Int)+one.tmod (9998:Int)+(1:Int)+two.tmod ((9999:Int) - ((1:Int)+one.tmod (9998:Int)))) (10000:Int) (3:Int)] (Ex.mk (1:Int) (B8 []) (B8 []) [] [])])))/\(↑((B8 [115]++bsOf [Go.IntKind.u8.wrap ((97:Int)+salt.tmod (26:Int))]).size+(bsOf [Go.IntKind.u8.wrap ((48:Int)+Go.IntKind.u8.wrap Qe)]).size):Int)<=(9223372036854775807:Int)/\Za fun q57=>((0:Int)<=Qe.tmod (2:Int)/\Qe.tmod (2:Int)<(↑q57.length:Int))/\ ∀y9,q57[(Qe.tmod (2:Int)).toNat]? =some y9->Cnd ((2:Int)<=Qe) (Sml (Hw++[Exper.mk y6 y9 y4 (B8 [115]++bsOf [Go.IntKind.u8.wrap ((97:Int)+salt.tmod (26:Int))]++bsOf [Go.IntKind.u8.wrap ((48:Int)+Go.IntKind.u8.wrap Qe)]) (2:Int) [Spn.mk (hold.tmod (50:Int)*(20:Int)+(1:Int)+cut.tmod ((10000:Int) - hold.tmod (50:Int)*(20:Int) - (1:Int))) (10000:Int)] [Rng.mk (0:Int) ((1:Int)+one.tmod (9998:Int)) (1:Int),Rng.mk ((1:Int)+one.tmod (9998:Int)) ((1:Int)+one.tmod (9998:Int)+(1:Int)+two.tmod ((9999:Int) - ((1:Int)+one.tmod (9998:Int)))) (2:Int),Rng.mk ((1:Int)+one.tmod (9998:Int)+(1:Int)+two.tmod ((9999:Int) - ((1:Int)+one.tmod (9998:Int)))) (10000:Int) (3:Int)] (Ex.mk (1:Int) (B8 []) (B8 []) [] [])]).length/\InI (Qe+1)/\z7a (Qe+1) (Hw++[Exper.mk y6 y9 y4 (B8 [115]++bsOf [Go.IntKind.u8.wrap ((97:Int)+salt.tmod (26:Int))]++bsOf [Go.IntKind.u8.wrap ((48:Int)+Go.IntKind.u8.wrap Qe)]) (2:Int) [Spn.mk (hold.tmod (50:Int)*(20:Int)+(1:Int)+cut.tmod ((10000:Int) - hold.tmod (50:Int)*(20:Int) - (1:Int))) (10000:Int)] [Rng.mk (0:Int) ((1:Int)+one.tmod (9998:Int)) (1:Int),Rng.mk ((1:Int)+one.tmod (9998:Int)) ((1:Int)+one.tmod (9998:Int)+(1:Int)+two.tmod ((9999:Int) - ((1:Int)+one.tmod (9998:Int)))) (2:Int),Rng.mk ((1:Int)+one.tmod (9998:Int)+(1:Int)+two.tmod ((9999:Int) - ((1:Int)+one.tmod (9998:Int)))) (10000:Int) (3:Int)] (Ex.mk (1:Int) (B8 []) (B8 []) [] [])])) (Sml (Hw++[Exper.mk y6 y9 y4 (B8 [115]++bsOf [Go.IntKind.u8.wrap ((97:Int)+salt.tmod (26:Int))]++bsOf [Go.IntKind.u8.wrap ((48:Int)+Go.IntKind.u8.wrap Qe)]) (2:Int) [Spn.mk (hold.tmod (50:Int)*(20:Int)) (hold.tmod (50:Int)*(20:Int)+(1:Int)+cut.tmod ((10000:Int) - hold.tmod (50:Int)*(20:Int) - (1:Int)))] [Rng.mk (0:Int) ((1:Int)+one.tmod (9998:Int)) (1:Int),Rng.mk ((1:Int)+one.tmod (9998:Int)) ((1:Int)+one.tmod (9998:Int)+(1:Int)+two.tmod ((9999:Int) - ((1:Int)+one.tmod (9998:Int)))) (2:Int),Rng.mk ((1:Int)+one.tmod (9998:Int)+(1:Int)+two.tmod ((9999:Int) - ((1:Int)+one.tmod (9998:Int)))) (10000:Int) (3:Int)] (Ex.mk (1:Int) (B8 []) (B8 []) [] [])]).length/\InI (Qe+1)/\z7a (Qe+1) (Hw++[Exper.mk y6 y9 y4 (B8 [115]++bsOf [Go.IntKind.u8.wrap ((97:Int)+salt.tmod (26:Int))]++bsOf [Go.IntKind.u8.wrap ((48:Int)+Go.IntKind.u8.wrap Qe)]) (2:Int) [Spn.mk (hold.tmod (50:Int)*(20:Int)) (hold.tmod (50:Int)*(20:Int)+(1:Int)+cut.tmod ((10000:Int) - hold.tmod (50:Int)*(20:Int) - (1:Int)))] [Rng.mk (0:Int) ((1:Int)+one.tmod (9998:Int)) (1:Int),Rng.mk ((1:Int)+one.tmod (9998:Int)) ((1:Int)+one.tmod (9998:Int)+(1:Int)+two.tmod ((9999:Int) - ((1:Int)+one.tmod (9998:Int)))) (2:Int),Rng.mk ((1:Int)+one.tmod (9998:Int)+(1:Int)+two.tmod ((9999:Int) - ((1:Int)+one.tmod (9998:Int)))) (10000:Int) (3:Int)] (Ex.mk (1:Int) (B8 []) (B8 []) [] [])])))/\(Za fun W8=>((0:Int)<=Qe.tmod (2:Int)/\Qe.tmod (2:Int)<(↑W8.length:Int))/\ ∀y7,W8[(Qe.tmod (2:Int)).toNat]? =some y7->(((0:Int)<=Qe/\Qe<(↑[B8 [98,108,117,101],B8 [102,97,115,116],B8 [103,114,101,101,110],B8 [115,108,111,119]].length:Int))/\ ∀y9,[B8 [98,108,117,101],B8 [102,97,115,116],B8 [103,114,101,101,110],B8 [115,108,111,119]][Qe.toNat]? =some y9->(↑((B8 [115]++bsOf [Go.IntKind.u8.wrap ((97:Int)+salt.tmod (26:Int))]).size+(bsOf [Go.IntKind.u8.wrap ((48:Int)+Go.IntKind.u8.wrap Qe)]).size):Int)<=(9223372036854775807:Int)/\Cnd ((2:Int)<=Qe) (Sml (Hw++[Exper.mk y9 y7 y4 (B8 [115]++bsOf [Go.IntKind.u8.wrap ((97:Int)+salt.tmod (26:Int))]++bsOf [Go.IntKind.u8.wrap ((48:Int)+Go.IntKind.u8.wrap Qe)]) (2:Int) [Spn.mk (hold.tmod (50:Int)*(20:Int)+(1:Int)+cut.tmod ((10000:Int) - hold.tmod (50:Int)*(20:Int) - (1:Int))) (10000:Int)] [Rng.mk (0:Int) ((1:Int)+one.tmod (9998:Int)) (1:Int),Rng.mk ((1:Int)+one.tmod (9998:Int)) ((1:Int)+one.tmod (9998:Int)+(1:Int)+two.tmod ((9999:Int) - ((1:Int)+one.tmod (9998:Int)))) (2:Int),Rng.mk ((1:Int)+one.tmod (9998:Int)+(1:Int)+two.tmod ((9999:Int) - ((1:Int)+one.tmod (9998:Int)))) (10000:Int) (3:Int)] (Ex.mk (1:Int) (B8 []) (B8 []) [] [])]).length/\InI (Qe+1)/\z7a (Qe+1) (Hw++[Exper.mk y9 y7 y4 (B8 [115]++bsOf [Go.IntKind.u8.wrap ((97:Int)+salt.tmod (26:Int))]++bsOf [Go.IntKind.u8.wrap ((48:Int)+Go.IntKind.u8.wrap Qe)]) (2:Int) [Spn.mk (hold.tmod (50:Int)*(20:Int)+(1:Int)+cut.tmod ((10000:Int) - hold.tmod (50:Int)*(20:Int) - (1:Int))) (10000:Int)] [Rng.mk (0:Int) ((1:Int)+one.tmod (9998:Int)) (1:Int),Rng.mk ((1:Int)+one.tmod (9998:Int)) ((1:Int)+one.tmod (9998:Int)+(1:Int)+two.tmod ((9999:Int) - ((1:Int)+one.tmod (9998:Int)))) (2:Int),Rng.mk ((1:Int)+one.tmod (9998:Int)+(1:Int)+two.tmod ((9999:Int) - ((1:Int)+one.tmod (9998:Int)))) (10000:Int) (3:Int)] (Ex.mk (1:Int) (B8 []) (B8 []) [] [])])) (Sml (Hw++[Exper.mk y9 y7 y4 (B8 [115]++bsOf [Go.IntKind.u8.wrap ((97:Int)+salt.tmod (26:Int))]++bsOf [Go.IntKind.u8.wrap ((48:Int)+Go.IntKind.u8.wrap Qe)]) (2:Int) [Spn.mk (hold.tmod (50:Int)*(20:Int)) (hold.tmod (50:Int)*(20:Int)+(1:Int)+cut.tmod ((10000:Int) - hold.tmod (50:Int)*(20:Int) - (1:Int)))] [Rng.mk (0:Int) ((1:Int)+one.tmod (9998:Int)) (1:Int),Rng.mk ((1:Int)+one.tmod (9998:Int)) ((1:Int)+one.tmod (9998:Int)+(1:Int)+two.tmod ((9999:Int) - ((1:Int)+one.tmod (9998:Int)))) (2:Int),Rng.mk ((1:Int)+one.tmod (9998:Int)+(1:Int)+two.tmod ((9999:Int) - ((1:Int)+one.tmod (9998:Int)))) (10000:Int) (3:Int)] (Ex.mk (1:Int) (B8 []) (B8 []) [] [])]).length/\InI (Qe+1)/\z7a (Qe+1) (Hw++[Exper.mk y9 y7 y4 (B8 [115]++bsOf [Go.IntKind.u8.wrap ((97:Int)+salt.tmod (26:Int))]++bsOf [Go.IntKind.u8.wrap ((48:Int)+Go.IntKind.u8.wrap Qe)]) (2:Int) [Spn.mk (hold.tmod (50:Int)*(20:Int)) (hold.tmod (50:Int)*(20:Int)+(1:Int)+cut.tmod ((10000:Int) - hold.tmod (50:Int)*(20:Int) - (1:Int)))] [Rng.mk (0:Int) ((1:Int)+one.tmod (9998:Int)) (1:Int),Rng.mk ((1:Int)+one.tmod (9998:Int)) ((1:Int)+one.tmod (9998:Int)+(1:Int)+two.tmod ((9999:Int) - ((1:Int)+one.tmod (9998:Int)))) (2:Int),Rng.mk ((1:Int)+one.tmod (9998:Int)+(1:Int)+two.tmod ((9999:Int) - ((1:Int)+one.tmod (9998:Int)))) (10000:Int) (3:Int)] (Ex.mk (1:Int) (B8 []) (B8 []) [] [])])))/\(↑((B8 [115]++bsOf [Go.IntKind.u8.wrap ((97:Int)+salt.tmod (26:Int))]).size+(bsOf [Go.IntKind.u8.wrap ((48:Int)+Go.IntKind.u8.wrap Qe)]).size):Int)<=(9223372036854775807:Int)/\((0:Int)<=Qe/\Qe<(↑[B8 [98,108,117,101],B8 [102,97,115,116],B8 [103,114,101,101,110],B8 [115,108,111,119]].length:Int))/\ ∀y9,[B8 [98,108,117,101],B8 [102,97,115,116],B8 [103,114,101,101,110],B8 [115,108,111,119]][Qe.toNat]? =some y9->Cnd ((2:Int)<=Qe) (Sml (Hw++[Exper.mk y9 y7 y4 (B8 [115]++bsOf [Go.IntKind.u8.wrap ((97:Int)+salt.tmod (26:Int))]++bsOf [Go.IntKind.u8.wrap ((48:Int)+Go.IntKind.u8.wrap Qe)]) (2:Int) [Spn.mk (hold.tmod (50:Int)*(20:Int)+(1:Int)+cut.tmod ((10000:Int) - hold.tmod (50:Int)*(20:Int) - (1:Int))) (10000:Int)] [Rng.mk (0:Int) ((1:Int)+one.tmod (9998:Int)) (1:Int),Rng.mk ((1:Int)+one.tmod (9998:Int)) ((1:Int)+one.tmod (9998:Int)+(1:Int)+two.tmod ((9999:Int) - ((1:Int)+one.tmod (9998:Int)))) (2:Int),Rng.mk ((1:Int)+one.tmod (9998:Int)+(1:Int)+two.tmod ((9999:Int) - ((1:Int)+one.tmod (9998:Int)))) (10000:Int) (3:Int)] (Ex.mk (1:Int) (B8 []) (B8 []) [] [])]).length/\InI (Qe+1)/\z7a (Qe+1) (Hw++[Exper.mk y9 y7 y4 (B8 [115]++bsOf [Go.IntKind.u8.wrap ((97:Int)+salt.tmod (26:Int))]++bsOf [Go.IntKind.u8.wrap ((48:Int)+Go.IntKind.u8.wrap Qe)]) (2:Int) [Spn.mk (hold.tmod (50:Int)*(20:Int)+(1:Int)+cut.tmod ((10000:Int) - hold.tmod (50:Int)*(20:Int) - (1:Int))) (10000:Int)] [Rng.mk (0:Int) ((1:Int)+one.tmod (9998:Int)) (1:Int),Rng.mk ((1:Int)+one.tmod (9998:Int)) ((1:Int)+one.tmod (9998:Int)+(1:Int)+two.tmod ((9999:Int) - ((1:Int)+one.tmod (9998:Int)))) (2:Int),Rng.mk ((1:Int)+one.tmod (9998:Int)+(1:Int)+two.tmod ((9999:Int) - ((1:Int)+one.tmod (9998:Int)))) (10000:Int) (3:Int)] (Ex.mk (1:Int) (B8 []) (B8 []) [] [])])) (Sml (Hw++[Exper.mk y9 y7 y4 (B8 [115]++bsOf [Go.IntKind.u8.wrap ((97:Int)+salt.tmod (26:Int))]++bsOf [Go.IntKind.u8.wrap ((48:Int)+Go.IntKind.u8.wrap Qe)]) (2:Int) [Spn.mk (hold.tmod (50:Int)*(20:Int)) (hold.tmod (50:Int)*(20:Int)+(1:Int)+cut.tmod ((10000:Int) - hold.tmod (50:Int)*(20:Int) - (1:Int)))] [Rng.mk (0:Int) ((1:Int)+one.tmod (9998:Int)) (1:Int),Rng.mk ((1:Int)+one.tmod (9998:Int)) ((1:Int)+one.tmod (9998:Int)+(1:Int)+two.tmod ((9999:Int) - ((1:Int)+one.tmod (9998:Int)))) (2:Int),Rng.mk ((1:Int)+one.tmod (9998:Int)+(1:Int)+two.tmod ((9999:Int) - ((1:Int)+one.tmod (9998:Int)))) (10000:Int) (3:Int)] (Ex.mk (1:Int) (B8 []) (B8 []) [] [])]).length/\InI (Qe+1)/\z7a (Qe+1) (Hw++[Exper.mk y9 y7 y4 (B8 [115]++bsOf [Go.IntKind.u8.wrap ((97:Int)+salt.tmod (26:Int))]++bsOf [Go.IntKind.u8.wrap ((48:Int)+Go.IntKind.u8.wrap Qe)]) (2:Int) [Spn.mk (hold.tmod (50:Int)*(20:Int)) (hold.tmod (50:Int)*(20:Int)+(1:Int)+cut.tmod ((10000:Int) - hold.tmod (50:Int)*(20:Int) - (1:Int)))] [Rng.mk (0:Int) ((1:Int)+one.tmod (9998:Int)) (1:Int),Rng.mk ((1:Int)+one.tmod (9998:Int)) ((1:Int)+one.tmod (9998:Int)+(1:Int)+two.tmod ((9999:Int) - ((1:Int)+one.tmod (9998:Int)))) (2:Int),Rng.mk ((1:Int)+one.tmod (9998:Int)+(1:Int)+two.tmod ((9999:Int) - ((1:Int)+one.tmod (9998:Int)))) (10000:Int) (3:Int)] (Ex.mk (1:Int) (B8 []) (B8 []) [] [])])))/\(↑((B8 [115]++bsOf [Go.IntKind.u8.wrap ((97:Int)+salt.tmod (26:Int))]).size+(bsOf [Go.IntKind.u8.wrap ((48:Int)+Go.IntKind.u8.wrap Qe)]).size):Int)<=(9223372036854775807:Int)/\(((0:Int)<=Qe/\Qe<(↑[B8 [98,108,117,101],B8 [102,97,115,116],B8 [103,114,101,101,110],B8 [115,108,111,119]].length:Int))/\ ∀y6,[B8 [98,108,117,101],B8 [102,97,115,116],B8 [103,114,101,101,110],B8 [115,108,111,119]][Qe.toNat]? =some y6->Za fun q57=>((0:Int)<=Qe.tmod (2:Int)/\Qe.tmod (2:Int)<(↑q57.length:Int))/\ ∀y9,q57[(Qe.tmod (2:Int)).toNat]? =some y9->Cnd ((2:Int)<=Qe) (Sml (Hw++[Exper.mk y6 y9 y4 (B8 [115]++bsOf [Go.IntKind.u8.wrap ((97:Int)+salt.tmod (26:Int))]++bsOf [Go.IntKind.u8.wrap ((48:Int)+Go.IntKind.u8.wrap Qe)]) (2:Int) [Spn.mk (hold.tmod (50:Int)*(20:Int)+(1:Int)+cut.tmod ((10000:Int) - hold.tmod (50:Int)*(20:Int) - (1:Int))) (10000:Int)] [Rng.mk (0:Int) ((1:Int)+one.tmod (9998:Int)) (1:Int),Rng.mk ((1:Int)+one.tmod (9998:Int)) ((1:Int)+one.tmod (9998:Int)+(1:Int)+two.tmod ((9999:Int) - ((1:Int)+one.tmod (9998:Int)))) (2:Int),Rng.mk ((1:Int)+one.tmod (9998:Int)+(1:Int)+two.tmod ((9999:Int) - ((1:Int)+one.tmod (9998:Int)))) (10000:Int) (3:Int)] (Ex.mk (1:Int) (B8 []) (B8 []) [] [])]).length/\InI (Qe+1)/\z7a (Qe+1) (Hw++[Exper.mk y6 y9 y4 (B8 [115]++bsOf [Go.IntKind.u8.wrap ((97:Int)+salt.tmod (26:Int))]++bsOf [Go.IntKind.u8.wrap ((48:Int)+Go.IntKind.u8.wrap Qe)]) (2:Int) [Spn.mk (hold.tmod (50:Int)*(20:Int)+(1:Int)+cut.tmod ((10000:Int) - hold.tmod (50:Int)*(20:Int) - (1:Int))) (10000:Int)] [Rng.mk (0:Int) ((1:Int)+one.tmod (9998:Int)) (1:Int),Rng.mk ((1:Int)+one.tmod (9998:Int)) ((1:Int)+one.tmod (9998:Int)+(1:Int)+two.tmod ((9999:Int) - ((1:Int)+one.tmod (9998:Int)))) (2:Int),Rng.mk ((1:Int)+one.tmod (9998:Int)+(1:Int)+two.tmod ((9999:Int) - ((1:Int)+one.tmod (9998:Int)))) (10000:Int) (3:Int)] (Ex.mk (1:Int) (B8 []) (B8 []) [] [])])) (Sml (Hw++[Exper.mk y6 y9 y4 (B8 [115]++bsOf [Go.IntKind.u8.wrap ((97:Int)+salt.tmod (26:Int))]++bsOf [Go.IntKind.u8.wrap ((48:Int)+Go.IntKind.u8.wrap Qe)]) (2:Int) [Spn.mk (hold.tmod (50:Int)*(20:Int)) (hold.tmod (50:Int)*(20:Int)+(1:Int)+cut.tmod ((10000:Int) - hold.tmod (50:Int)*(20:Int) - (1:Int)))] [Rng.mk (0:Int) ((1:Int)+one.tmod (9998:Int)) (1:Int),Rng.mk ((1:Int)+one.tmod (9998:Int)) ((1:Int)+one.tmod (9998:Int)+(1:Int)+two.tmod ((9999:Int) - ((1:Int)+one.tmod (9998:Int)))) (2:Int),Rng.mk ((1:Int)+one.tmod (9998:Int)+(1:Int)+two.tmod ((9999:Int) - ((1:Int)+one.tmod (9998:Int)))) (10000:Int) (3:Int)] (Ex.mk (1:Int) (B8 []) (B8 []) [] [])]).length/\InI (Qe+1)/\z7a (Qe+1) (Hw++[Exper.mk y6 y9 y4 (B8 [115]++bsOf [Go.IntKind.u8.wrap ((97:Int)+salt.tmod (26:Int))]++bsOf [Go.IntKind.u8.wrap ((48:Int)+Go.IntKind.u8.wrap Qe)]) (2:Int) [Spn.mk (hold.tmod (50:Int)*(20:Int)) (hold.tmod (50:Int)*(20:Int)+(1:Int)+cut.tmod ((10000:Int) - hold.tmod (50:Int)*(20:Int) - (1:Int)))] [Rng.mk (0:Int) ((1:Int)+one.tmod (9998:Int)) (1:Int),Rng.mk ((1:Int)+one.tmod (9998:Int)) ((1:Int)+one.tmod (9998:Int)+(1:Int)+two.tmod ((9999:Int) - ((1:Int)+one.tmod (9998:Int)))) (2:Int),Rng.mk ((1:Int)+one.tmod (9998:Int)+(1:Int)+two.tmod ((9999:Int) - ((1:Int)+one.tmod (9998:Int)))) (10000:Int) (3:Int)] (Ex.mk (1:Int) (B8 []) (B8 []) [] [])])))/\Za fun W8=>((0:Int)<=Qe.tmod (2:Int)/\Qe.tmod (2:Int)<(↑W8.length:Int))/\ ∀y7,W8[(Qe.tmod (2:Int)).toNat]? =some y7->((0:Int)<=Qe/\Qe<(↑[B8 [98,108,117,101],B8 [102,97,115,116],B8 [103,114,101,101,110],B8 [115,108,111,119]].length:Int))/\ ∀y9,[B8 [98,108,117,101],B8 [102,97,115,116],B8 [103,114,101,101,110],B8 [115,108,111,119]][Qe.toNat]? =some y9->Cnd ((2:Int)<=Qe) (Sml (Hw++[Exper.mk y9 y7 y4 (B8 [115]++bsOf [Go.IntKind.u8.wrap ((97:Int)+salt.tmod (26:Int))]++bsOf [Go.IntKind.u8.wrap ((48:Int)+Go.IntKind.u8.wrap Qe)]) (2:Int) [Spn.mk (hold.tmod (50:Int)*(20:Int)+(1:Int)+cut.tmod ((10000:Int) - hold.tmod (50:Int)*(20:Int) - (1:Int))) (10000:Int)] [Rng.mk (0:Int) ((1:Int)+one.tmod (9998:Int)) (1:Int),Rng.mk ((1:Int)+one.tmod (9998:Int)) ((1:Int)+one.tmod (9998:Int)+(1:Int)+two.tmod ((9999:Int) - ((1:Int)+one.tmod (9998:Int)))) (2:Int),Rng.mk ((1:Int)+one.tmod (9998:Int)+(1:Int)+two.tmod ((9999:Int) - ((1:Int)+one.tmod (9998:Int)))) (10000:Int) (3:Int)] (Ex.mk (1:Int) (B8 []) (B8 []) [] [])]).length/\InI (Qe+1)/\z7a (Qe+1) (Hw++[Exper.mk y9 y7 y4 (B8 [115]++bsOf [Go.IntKind.u8.wrap ((97:Int)+salt.tmod (26:Int))]++bsOf [Go.IntKind.u8.wrap ((48:Int)+Go.IntKind.u8.wrap Qe)]) (2:Int) [Spn.mk (hold.tmod (50:Int)*(20:Int)+(1:Int)+cut.tmod ((10000:Int) - hold.tmod (50:Int)*(20:Int) - (1:Int))) (10000:Int)] [Rng.mk (0:Int) ((1:Int)+one.tmod (9998:Int)) (1:Int),Rng.mk ((1:Int)+one.tmod (9998:Int)) ((1:Int)+one.tmod (9998:Int)+(1:Int)+two.tmod ((9999:Int) - ((1:Int)+one.tmod (9998:Int)))) (2:Int),Rng.mk ((1:Int)+one.tmod (9998:Int)+(1:Int)+two.tmod ((9999:Int) - ((1:Int)+one.tmod (9998:Int)))) (10000:Int) (3:Int)] (Ex.mk (1:Int) (B8 []) (B8 []) [] [])])) (Sml (Hw++[Exper.mk y9 y7 y4 (B8 [115]++bsOf [Go.IntKind.u8.wrap ((97:Int)+salt.tmod (26:Int))]++bsOf [Go.IntKind.u8.wrap ((48:Int)+Go.IntKind.u8.wrap Qe)]) (2:Int) [Spn.mk (hold.tmod (50:Int)*(20:Int)) (hold.tmod (50:Int)*(20:Int)+(1:Int)+cut.tmod ((10000:Int) - hold.tmod (50:Int)*(20:Int) - (1:Int)))] [Rng.mk (0:Int) ((1:Int)+one.tmod (9998:Int)) (1:Int),Rng.mk ((1:Int)+one.tmod (9998:Int)) ((1:Int)+one.tmod (9998:Int)+(1:Int)+two.tmod ((9999:Int) - ((1:Int)+one.tmod (9998:Int)))) (2:Int),Rng.mk ((1:Int)+one.tmod (9998:Int)+(1:Int)+two.tmod ((9999:Int) - ((1:Int)+one.tmod (9998:Int)))) (10000:Int) (3:Int)] (Ex.mk (1:Int) (B8 []) (B8 []) [] [])]).length/\InI (Qe+1)/\z7a (Qe+1) (Hw++[Exper.mk y9 y7 y4 (B8 [115]++bsOf [Go.IntKind.u8.wrap ((97:Int)+salt.tmod (26:Int))]++bsOf [Go.IntKind.u8.wrap ((48:Int)+Go.IntKind.u8.wrap Qe)]) (2:Int) [Spn.mk (hold.tmod (50:Int)*(20:Int)) (hold.tmod (50:Int)*(20:Int)+(1:Int)+cut.tmod ((10000:Int) - hold.tmod (50:Int)*(20:Int) - (1:Int)))] [Rng.mk (0:Int) ((1:Int)+one.tmod (9998:Int)) (1:Int),Rng.mk ((1:Int)+one.tmod (9998:Int)) ((1:Int)+one.tmod (9998:Int)+(1:Int)+two.tmod ((9999:Int) - ((1:Int)+one.tmod (9998:Int)))) (2:Int),Rng.mk ((1:Int)+one.tmod (9998:Int)+(1:Int)+two.tmod ((9999:Int) - ((1:Int)+one.tmod (9998:Int)))) (10000:Int) (3:Int)] (Ex.mk (1:Int) (B8 []) (B8 []) [] [])]))) (K (Envt.mk (Sett.mk (B8 []) (B8 []) (0:Int)) [] [] Gc Hb Hw))) (0:Int) [])) (0:Int) [])) (0:Int) []
def Vw:Jq:=q0d q14
abbrev q4c:Type:=ByteArray->(Subj->Prop)->Prop
def q6g:q4c:=fun id K=>K (Subj.mk [Ctxt.mk (B8 [117,115,101,114]) id []])
abbrev W0:Type:=Subj->ByteArray->(Int->Prop)->Prop
def Ul:W0:=fun s kind K=>Fits s.1->Lp1 (fun Qu q4h=>CAt s.1 Qu (fun y2=>Cnd (y2.1=kind) (K Qu) (InI (Qu+1)/\q4h (Qu+1))) (K (-1:Int))) (0:Int)
abbrev Wj:Type:=Val->(Val->Prop)->Prop
def Wl:Wj:=fun v K=> ∀n0,(n0=true->v.4=[])->Cnd (n0=true) (K (Val.mk v.1 v.2 v.3 [])) (Sml ([]++v.4).length/\K (Val.mk v.1 v.2 v.3 ([]++v.4)))
abbrev W2:Type:=Attr->(Attr->Prop)->Prop
def Bb(Zl:Wj):W2:=fun a K=>Zl (Val.mk a.2.1 a.2.2 a.2.3 a.2.4) fun Qb=>K (Attr.mk a.1 Qb)
def U4:W2:=Bb Wl
abbrev Um:Type:=Ctxt->(Ctxt->Prop)->Prop
def q15(Ge:W2):Um:=fun c K=>Fits c.3->((0:Int)<=(0:Int)/\(0:Int)<=(↑c.3.length:Int)/\Sml (↑c.3.length:Int).toNat)/\(Fits c.3->Lp2 (fun Ql Hb j5r=>CAt c.3 Hb (fun y3=>Ge (Attr.mk y3.1 (Val.mk y3.2.1 y3.2.2 y3.2.3 y3.2.4)) fun Q1=>Sml (Ql++[Attr.mk Q1.1 (Val.mk Q1.2.1 Q1.2.2 Q1.2.3 Q1.2.4)]).length/\InI (Hb+1)/\j5r (Ql++[Attr.mk Q1.1 (Val.mk Q1.2.1 Q1.2.2 Q1.2.3 Q1.2.4)]) (Hb+1)) (K (Ctxt.mk c.1 c.2 Ql))) (List.replicate (Int.toNat (0:Int)) (Attr.mk (B8 []) (Val.mk (0:Int) (0:Int) (B8 []) []))) (0:Int))
def H1:Um:=q15 U4
abbrev Jg:Type:=Subj->ByteArray->(Ctxt->Bool->Prop)->Prop
def q3g(Z5:W0)(R2:Um):Jg:=fun s kind K=>Z5 (Subj.mk s.1) kind fun Qb=>Cnd (Qb<0) (K (Ctxt.mk (B8 []) (B8 []) []) false) (At s.1 Qb fun y1=>R2 y1 fun Qe=>K Qe true)
def V4:Jg:=q3g Ul H1
abbrev Bn:Type:=List (List Int)->(List (Int)->Prop)->Prop
def Bo:Bn:=fun fields K=>Fits fields->Lp2 (fun Qu q28 w0l=>CAt fields q28 (fun y2=>Lp2 (fun Qf Gd j5q=>Cnd ((0:Int)<=Gd) (Fits y2->InI ((8:Int)*Gd)/\(0:Int)<=(8:Int)*Gd/\Sml (Qf++[Go.IntKind.u8.wrap ((Go.IntKind.u64.wrap (↑y2.length:Int)).fdiv ((2:Int) ^ Min.min ((8:Int)*Gd).toNat (64:Nat)))]).length/\InI (Gd - 1)/\j5q (Qf++[Go.IntKind.u8.wrap ((Go.IntKind.u64.wrap (↑y2.length:Int)).fdiv ((2:Int) ^ Min.min ((8:Int)*Gd).toNat (64:Nat)))]) (Gd - 1)) (Sml (Qf++y2).length/\InI (q28+1)/\w0l (Qf++y2) (q28+1))) Qu (7:Int)) (K Qu)) [] (0:Int)
abbrev Vd:Type:=Int->Int->(Int->Prop)->Prop
def Ve:Vd:=fun x k K=>(0:Int)<=Go.IntKind.u64.wrap (↑(BitVec.ofInt (64:Nat) (Go.IntKind.u64.wrap k) &&& BitVec.ofInt (64:Nat) (63:Int)).toNat:Int)/\(0:Int)<=Go.IntKind.u64.wrap ((64:Int) - Go.IntKind.u64.wrap (↑(BitVec.ofInt (64:Nat) (Go.IntKind.u64.wrap k) &&& BitVec.ofInt (64:Nat) (63:Int)).toNat:Int))/\K (Go.IntKind.u64.wrap (↑(BitVec.ofInt (64:Nat) (Go.IntKind.u64.wrap (x*2 ^ Min.min (Go.IntKind.u64.wrap (↑(BitVec.ofInt (64:Nat) (Go.IntKind.u64.wrap k) &&& BitVec.ofInt (64:Nat) (63:Int)).toNat:Int)).toNat (64:Nat)))|||BitVec.ofInt (64:Nat) (x.fdiv ((2:Int) ^ Min.min (Go.IntKind.u64.wrap ((64:Int) - Go.IntKind.u64.wrap (↑(BitVec.ofInt (64:Nat) (Go.IntKind.u64.wrap k) &&& BitVec.ofInt (64:Nat) (63:Int)).toNat:Int))).toNat (64:Nat)))).toNat:Int))
abbrev Zq:Type:=Int->Int->Int->Int->Int->(Int->Int->Int->Int->Prop)->Prop
def Gk(Zf:Vd):Zq:=fun v0 v1 v2 v3 n K=>Lp5 (fun Qb Gc z19 z2a j0c w7u=>Cnd (Qb<n) (Zf z19 (13:Int) fun Qu=>Zf (Go.IntKind.u64.wrap (Gc+z19)) (32:Int) fun Ql=>Zf j0c (16:Int) fun Qe=>Zf (Go.IntKind.u64.wrap (↑(BitVec.ofInt (64:Nat) Qe ^^^ BitVec.ofInt (64:Nat) (Go.IntKind.u64.wrap (z2a+j0c))).toNat:Int)) (21:Int) fun Qf=>Zf (Go.IntKind.u64.wrap (↑(BitVec.ofInt (64:Nat) Qu ^^^ BitVec.ofInt (64:Nat) (Go.IntKind.u64.wrap (Gc+z19))).toNat:Int)) (17:Int) fun Q1=>Zf (Go.IntKind.u64.wrap (Go.IntKind.u64.wrap (z2a+j0c)+Go.IntKind.u64.wrap (↑(BitVec.ofInt (64:Nat) Qu ^^^ BitVec.ofInt (64:Nat) (Go.IntKind.u64.wrap (Gc+z19))).toNat:Int))) (32:Int) fun W8=>InI (Qb+1)/\w7u (Qb+1) (Go.IntKind.u64.wrap (Ql+Go.IntKind.u64.wrap (↑(BitVec.ofInt (64:Nat) Qe ^^^ BitVec.ofInt (64:Nat) (Go.IntKind.u64.wrap (z2a+j0c))).toNat:Int))) (Go.IntKind.u64.wrap (↑(BitVec.ofInt (64:Nat) Q1 ^^^ BitVec.ofInt (64:Nat) (Go.IntKind.u64.wrap (Go.IntKind.u64.wrap (z2a+j0c)+Go.IntKind.u64.wrap (↑(BitVec.ofInt (64:Nat) Qu ^^^ BitVec.ofInt (64:Nat) (Go.IntKind.u64.wrap (Gc+z19))).toNat:Int)))).toNat:Int)) W8 (Go.IntKind.u64.wrap (↑(BitVec.ofInt (64:Nat) Qf ^^^ BitVec.ofInt (64:Nat) (Go.IntKind.u64.wrap (Ql+Go.IntKind.u64.wrap (↑(BitVec.ofInt (64:Nat) Qe ^^^ BitVec.ofInt (64:Nat) (Go.IntKind.u64.wrap (z2a+j0c))).toNat:Int)))).toNat:Int))) (K Gc z19 z2a j0c)) (0:Int) v0 v1 v2 v3
def Zh:Zq:=Gk Ve
abbrev Wm:Type:=Int->Int->Int->Int->Int->(Int->Int->Int->Int->Prop)->Prop
def H2(Q6:Zq):Wm:=fun v0 v1 v2 v3 m K=>Q6 v0 v1 v2 (Go.IntKind.u64.wrap (↑(BitVec.ofInt (64:Nat) v3 ^^^ BitVec.ofInt (64:Nat) m).toNat:Int)) (2:Int) fun Qb Gc z19 z2a=>K (Go.IntKind.u64.wrap (↑(BitVec.ofInt (64:Nat) Qb ^^^ BitVec.ofInt (64:Nat) m).toNat:Int)) Gc z19 z2a
def Ub:Wm:=H2 Zh
abbrev B1:Type:=Int->Int->List (Int)->(Int->Prop)->Prop
def q6h(Ws:Wm)(Q6:Zq):B1:=fun k0 k1 b K=>Fits b->(0:Int)<=(56:Int)/\Lp5 (fun Qu q28 j6q w7v w9w v03=>InI (Qu+8)/\(Fits b->Cnd (Qu+8<=(↑b.length:Int)) (Lp2 (fun Qe Hw z7a=>Cnd (Hw<8) (InI (Qu+Hw)/\At b (Qu+Hw) fun y4=>InI ((8:Int)*Hw)/\(0:Int)<=(8:Int)*Hw/\InI (Hw+1)/\z7a (Go.IntKind.u64.wrap (↑(BitVec.ofInt (64:Nat) Qe|||BitVec.ofInt (64:Nat) (Go.IntKind.u64.wrap (Go.IntKind.u64.wrap y4*2 ^ Min.min ((8:Int)*Hw).toNat (64:Nat)))).toNat:Int)) (Hw+1)) (Ws q28 j6q w7v w9w Qe fun Qf Gd v04 v05=>InI (Qu+8)/\v03 (Qu+8) Qf Gd v04 v05)) (0:Int) (0:Int)) (Fits b->(8:Int)≠(0:Int)/\Lp2 (fun Qf Gd j5q=>Cnd (Gd<(↑b.length:Int).tmod (8:Int)) (Fits b->Fits b->(8:Int)≠(0:Int)/\InI ((↑b.length:Int) - (↑b.length:Int).tmod (8:Int))/\InI ((↑b.length:Int) - (↑b.length:Int).tmod (8:Int)+Gd)/\((0:Int)<=(↑b.length:Int) - (↑b.length:Int).tmod (8:Int)+Gd/\(↑b.length:Int) - (↑b.length:Int).tmod (8:Int)+Gd<(↑b.length:Int))/\ ∀y7,b[((↑b.length:Int) - (↑b.length:Int).tmod (8:Int)+Gd).toNat]? =some y7->InI ((8:Int)*Gd)/\(0:Int)<=(8:Int)*Gd/\InI (Gd+1)/\j5q (Go.IntKind.u64.wrap (↑(BitVec.ofInt (64:Nat) Qf|||BitVec.ofInt (64:Nat) (Go.IntKind.u64.wrap (Go.IntKind.u64.wrap y7*2 ^ Min.min ((8:Int)*Gd).toNat (64:Nat)))).toNat:Int)) (Gd+1)) (Ws q28 j6q w7v w9w Qf fun Q1 q1g j6v v06=>Q6 Q1 q1g (Go.IntKind.u64.wrap (↑(BitVec.ofInt (64:Nat) j6v ^^^ BitVec.ofInt (64:Nat) (255:Int)).toNat:Int)) v06 (4:Int) fun W8 w0m v07 v08=>K (Go.IntKind.u64.wrap (↑(BitVec.ofInt (64:Nat) (Go.IntKind.u64.wrap (↑(BitVec.ofInt (64:Nat) (Go.IntKind.u64.wrap (↑(BitVec.ofInt (64:Nat) W8 ^^^ BitVec.ofInt (64:Nat) w0m).toNat:Int)) ^^^ BitVec.ofInt (64:Nat) v07).toNat:Int)) ^^^ BitVec.ofInt (64:Nat) v08).toNat:Int)))) (Go.IntKind.u64.wrap (Go.IntKind.u64.wrap (↑b.length:Int)*2 ^ Min.min (Int.toNat (56:Int)) (64:Nat))) (0:Int)))) (0:Int) (Go.IntKind.u64.wrap (↑(BitVec.ofInt (64:Nat) k0 ^^^ BitVec.ofInt (64:Nat) (8317987319222330741:Int)).toNat:Int)) (Go.IntKind.u64.wrap (↑(BitVec.ofInt (64:Nat) k1 ^^^ BitVec.ofInt (64:Nat) (7237128888997146477:Int)).toNat:Int)) (Go.IntKind.u64.wrap (↑(BitVec.ofInt (64:Nat) k0 ^^^ BitVec.ofInt (64:Nat) (7816392313619706465:Int)).toNat:Int)) (Go.IntKind.u64.wrap (↑(BitVec.ofInt (64:Nat) k1 ^^^ BitVec.ofInt (64:Nat) (8387220255154660723:Int)).toNat:Int))
def q2y:B1:=q6h Ub Zh
abbrev H3:Type:=Int->List (List Int)->(Int->Prop)->Prop
def q4r(Bu:Bn)(q29:B1):H3:=fun domain fields K=>Bu fields fun Qb=>q29 domain (0:Int) Qb fun Qu=>K Qu
def q0x:H3:=q4r Bo q2y
abbrev J2:Type:=ByteArray->ByteArray->(Int->Prop)->Prop
def q8w(q1h:H3):J2:=fun salt key K=>Sml salt.size/\Sml key.size/\q1h (1:Int) [List.map (fun b=>(↑b.toNat:Int)) (salt,key,()).1.data.toList,List.map (fun b=>(↑b.toNat:Int)) (salt,key,()).2.1.data.toList] fun Qb=>(10000:Int)≠(0:Int)/\InI (Qb.tmod (10000:Int))/\K (Qb.tmod (10000:Int))
def Vf:J2:=q8w q0x
abbrev H4:Type:=List (Frc)->ByteArray->(Frc->Bool->Prop)->Prop
def H5:H4:=fun l layer K=>Fits l->Lp4 (fun Qu q28 j6q w7v v1n=>CAt l Qu (fun y2=>Cnd (y2.1=layer) (K y2 true) (InI (Qu+1)/\v1n (Qu+1) q28 j6q w7v)) (K (Frc.mk (B8 []) (B8 []) (0:Int)) false)) (0:Int) (B8 []) (B8 []) (0:Int)
abbrev q0y:Type:=Envt->Frc->(Bool->Prop)->Prop
def q0z:q0y:=fun v f K=>Fits v.6->Lp1 (fun Qu q4h=>CAt v.6 Qu (fun y2=>Cnd (y2.1=f.2) (Cnd (y2.2=f.1) (Cnd (y2.5=2) (Fits y2.7->Lp1 (fun Q1 j5s=>CAt y2.7 Q1 (fun y6=>Cnd (y6.3=f.3) (Cnd ((0:Int)<=Q1) (K (decide ((0:Int)<=Qu))) (InI (Qu+1)/\q4h (Qu+1))) (InI (Q1+1)/\j5s (Q1+1))) (Cnd ((0:Int)<=(-1:Int)) (K (decide ((0:Int)<=Qu))) (InI (Qu+1)/\q4h (Qu+1)))) (0:Int)) (InI (Qu+1)/\q4h (Qu+1))) (InI (Qu+1)/\q4h (Qu+1))) (InI (Qu+1)/\q4h (Qu+1))) (K (decide ((0:Int)<=(-1:Int))))) (0:Int)
abbrev H6:Type:=Envt->Subj->(Bool->Prop)->Prop
def q4s(Zb:Jg)(Q0:J2):H6:=fun v s K=>Cnd (v.1.3<=0) (K false) (Zb (Subj.mk s.1) v.1.2 fun Qb Gc=>Cnd (Gc=true) (Q0 v.1.1 Qb.2 fun Qu=>K (decide (Qu<v.1.3))) (K false))
def q00:H6:=q4s V4 Vf
abbrev U5:Type:=Int->(Bool->Prop)->Prop
def Vg:U5:=fun op K=>Cnd ((6:Int)<=op) (K (decide (op<=15))) (K false)
abbrev Q4:Type:=List (ByteArray)->List (ByteArray)->(Bool->Prop)->Prop
def Zg:Q4:=fun s1 s2 K=>Fits s1->Fits s2->Cnd ((↑s1.length:Int)=(↑s2.length:Int)) (Fits s1->Lp1 (fun Qe q74=>CAt s1 Qe (fun y4=>At s2 Qe fun y6=>Cnd (y4=y6) (InI (Qe+1)/\q74 (Qe+1)) (K false)) (K true)) (0:Int)) (K false)
abbrev B2:Type:=Val->Val->(Bool->Prop)->Prop
def q6i(Qq:Q4):B2:=fun a b K=>Cnd (a.1=b.1) (Cnd (a.2=b.2) (Cnd (a.3=b.3) (Qq a.4 b.4 fun Qb=>K Qb) (K false)) (K false)) (K false)
def Hr:B2:=q6i Zg
abbrev Un:Type:=Ex->Ex->(Bool->Prop)->Prop
def q8x(q3a:B2)(X:Un):Un:=fun a b K=>Cnd (a.1=b.1) (Cnd (a.2=b.2) (Cnd (a.3=b.3) (Fits a.4->Fits b.4->Cnd ((↑a.4.length:Int)=(↑b.4.length:Int)) (Fits a.4->Lp1 (fun Qe q74=>CAt a.4 Qe (fun y4=>At b.4 Qe fun y6=>q3a y4 y6 fun q57=>Cnd (q57=true) (InI (Qe+1)/\q74 (Qe+1)) (K false)) (Fits a.5->Fits b.5->Cnd ((↑a.5.length:Int)=(↑b.5.length:Int)) (Fits a.5->Lp1 (fun q0s w7p=>CAt a.5 q0s (fun y8=>At b.5 q0s fun y10=>X (Ex.mk y8.1 y8.2 y8.3 y8.4 y8.5) (Ex.mk y10.1 y10.2 y10.3 y10.4 y10.5) fun q58=>Cnd (q58=true) (InI (q0s+1)/\w7p (q0s+1)) (K false)) (K true)) (0:Int)) (K false))) (0:Int)) (K false)) (K false)) (K false)) (K false)
def Hi:Un:=fun a b K=> ∀X:Un,(∀a b K,q8x Hr X a b K->X a b K)->X a b K
abbrev J0:Type:=List (Ex)->Ex->(List (Ex)->Prop)->Prop
def q3h(Jv:U5)(q2t:Un)(X:J0):J0:=fun l e K=>Jn1 (fun Qb=>Fits e.5->Lp2 (fun Ql Hb j5r=>CAt e.5 Hb (fun y3=>X Ql (Ex.mk y3.1 y3.2 y3.3 y3.4 y3.5) fun Q1=>InI (Hb+1)/\j5r Q1 (Hb+1)) (K Ql)) Qb (0:Int)) fun q8o=>Jv e.1 fun Qu=>Cnd (Qu=true) (Fits l->Lp1 (fun Qe q74=>CAt l Qe (fun y4=>q2t (Ex.mk y4.1 y4.2 y4.3 y4.4 y4.5) (Ex.mk e.1 e.2 e.3 e.4 e.5) fun W8=>Cnd (W8=true) (Cnd ((0:Int)<=Qe) (q8o l) (Sml (l++[Ex.mk e.1 e.2 e.3 e.4 e.5]).length/\q8o (l++[Ex.mk e.1 e.2 e.3 e.4 e.5]))) (InI (Qe+1)/\q74 (Qe+1))) (Cnd ((0:Int)<=(-1:Int)) (q8o l) (Sml (l++[Ex.mk e.1 e.2 e.3 e.4 e.5]).length/\q8o (l++[Ex.mk e.1 e.2 e.3 e.4 e.5])))) (0:Int)) (Cnd (e.1=5) (Fits l->Lp1 (fun Qe q74=>CAt l Qe (fun y4=>q2t (Ex.mk y4.1 y4.2 y4.3 y4.4 y4.5) (Ex.mk e.1 e.2 e.3 e.4 e.5) fun W8=>Cnd (W8=true) (Cnd ((0:Int)<=Qe) (q8o l) (Sml (l++[Ex.mk e.1 e.2 e.3 e.4 e.5]).length/\q8o (l++[Ex.mk e.1 e.2 e.3 e.4 e.5]))) (InI (Qe+1)/\q74 (Qe+1))) (Cnd ((0:Int)<=(-1:Int)) (q8o l) (Sml (l++[Ex.mk e.1 e.2 e.3 e.4 e.5]).length/\q8o (l++[Ex.mk e.1 e.2 e.3 e.4 e.5])))) (0:Int)) (q8o l))
def Bp:J0:=fun l e K=> ∀X:J0,(∀l e K,q3h Vg Hi X l e K->X l e K)->X l e K
abbrev W9:Type:=Ex->(Ex->Prop)->Prop
def q6j(Zl:Wj)(X:W9):W9:=fun e K=>Fits e.4->((0:Int)<=(0:Int)/\(0:Int)<=(↑e.4.length:Int)/\Sml (↑e.4.length:Int).toNat)/\(Fits e.4->Lp2 (fun Ql Hb j5r=>CAt e.4 Hb (fun y3=>Zl y3 fun Q1=>Sml (Ql++[Q1]).length/\InI (Hb+1)/\j5r (Ql++[Q1]) (Hb+1)) (Fits e.5->((0:Int)<=(0:Int)/\(0:Int)<=(↑e.5.length:Int)/\Sml (↑e.5.length:Int).toNat)/\(Fits e.5->Lp2 (fun Q1 q1g w9m=>CAt e.5 q1g (fun y6=>X (Ex.mk y6.1 y6.2 y6.3 y6.4 y6.5) fun q57=>Sml (Q1++[Ex.mk q57.1 q57.2 q57.3 q57.4 q57.5]).length/\InI (q1g+1)/\w9m (Q1++[Ex.mk q57.1 q57.2 q57.3 q57.4 q57.5]) (q1g+1)) (K (Ex.mk e.1 e.2 e.3 Ql Q1))) (List.replicate (Int.toNat (0:Int)) (Ex.mk (0:Int) (B8 []) (B8 []) [] [])) (0:Int)))) (List.replicate (Int.toNat (0:Int)) (Val.mk (0:Int) (0:Int) (B8 []) [])) (0:Int))
def q2z:W9:=fun e K=> ∀X:W9,(∀e K,q6j Wl X e K->X e K)->X e K
abbrev Gw:Type:=Ex->(List (Ex)->Prop)->Prop
def q3i(Bv:J0)(q3b:W9):Gw:=fun e K=>Bv [] (Ex.mk e.1 e.2 e.3 e.4 e.5) fun Qb=>Fits Qb->((0:Int)<=(0:Int)/\(0:Int)<=(↑Qb.length:Int)/\Sml (↑Qb.length:Int).toNat)/\(Fits Qb->Lp2 (fun Qe Hw z7a=>CAt Qb Hw (fun y4=>q3b (Ex.mk y4.1 y4.2 y4.3 y4.4 y4.5) fun W8=>Sml (Qe++[Ex.mk W8.1 W8.2 W8.3 W8.4 W8.5]).length/\InI (Hw+1)/\z7a (Qe++[Ex.mk W8.1 W8.2 W8.3 W8.4 W8.5]) (Hw+1)) (K Qe)) (List.replicate (Int.toNat (0:Int)) (Ex.mk (0:Int) (B8 []) (B8 []) [] [])) (0:Int))
def q3j:Gw:=q3i Bp q2z
abbrev Zi:Type:=List (ByteArray)->(List (ByteArray)->Prop)->Prop
def Z0(x:List (ByteArray))(K:List (ByteArray)->Prop):Prop:=K (srt x)
abbrev Jc:Type:=List (ByteArray)->(List (ByteArray)->Prop)->Prop
def Jd(s:List (ByteArray))(K:List (ByteArray)->Prop):Prop:=K (cpt s)
abbrev Vx:Type:=Ex->(List (ByteArray)->Prop)->Prop
def q0e(Bw:Gw)(Qs:Zi)(Zo:Jc):Vx:=fun e K=>Bw (Ex.mk e.1 e.2 e.3 e.4 e.5) fun Qb=>Fits Qb->Lp2 (fun Ql Hb j5r=>CAt Qb Hb (fun y3=>Cnd (y3.1=5) (Sml (Ql++[y3.3]).length/\InI (Hb+1)/\j5r (Ql++[y3.3]) (Hb+1)) (InI (Hb+1)/\j5r Ql (Hb+1))) (Qs Ql fun Qe=>Zo Qe fun Qf=>K Qf)) [] (0:Int)
def G5:Vx:=q0e q3j Z0 Jd
abbrev q4t:Type:=List (ByteArray)->List (Edg)->(List (ByteArray)->Int->Prop)->Prop
def P_graph_Order(nodes:List (ByteArray))(edges:List (Edg))(K:List (ByteArray)->Int->Prop):Prop:=Go.Fl.P_graph_Order nodes (edges.map fun e=>(e.1,e.2)) K
abbrev Uo:Type:=List (Seg)->(List (ByteArray)->Int->Prop)->Prop
def q16(Hc:Vx)(q1i:q4t):Uo:=fun l K=>Fits l->Lp3 (fun Qu q28 j6q w9x=>CAt l j6q (fun y2=>Sml (Qu++[y2.1]).length/\Hc (Ex.mk y2.5.1 y2.5.2 y2.5.3 y2.5.4 y2.5.5) fun Qf=>Fits Qf->Lp2 (fun W8 w0m v1o=>CAt Qf w0m (fun y7=>Sml (W8++[Edg.mk y2.1 y7]).length/\InI (w0m+1)/\v1o (W8++[Edg.mk y2.1 y7]) (w0m+1)) (InI (j6q+1)/\w9x (Qu++[y2.1]) W8 (j6q+1))) q28 (0:Int)) (q1i Qu q28 fun Ql Hb=>K Ql Hb)) [] [] (0:Int)
def H7:Uo:=q16 G5 P_graph_Order
abbrev Vy:Type:=Subj->ByteArray->ByteArray->(Val->Bool->Prop)->Prop
def q0f(Z5:W0)(Zl:Wj):Vy:=fun s kind name K=>Z5 (Subj.mk s.1) kind fun Qb=>Cnd (Qb<0) (K (Val.mk (0:Int) (0:Int) (B8 []) []) false) (At s.1 Qb fun y1=>Cnd (name=B8 [107,101,121]) (K (Val.mk (3:Int) (0:Int) y1.2 []) true) (Fits y1.3->Lp5 (fun Qf Gd v04 v05 (v1p:List ByteArray) v1q=>CAt y1.3 Qf (fun y5=>Cnd (y5.1=name) (Zl (Val.mk y5.2.1 y5.2.2 y5.2.3 y5.2.4) fun q0s=>K q0s true) (InI (Qf+1)/\v1q (Qf+1) Gd v04 v05 v1p)) (K (Val.mk (0:Int) (0:Int) (B8 []) []) false)) (0:Int) (0:Int) (0:Int) (B8 []) []))
def G6:Vy:=q0f Ul Wl
abbrev H8:Type:=Val->Val->(Bool->Prop)->Prop
def q4u(Qq:Q4):H8:=fun a b K=>Cnd (a.1=b.1) (Cnd (a.2=b.2) (Cnd (a.3=b.3) (Qq a.4 b.4 fun Qb=>K Qb) (K false)) (K false)) (K false)
def H9:H8:=q4u Zg
abbrev Zn:Type:=ByteArray->ByteArray->(Bool->Prop)->Prop
def Z1:Zn:=fun s prefix_ K=>Cnd ((↑prefix_.size:Int)<=(↑s.size:Int)) (((0:Int)<=(0:Int)/\(0:Int)<=(↑prefix_.size:Int)/\(↑prefix_.size:Int)<=(↑s.size:Int))/\K (decide (s.extract (Int.toNat (0:Int)) (↑prefix_.size:Int).toNat=prefix_))) (K false)
abbrev J3:Type:=ByteArray->ByteArray->(Bool->Prop)->Prop
def Hj(Q2:Zn):J3:=fun s prefix_ K=>Q2 s prefix_ fun Qb=>K Qb
def Vh:J3:=Hj Z1
abbrev Jt:Type:=ByteArray->ByteArray->(Bool->Prop)->Prop
def Vi:Jt:=fun s suffix K=>Cnd ((↑suffix.size:Int)<=(↑s.size:Int)) (InI ((↑s.size:Int) - (↑suffix.size:Int))/\((0:Int)<=(↑s.size:Int) - (↑suffix.size:Int)/\(↑s.size:Int) - (↑suffix.size:Int)<=(↑s.size:Int)/\(↑s.size:Int)<=(↑s.size:Int))/\K (decide (s.extract ((↑s.size:Int) - (↑suffix.size:Int)).toNat (↑s.size:Int).toNat=suffix))) (K false)
abbrev J4:Type:=ByteArray->ByteArray->(Bool->Prop)->Prop
def Hk(Jw:Jt):J4:=fun s suffix K=>Jw s suffix fun Qb=>K Qb
def Vj:J4:=Hk Vi
abbrev Ra:Type:=ByteArray->ByteArray->(Bool->Prop)->Prop
def Rb(s:ByteArray)(substr:ByteArray)(K:Bool->Prop):Prop:=s.size<4294967281/\K (Go.Lib.contains s.data.toList substr.data.toList)
abbrev q01:Type:=Val->(Bool->Prop)->Prop
def q02:q01:=fun v K=>Jn1 (fun Qb=>Cnd (Qb=true) (Cnd (v.3=B8 []) (Fits v.4->K (decide ((↑v.4.length:Int)=0))) (K false)) (Jn1 (fun Qu=>Cnd (Qu=true) (Cnd (v.2=0) (Fits v.4->K (decide ((↑v.4.length:Int)=0))) (K false)) (Cnd (v.2=0) (K (decide (v.3=B8 []))) (K false))) fun w7w=>Cnd (v.1=3) (w7w (decide (v.1=3))) (w7w (decide (v.1=4))))) fun q8o=>Cnd (v.1=1) (q8o (decide (v.1=1))) (q8o (decide (v.1=2)))
abbrev Uc:Type:=ByteArray->(Bool->Prop)->Prop
def Wn(s:ByteArray)(K:Bool->Prop):Prop:=s.size<=(9223372036854775807:Nat)/\K (Go.Lib.validD s.data.toList)
abbrev B3:Type:=ByteArray->(Bool->Prop)->Prop
def q6k(Jo:Uc):B3:=fun s K=>Cnd ((200:Int)<(↑s.size:Int)) (K false) (Jo s fun Qb=>Cnd (Qb=true) (Lp1 (fun (Qu:ByteArray×Nat) q4h=>Cnd (Qu.2<Qu.1.size) (Cnd ((↑(Go.Utf8.decode Qu.1 Qu.2).1:Int)<(32:Int)) (K false) (Cnd ((↑(Go.Utf8.decode Qu.1 Qu.2).1:Int)=(127:Int)) (K false) (q4h (Qu.1,Qu.2+(Go.Utf8.decode Qu.1 Qu.2).2)))) (K true)) (s,(0:Nat))) (K false))
def q20:B3:=q6k Wn
abbrev q17:Type:=ByteArray->ByteArray->(List (ByteArray)->Prop)->Prop
def q18(s:ByteArray)(sep:ByteArray)(K:List (ByteArray)->Prop):Prop:=sep.size=1/\s.size<4294967281/\K (Hq s sep)
abbrev Z2:Type:=ByteArray->ByteArray->(ByteArray->Bool->Prop)->Prop
def Vk(Q2:Zn):Z2:=fun s prefix_ K=>Q2 s prefix_ fun Qb=>Cnd (Qb=true) (((0:Int)<=(↑prefix_.size:Int)/\(↑prefix_.size:Int)<=(↑s.size:Int)/\(↑s.size:Int)<=(↑s.size:Int))/\K (s.extract (↑prefix_.size:Int).toNat (↑s.size:Int).toNat) true) (K s false)
def Vl:Z2:=Vk Z1
abbrev J5:Type:=ByteArray->ByteArray->(ByteArray->Bool->Prop)->Prop
def Hl(Jx:Z2):J5:=fun s prefix_ K=>Jx s prefix_ fun Qb Gc=>K Qb Gc
def Vm:J5:=Hl Vl
abbrev q3k:Type:=ByteArray->(Int->Bool->Prop)->Prop
def Bq(s:ByteArray)(K:Int->Bool->Prop):Prop:=s.size<=281474976710656/\w2k s K
abbrev Wo:Type:=ByteArray->(Int->Int->Prop)->Prop
def Rc(Vt:J5)(G3:q3k):Wo:=fun s K=>Vt s (B8 [45]) fun Qb Gc=>Cnd (Qb=B8 []) (K (0:Int) (1:Int)) (((0:Int)<=(0:Int)/\(0:Int)<(↑Qb.size:Int))/\ ∀b1,Qb[Int.toNat (0:Int)]? =some b1->Cnd ((↑b1.toNat:Int)=48) (Cnd ((1:Int)<(↑Qb.size:Int)) (K (0:Int) (1:Int)) (Cnd (Gc=true) (K (0:Int) (1:Int)) (Lp1 (fun (Qe:ByteArray×Nat) q74=>Cnd (Qe.2<Qe.1.size) (Cnd ((↑(Go.Utf8.decode Qe.1 Qe.2).1:Int)<(48:Int)) (K (0:Int) (1:Int)) (Cnd ((57:Int)<(↑(Go.Utf8.decode Qe.1 Qe.2).1:Int)) (K (0:Int) (1:Int)) (q74 (Qe.1,Qe.2+(Go.Utf8.decode Qe.1 Qe.2).2)))) (G3 s fun Qf Gd=>Cnd ((match (Qf,Gd,()).2.1 with|true=>false|false=>true)=true) (K (0:Int) (3:Int)) (Cnd (Qf<(-1099511627776:Int)) (K (0:Int) (3:Int)) (Cnd ((1099511627776:Int)<Qf) (K (0:Int) (3:Int)) (K Qf (0:Int)))))) (Qb,(0:Nat))))) (Lp1 (fun (Qe:ByteArray×Nat) q74=>Cnd (Qe.2<Qe.1.size) (Cnd ((↑(Go.Utf8.decode Qe.1 Qe.2).1:Int)<(48:Int)) (K (0:Int) (1:Int)) (Cnd ((57:Int)<(↑(Go.Utf8.decode Qe.1 Qe.2).1:Int)) (K (0:Int) (1:Int)) (q74 (Qe.1,Qe.2+(Go.Utf8.decode Qe.1 Qe.2).2)))) (G3 s fun Qf Gd=>Cnd ((match (Qf,Gd,()).2.1 with|true=>false|false=>true)=true) (K (0:Int) (3:Int)) (Cnd (Qf<(-1099511627776:Int)) (K (0:Int) (3:Int)) (Cnd ((1099511627776:Int)<Qf) (K (0:Int) (3:Int)) (K Qf (0:Int)))))) (Qb,(0:Nat))))
def Ud:Wo:=Rc Vm Bq
abbrev Vn:Type:=ByteArray->(A3->Bool->Prop)->Prop
def q4v(R3:q17)(Ug:Wo):Vn:=fun s K=>R3 s (B8 [46]) fun Qb=>Fits Qb->Cnd ((↑Qb.length:Int)=3) (Fits Qb->LpH (fun (Qe:Int×Int×Int×Int×Int×Int×Int×Unit) q74=>CAt Qb Qe.1 (fun y4=>Ug y4 fun W8 w0m=>Cnd (w0m=0) (Cnd (W8<0) (K ((0:Int),(0:Int),(0:Int)) false) (Cnd ((999999:Int)<W8) (K ((0:Int),(0:Int),(0:Int)) false) (((0:Int)<=Qe.1/\Qe.1<(↑(3:Nat):Int))/\((True/\(Qe.1=(↑(nat_lit 0):Int)->InI (Qe.1+1)/\q74 (Qe.1+1,W8,Qe.2.2.1,Qe.2.2.2.1,Qe.2.2.2.2.1,Qe.2.2.2.2.2.1,Qe.2.2.2.2.2.2.1,())))/\(Qe.1=(↑(nat_lit 1):Int)->InI (Qe.1+1)/\q74 (Qe.1+1,Qe.2.1,W8,Qe.2.2.2.1,Qe.2.2.2.2.1,Qe.2.2.2.2.2.1,Qe.2.2.2.2.2.2.1,())))/\(Qe.1=(↑(nat_lit 2):Int)->InI (Qe.1+1)/\q74 (Qe.1+1,Qe.2.1,Qe.2.2.1,W8,Qe.2.2.2.2.1,Qe.2.2.2.2.2.1,Qe.2.2.2.2.2.2.1,()))))) (K ((0:Int),(0:Int),(0:Int)) false)) (K (Qe.2.1,Qe.2.2.1,Qe.2.2.2.1) true)) ((0:Int),(0:Int),(0:Int),(0:Int),(0:Int),(0:Int),(0:Int),())) (K ((0:Int),(0:Int),(0:Int)) false)
def Rd:Vn:=q4v q18 Ud
abbrev Re:Type:=Val->(Int->Prop)->Prop
def q4w(q1j:q01)(B6:B3)(Jk:Vn):Re:=fun v K=>Cnd (v.1<1) (K (7:Int)) (Cnd ((5:Int)<v.1) (K (7:Int)) (q1j v fun Qb=>Cnd (Qb=true) (Cnd (v.1=1) (Cnd (v.2=0) (K (0:Int)) (Cnd (v.2=1) (K (0:Int)) (K (3:Int)))) (Cnd (v.1=2) (Cnd (v.2<(-1099511627776:Int)) (K (3:Int)) (Cnd ((1099511627776:Int)<v.2) (K (3:Int)) (K (0:Int)))) (Cnd (v.1=3) (B6 v.3 fun Qu=>Cnd (Qu=true) (K (0:Int)) (K (2:Int))) (Cnd (v.1=4) (Jk v.3 fun (_:Int×Int×Int) q28=>Cnd (q28=true) (K (0:Int)) (K (1:Int))) (Cnd (v.1=5) (Fits v.4->Cnd ((20:Int)<(↑v.4.length:Int)) (K (5:Int)) (Fits v.4->Lp1 (fun Qe q74=>CAt v.4 Qe (fun y4=>B6 y4 fun W8=>Cnd (W8=true) (InI (Qe+1)/\q74 (Qe+1)) (K (2:Int))) (Fits v.4->Lp1 (fun Q1 j5s=>Cnd (Q1<(↑v.4.length:Int)) (Cnd ((0:Int)<Q1) (InI (Q1 - 1)/\((0:Int)<=Q1 - 1/\Q1 - 1<(↑v.4.length:Int))/\ ∀y6,v.4[(Q1 - 1).toNat]? =some y6->At v.4 Q1 fun y8=>Cnd (Lk.blt y6 y8) (InI (Q1+1)/\j5s (Q1+1)) (K (9:Int))) (InI (Q1+1)/\j5s (Q1+1))) (K (0:Int))) (0:Int))) (0:Int))) (K (0:Int))))))) (K (15:Int))))
def q03:Re:=q4w q02 q20 Rd
abbrev Up:Type:=Val->Val->(Int->Int->Prop)->Prop
def q19(R4:Re)(Jk:Vn):Up:=fun a b K=>R4 a fun Qb=>Cnd (Qb=0) (R4 b fun Qu=>Cnd (Qu=0) (Cnd (a.1=b.1) (Cnd (a.1=1) (K (0:Int) (8:Int)) (Cnd (a.1=5) (K (0:Int) (8:Int)) (Cnd (a.1=2) (Cnd (a.2=a.2) (Cnd (b.2=b.2) (Cnd (a.2<b.2) (K (-1:Int) (0:Int)) (Cnd (b.2<a.2) (K (1:Int) (0:Int)) (K (0:Int) (0:Int)))) (K (1:Int) (0:Int))) (Cnd (b.2=b.2) (K (-1:Int) (0:Int)) (K (0:Int) (0:Int)))) (Cnd (a.1=3) (Cnd (a.3=a.3) (Cnd (b.3=b.3) (Cnd (Lk.blt a.3 b.3) (K (-1:Int) (0:Int)) (Cnd (Lk.blt b.3 a.3) (K (1:Int) (0:Int)) (K (0:Int) (0:Int)))) (K (1:Int) (0:Int))) (Cnd (b.3=b.3) (K (-1:Int) (0:Int)) (K (0:Int) (0:Int)))) (Jk a.3 fun (Ql:Int×Int×Int) _=>Jk b.3 fun (Qe:Int×Int×Int) _=>Two (([Ql.1,Ql.2.1,Ql.2.2].length<=(9223372036854775807:Nat)->Lp1 (fun Q1 j5s=>Cnd (Q1<(↑[Ql.1,Ql.2.1,Ql.2.2].length:Int)) (((0:Int)<=Q1/\Q1<(↑[Ql.1,Ql.2.1,Ql.2.2].length:Int))/\ ∀y6,[Ql.1,Ql.2.1,Ql.2.2][Q1.toNat]? =some y6->[Qe.1,Qe.2.1,Qe.2.2].length<=(9223372036854775807:Nat)->Cnd ((↑[Qe.1,Qe.2.1,Qe.2.2].length:Int)<=Q1) (K (1:Int) (0:Int)) (((0:Int)<=Q1/\Q1<(↑[Qe.1,Qe.2.1,Qe.2.2].length:Int))/\ ∀y9,[Qe.1,Qe.2.1,Qe.2.2][Q1.toNat]? =some y9->Cnd (y6=y6) (Cnd (y9=y9) (Cnd (y6<y9) (Cnd ((-1:Int)=(0:Int)) (InI (Q1+1)/\j5s (Q1+1)) (K (-1:Int) (0:Int))) (Cnd (y9<y6) (Cnd ((1:Int)=(0:Int)) (InI (Q1+1)/\j5s (Q1+1)) (K (1:Int) (0:Int))) (Cnd ((0:Int)=(0:Int)) (InI (Q1+1)/\j5s (Q1+1)) (K (0:Int) (0:Int))))) (Cnd ((1:Int)=(0:Int)) (InI (Q1+1)/\j5s (Q1+1)) (K (1:Int) (0:Int)))) (Cnd (y9=y9) (Cnd ((-1:Int)=(0:Int)) (InI (Q1+1)/\j5s (Q1+1)) (K (-1:Int) (0:Int))) (Cnd ((0:Int)=(0:Int)) (InI (Q1+1)/\j5s (Q1+1)) (K (0:Int) (0:Int)))))) ([Ql.1,Ql.2.1,Ql.2.2].length<=(9223372036854775807:Nat)->[Qe.1,Qe.2.1,Qe.2.2].length<=(9223372036854775807:Nat)->Cnd ((↑[Ql.1,Ql.2.1,Ql.2.2].length:Int)<(↑[Qe.1,Qe.2.1,Qe.2.2].length:Int)) (K (-1:Int) (0:Int)) (K (0:Int) (0:Int)))) (0:Int)))))))) (K (0:Int) (8:Int))) (K (0:Int) Qu)) (K (0:Int) Qb)
def Uq:Up:=q19 q03 Rd
abbrev Rf:Type:=Subj->Ex->(Bool->Prop)->Prop
def q4x(Hd:Vy)(Jv:U5)(Gf:H8)(Vu:J3)(Vv:J4)(Uh:Ra)(U0:Up):Rf:=fun s e K=>Hd (Subj.mk s.1) e.2 e.3 fun Qb Gc=>Cnd (Gc=true) (Jv e.1 fun Qu=>Cnd (Qu=true) (Cnd (e.1=6) (K true) (Cnd (e.1=8) (Fits e.4->Lp1 (fun Qe q74=>CAt e.4 Qe (fun y4=>Gf Qb y4 fun W8=>Cnd (W8=true) (K (decide ((0:Int)<=Qe))) (InI (Qe+1)/\q74 (Qe+1))) (K (decide ((0:Int)<=(-1:Int))))) (0:Int)) (Fits e.4->Cnd ((↑e.4.length:Int)=0) (K false) (((0:Int)<=(0:Int)/\(0:Int)<(↑e.4.length:Int))/\ ∀y3,e.4[Int.toNat (0:Int)]? =some y3->Cnd (Qb.1=3) (Cnd (e.1=7) (Gf Qb y3 fun Q1=>K Q1) (Cnd (e.1=9) (Cnd (y3.1=3) (Vu Qb.3 y3.3 fun Q1=>K Q1) (K false)) (Cnd (e.1=10) (Cnd (y3.1=3) (Vv Qb.3 y3.3 fun Q1=>K Q1) (K false)) (Cnd (e.1=11) (Cnd (y3.1=3) (Uh Qb.3 y3.3 fun Q1=>Cnd (Q1=true) (K true) (Cnd (y3.1=3) (Cnd (Qb.1=5) (Fits Qb.4->Lp1 (fun q0s w7p=>CAt Qb.4 q0s (fun y8=>Cnd (y3.3=y8) (K (decide ((0:Int)<=q0s))) (InI (q0s+1)/\w7p (q0s+1))) (K (decide ((0:Int)<=(-1:Int))))) (0:Int)) (K false)) (K false))) (Cnd (y3.1=3) (Cnd (Qb.1=5) (Fits Qb.4->Lp1 (fun W8 w9n=>CAt Qb.4 W8 (fun y7=>Cnd (y3.3=y7) (K (decide ((0:Int)<=W8))) (InI (W8+1)/\w9n (W8+1))) (K (decide ((0:Int)<=(-1:Int))))) (0:Int)) (K false)) (K false))) (U0 Qb y3 fun Q1 q1g=>Cnd (q1g=0) (Cnd (e.1=12) (K (decide (Q1<0))) (Cnd (e.1=13) (K (decide (Q1<=0))) (Cnd (e.1=14) (K (decide ((0:Int)<Q1))) (K (decide ((0:Int)<=Q1)))))) (K false)))))) (Cnd (e.1=7) (Gf Qb y3 fun Q1=>K Q1) (Cnd (e.1=9) (K false) (Cnd (e.1=10) (K false) (Cnd (e.1=11) (Cnd (y3.1=3) (Cnd (Qb.1=5) (Fits Qb.4->Lp1 (fun W8 w9n=>CAt Qb.4 W8 (fun y7=>Cnd (y3.3=y7) (K (decide ((0:Int)<=W8))) (InI (W8+1)/\w9n (W8+1))) (K (decide ((0:Int)<=(-1:Int))))) (0:Int)) (K false)) (K false)) (U0 Qb y3 fun Q1 q1g=>Cnd (q1g=0) (Cnd (e.1=12) (K (decide (Q1<0))) (Cnd (e.1=13) (K (decide (Q1<=0))) (Cnd (e.1=14) (K (decide ((0:Int)<Q1))) (K (decide ((0:Int)<=Q1)))))) (K false)))))))))) (K false)) (K false)
def U6:Rf:=q4x G6 Vg H9 Vh Vj Rb Uq
abbrev Jh:Type:=Subj->List (ByteArray)->Ex->(Bool->Prop)->Prop
def q4y(q1k:Rf)(X:Jh):Jh:=fun s in_ e K=>Cnd (e.1=1) (K true) (Cnd (e.1=2) (Fits e.5->Lp1 (fun Qu q4h=>CAt e.5 Qu (fun y2=>X (Subj.mk s.1) in_ (Ex.mk y2.1 y2.2 y2.3 y2.4 y2.5) fun Qf=>Cnd (Qf=true) (InI (Qu+1)/\q4h (Qu+1)) (K (match decide ((0:Int)<=Qu) with|true=>false|false=>true))) (K true)) (0:Int)) (Cnd (e.1=3) (Fits e.5->Lp1 (fun Qu q4h=>CAt e.5 Qu (fun y2=>X (Subj.mk s.1) in_ (Ex.mk y2.1 y2.2 y2.3 y2.4 y2.5) fun Qf=>Cnd (Qf=true) (K (decide ((0:Int)<=Qu))) (InI (Qu+1)/\q4h (Qu+1))) (K (decide ((0:Int)<=(-1:Int))))) (0:Int)) (Cnd (e.1=4) (Fits e.5->Cnd ((0:Int)<(↑e.5.length:Int)) (((0:Int)<=(0:Int)/\(0:Int)<(↑e.5.length:Int))/\ ∀y1,e.5[Int.toNat (0:Int)]? =some y1->X (Subj.mk s.1) in_ (Ex.mk y1.1 y1.2 y1.3 y1.4 y1.5) fun Qe=>K (match decide ((Qe,()).1=true) with|true=>false|false=>true)) (K false)) (Cnd (e.1=5) (Fits in_->Lp1 (fun Qu q4h=>CAt in_ Qu (fun y2=>Cnd (e.3=y2) (K (decide ((0:Int)<=Qu))) (InI (Qu+1)/\q4h (Qu+1))) (K (decide ((0:Int)<=(-1:Int))))) (0:Int)) (q1k (Subj.mk s.1) (Ex.mk e.1 e.2 e.3 e.4 e.5) fun Qb=>K Qb)))))
def Rg:Jh:=fun s in_ e K=> ∀X:Jh,(∀s in_ e K,q4y U6 X s in_ e K->X s in_ e K)->X s in_ e K
abbrev Wp:Type:=Seg->Subj->List (ByteArray)->(Bool->Prop)->Prop
def Rh(Zb:Jg)(Zt:Jh):Wp:=fun g s in_ K=>Zb (Subj.mk s.1) g.2 fun Qb Gc=>Cnd (Gc=true) (Fits g.4->Lp1 (fun Ql z6n=>CAt g.4 Ql (fun y3=>Cnd (Qb.2=y3) (Cnd ((0:Int)<=Ql) (K false) (Fits g.3->Lp1 (fun W8 w9n=>CAt g.3 W8 (fun y7=>Cnd (Qb.2=y7) (Cnd ((0:Int)<=W8) (K true) (Cnd (g.5.1=0) (K false) (Zt (Subj.mk s.1) in_ (Ex.mk g.5.1 g.5.2 g.5.3 g.5.4 g.5.5) fun Qm=>K Qm))) (InI (W8+1)/\w9n (W8+1))) (Cnd ((0:Int)<=(-1:Int)) (K true) (Cnd (g.5.1=0) (K false) (Zt (Subj.mk s.1) in_ (Ex.mk g.5.1 g.5.2 g.5.3 g.5.4 g.5.5) fun q0s=>K q0s)))) (0:Int))) (InI (Ql+1)/\z6n (Ql+1))) (Cnd ((0:Int)<=(-1:Int)) (K false) (Fits g.3->Lp1 (fun Qf j6r=>CAt g.3 Qf (fun y5=>Cnd (Qb.2=y5) (Cnd ((0:Int)<=Qf) (K true) (Cnd (g.5.1=0) (K false) (Zt (Subj.mk s.1) in_ (Ex.mk g.5.1 g.5.2 g.5.3 g.5.4 g.5.5) fun q0s=>K q0s))) (InI (Qf+1)/\j6r (Qf+1))) (Cnd ((0:Int)<=(-1:Int)) (K true) (Cnd (g.5.1=0) (K false) (Zt (Subj.mk s.1) in_ (Ex.mk g.5.1 g.5.2 g.5.3 g.5.4 g.5.5) fun Q1=>K Q1)))) (0:Int)))) (0:Int)) (K false)
def Ue:Wp:=Rh V4 Rg
abbrev W4:Type:=List (Seg)->Subj->(List (ByteArray)->Prop)->Prop
def Bc(R5:Uo)(Ui:Wp)(Qs:Zi):W4:=fun l s K=>R5 l fun Qb Gc=>Cnd (Gc=0) (Fits l->Lp2 (fun Ql z6n j5r=>CAt l Ql (fun y3=>InI (Ql+1)/\j5r (Ql+1) (put z6n y3.1 (Seg.mk y3.1 y3.2 y3.3 y3.4 (Ex.mk y3.5.1 y3.5.2 y3.5.3 y3.5.4 y3.5.5)))) (Fits Qb->Lp2 (fun Qf Gd j5q=>CAt Qb Gd (fun y5=>Ui (Seg.mk ((z6n y5).getD (Seg.mk (B8 []) (B8 []) [] [] (Ex.mk (0:Int) (B8 []) (B8 []) [] []))).1 ((z6n y5).getD (Seg.mk (B8 []) (B8 []) [] [] (Ex.mk (0:Int) (B8 []) (B8 []) [] []))).2 ((z6n y5).getD (Seg.mk (B8 []) (B8 []) [] [] (Ex.mk (0:Int) (B8 []) (B8 []) [] []))).3 ((z6n y5).getD (Seg.mk (B8 []) (B8 []) [] [] (Ex.mk (0:Int) (B8 []) (B8 []) [] []))).4 (Ex.mk ((z6n y5).getD (Seg.mk (B8 []) (B8 []) [] [] (Ex.mk (0:Int) (B8 []) (B8 []) [] []))).5.1 ((z6n y5).getD (Seg.mk (B8 []) (B8 []) [] [] (Ex.mk (0:Int) (B8 []) (B8 []) [] []))).5.2 ((z6n y5).getD (Seg.mk (B8 []) (B8 []) [] [] (Ex.mk (0:Int) (B8 []) (B8 []) [] []))).5.3 ((z6n y5).getD (Seg.mk (B8 []) (B8 []) [] [] (Ex.mk (0:Int) (B8 []) (B8 []) [] []))).5.4 ((z6n y5).getD (Seg.mk (B8 []) (B8 []) [] [] (Ex.mk (0:Int) (B8 []) (B8 []) [] []))).5.5)) (Subj.mk s.1) Qf fun q0s=>Cnd (q0s=true) (Sml (Qf++[y5]).length/\InI (Gd+1)/\j5q (Qf++[y5]) (Gd+1)) (InI (Gd+1)/\j5q Qf (Gd+1))) (Qs Qf fun Q1=>K Q1)) [] (0:Int))) (0:Int) fun _=>none) (K [])
def U7:W4:=Bc H7 Ue Z0
abbrev W5:Type:=Envt->Subj->ByteArray->(Bool->Prop)->Prop
def Bd(Gg:W4)(Zt:Jh):W5:=fun v s experiment K=>Fits v.6->Lp1 (fun Qu q4h=>CAt v.6 Qu (fun y2=>Cnd (y2.1=experiment) (Gg v.3 (Subj.mk s.1) fun Qf=>Zt (Subj.mk s.1) Qf (Ex.mk y2.8.1 y2.8.2 y2.8.3 y2.8.4 y2.8.5) fun Q1=>K Q1) (InI (Qu+1)/\q4h (Qu+1))) (K false)) (0:Int)
def U8:W5:=Bd U7 Rg
abbrev U9:Type:=List (Rng)->Int->(Int->Prop)->Prop
def Ri:U9:=fun l bucket K=>Fits l->Lp1 (fun Qu q4h=>CAt l Qu (fun y2=>Cnd (y2.1<=bucket) (Cnd (bucket<y2.2) (K y2.3) (InI (Qu+1)/\q4h (Qu+1))) (InI (Qu+1)/\q4h (Qu+1))) (K (0:Int))) (0:Int)
abbrev Wu:Type:=Envt->Subj->List (Frc)->ByteArray->(Asg->Int->Prop)->Prop
def q3l(Zb:Jg)(R6:H4)(Q0:J2)(Zu:U9)(Gh:W5)(q1l:H6)(q1m:q0y):Wu:=fun v s forced key K=>Jn1 (fun Qb=>Cnd (Qb<0) (K (Asg.mk (B8 []) (B8 []) (0:Int) (0:Int) false) (11:Int)) (At v.5 Qb fun y1=>Zb (Subj.mk s.1) y1.2 fun Qe Hw=>Jn1 (fun Qf=>R6 forced key fun Q1 q1g=>Jn1 (fun W8=>Cnd (W8=true) (Cnd (Q1.2=B8 []) (K (Asg.mk key (B8 []) Qf (0:Int) false) (0:Int)) (K (Asg.mk key Q1.2 Qf Q1.3 false) (0:Int))) (Jn1 (fun q0s=>Cnd (q0s=true) (K (Asg.mk key (B8 []) Qf (0:Int) true) (0:Int)) (Cnd (Hw=true) (Fits v.6->Lp3 (fun Qm v1k v1l v1r=>CAt v.6 Qm (fun y10=>Jn1 (fun q58=>Jn1 (fun j30=>Cnd (j30=true) (Q0 y10.4 Qe.2 fun q75=>Zu y10.7 q75 fun w0n=>K (Asg.mk key y10.1 Qf w0n false) (0:Int)) (InI (Qm+1)/\v1r (Qm+1) v1k v1l)) fun w3n=>Cnd (y10.2=key) (Cnd (y10.5=2) (Cnd (q58=true) (Gh (Envt.mk (Sett.mk v.1.1 v.1.2 v.1.3) v.2 v.3 v.4 v.5 v.6) (Subj.mk s.1) y10.1 fun q75=>w3n q75) (w3n false)) (w3n false)) (w3n false)) fun w9o=>Fits y10.6->Lp1 (fun q75 w9p=>CAt y10.6 q75 (fun y15=>Cnd (y15.1<=Qf) (Cnd (Qf<y15.2) (w9o (decide ((0:Int)<=q75))) (InI (q75+1)/\w9p (q75+1))) (InI (q75+1)/\w9p (q75+1))) (w9o (decide ((0:Int)<=(-1:Int))))) (0:Int)) (K (Asg.mk key v1k Qf v1l false) (0:Int))) (0:Int) (B8 []) (0:Int)) (K (Asg.mk key (B8 []) Qf (0:Int) false) (0:Int)))) fun v09=>q1l (Envt.mk (Sett.mk v.1.1 v.1.2 v.1.3) v.2 v.3 v.4 v.5 v.6) (Subj.mk s.1) fun q57=>Cnd (q57=true) (v09 true) (Cnd (Hw=true) (v09 (decide (Qf<y1.4))) (v09 false)))) fun w4p=>Cnd (q1g=true) (Cnd (Q1.2=B8 []) (w4p true) (q1m (Envt.mk (Sett.mk v.1.1 v.1.2 v.1.3) v.2 v.3 v.4 v.5 v.6) Q1 fun q0s=>w4p q0s)) (w4p false)) fun j6w=>Cnd (Hw=true) (Q0 y1.3 Qe.2 fun Q1=>j6w Q1) (j6w (-1:Int)))) fun q8o=>Fits v.5->Lp1 (fun Ql z6n=>CAt v.5 Ql (fun y3=>Cnd (y3.1=key) (q8o Ql) (InI (Ql+1)/\z6n (Ql+1))) (q8o (-1:Int))) (0:Int)
def Gx:Wu:=q3l V4 H5 Vf Ri U8 q00 q0z
abbrev q0g:Type:=ByteArray->(List (ByteArray)->Prop)->Prop
def q0h(s:ByteArray)(K:List (ByteArray)->Prop):Prop:=s.size<4294967281/\j82 s/\K (Vc s)
abbrev Je:Type:=ByteArray->(Bool->Prop)->Prop
def z1n(He:q0g):Je:=fun s K=>Cnd ((↑s.size:Int)<1) (K false) (Cnd ((32:Int)<(↑s.size:Int)) (K false) (Lp1 (fun (Qb:ByteArray×Nat) q2u=>Cnd (Qb.2<Qb.1.size) (Cnd ((97:Int)<=(↑(Go.Utf8.decode Qb.1 Qb.2).1:Int)) (Cnd ((↑(Go.Utf8.decode Qb.1 Qb.2).1:Int)<=(122:Int)) (q2u (Qb.1,Qb.2+(Go.Utf8.decode Qb.1 Qb.2).2)) (Cnd ((↑Qb.2:Int)=(0:Int)) (K false) (Cnd ((↑(Go.Utf8.decode Qb.1 Qb.2).1:Int)<(48:Int)) (Cnd ((↑(Go.Utf8.decode Qb.1 Qb.2).1:Int)=(45:Int)) (q2u (Qb.1,Qb.2+(Go.Utf8.decode Qb.1 Qb.2).2)) (Cnd ((↑(Go.Utf8.decode Qb.1 Qb.2).1:Int)=(95:Int)) (q2u (Qb.1,Qb.2+(Go.Utf8.decode Qb.1 Qb.2).2)) (K false))) (Cnd ((57:Int)<(↑(Go.Utf8.decode Qb.1 Qb.2).1:Int)) (Cnd ((↑(Go.Utf8.decode Qb.1 Qb.2).1:Int)=(45:Int)) (q2u (Qb.1,Qb.2+(Go.Utf8.decode Qb.1 Qb.2).2)) (Cnd ((↑(Go.Utf8.decode Qb.1 Qb.2).1:Int)=(95:Int)) (q2u (Qb.1,Qb.2+(Go.Utf8.decode Qb.1 Qb.2).2)) (K false))) (q2u (Qb.1,Qb.2+(Go.Utf8.decode Qb.1 Qb.2).2)))))) (Cnd ((↑Qb.2:Int)=(0:Int)) (K false) (Cnd ((↑(Go.Utf8.decode Qb.1 Qb.2).1:Int)<(48:Int)) (Cnd ((↑(Go.Utf8.decode Qb.1 Qb.2).1:Int)=(45:Int)) (q2u (Qb.1,Qb.2+(Go.Utf8.decode Qb.1 Qb.2).2)) (Cnd ((↑(Go.Utf8.decode Qb.1 Qb.2).1:Int)=(95:Int)) (q2u (Qb.1,Qb.2+(Go.Utf8.decode Qb.1 Qb.2).2)) (K false))) (Cnd ((57:Int)<(↑(Go.Utf8.decode Qb.1 Qb.2).1:Int)) (Cnd ((↑(Go.Utf8.decode Qb.1 Qb.2).1:Int)=(45:Int)) (q2u (Qb.1,Qb.2+(Go.Utf8.decode Qb.1 Qb.2).2)) (Cnd ((↑(Go.Utf8.decode Qb.1 Qb.2).1:Int)=(95:Int)) (q2u (Qb.1,Qb.2+(Go.Utf8.decode Qb.1 Qb.2).2)) (K false))) (q2u (Qb.1,Qb.2+(Go.Utf8.decode Qb.1 Qb.2).2)))))) (He (B8 [97,110,100,32,97,114,109,115,32,97,116,116,114,105,98,117,116,101,32,98,111,111,108,32,99,108,97,105,109,115,32,99,111,110,116,97,105,110,115,32,99,111,111,108,32,99,111,111,108,105,110,103,32,100,101,102,97,117,108,116,32,100,114,97,102,116,32,101,110,100,115,32,101,120,99,108,117,100,101,32,101,120,105,115,116,115,32,101,120,112,101,114,105,109,101,110,116,32,102,97,108,115,101,32,102,108,97,103,32,104,111,108,100,111,117,116,32,105,110,32,105,110,99,108,117,100,101,32,105,115,32,108,97,121,101,114,32,108,105,115,116,32,109,101,109,98,101,114,32,110,101,101,100,115,32,110,111,116,32,110,117,109,98,101,114,32,111,102,102,32,111,110,32,111,114,32,114,117,108,101,32,114,117,110,110,105,110,103,32,115,97,108,116,32,115,101,103,109,101,110,116,32,115,101,114,118,101,32,115,101,116,116,105,110,103,115,32,115,112,108,105,116,32,115,116,97,114,116,115,32,115,116,111,112,112,101,100,32,116,97,114,103,101,116,32,116,101,120,116,32,116,111,32,116,114,117,101,32,117,110,116,105,108,32,118,97,114,105,97,116,105,111,110,115,32,118,101,114,115,105,111,110,32,119,104,101,110]) fun Qu=>Fits Qu->Lp1 (fun Qe q74=>CAt Qu Qe (fun y4=>Cnd (y4=s) (K false) (InI (Qe+1)/\q74 (Qe+1))) (K true)) (0:Int))) (s,(0:Nat))))
def Ga:Je:=z1n q0h
abbrev Rj:Type:=Reg->Slt->(Bool->Prop)->Prop
def q4z(Qr:Je):Rj:=fun r s K=>Qr s.1 fun Qb=>Cnd (Qb=true) (Qr s.2 fun Qu=>Cnd (Qu=true) (Qr s.3 fun Ql=>Cnd (Ql=true) (Cnd (s.4<1) (K false) (Cnd ((8:Int)<s.4) (K false) (Cnd (s.5<0) (K false) (Cnd (r.1<s.5) (K false) (Cnd (s.7=0) (K (decide (s.6=0))) (Jn1 (fun Qe=>Cnd (Qe=true) (Cnd (s.5<=s.6) (K (decide (s.6<=r.1))) (K false)) (K false)) fun w9q=>Cnd (s.7=1) (w9q (decide (s.7=1))) (w9q (decide (s.7=2))))))))) (K false)) (K false)) (K false)
def q04:Rj:=q4z Ga
abbrev Ze:Type:=(ByteArray->Option (ByteArray))->ByteArray->(ByteArray->(ByteArray->Option (ByteArray))->Prop)->Prop
def Zz:Ze:=fun f id K=>Lp1 (fun Qb q2u=>Cnd ((f Qb).isSome=true) (q2u ((f Qb).getD (B8 []))) (K Qb f)) id
abbrev Jm:Type:=(ByteArray->Option (ByteArray))->ByteArray->ByteArray->(Bool->(ByteArray->Option (ByteArray))->Prop)->Prop
def Ur(Qk:Ze):Jm:=fun f a b K=>Qk f a fun Qb q2u=>Qk q2u b fun Qu q4h=>Cnd (Qb=Qu) (K false q4h) (Cnd (Lk.blt Qb Qu) (Cnd (Lk.blt Qu Qb) (K true (put q4h Qu Qu)) (K true (put q4h Qu Qb))) (Cnd (Lk.blt Qu Qb) (K true (put q4h Qb Qu)) (K true (put q4h Qb Qb))))
def Wq:Jm:=Ur Zz
abbrev Vo:Type:=List (Lnk)->((ByteArray->Option (ByteArray))->Prop)->Prop
def q40(Wt:Jm):Vo:=fun l K=>Fits l->Lp2 (fun Qu q4h w0l=>CAt l Qu (fun y2=>Wt q4h y2.1 y2.2 fun _ j6r=>InI (Qu+1)/\w0l (Qu+1) j6r) (K q4h)) (0:Int) fun _=>none
def Rk:Vo:=q40 Wq
abbrev Q9:Type:=List (Lnk)->ByteArray->(ByteArray->Prop)->Prop
def q2a(Jy:Vo)(Qk:Ze):Q9:=fun l id K=>Jy l fun q8o=>Qk q8o id fun Qu _=>K Qu
def Jn:Q9:=q2a Rk Zz
abbrev Ji:Type:=Reg->(Bool->Prop)->Prop
def q3m(Qr:Je)(q1n:Rj)(Qi:Q9):Ji:=fun r K=>Cnd (r.1<0) (K false) (Cnd ((1099511627776:Int)<r.1) (K false) (Fits r.2->Cnd ((64:Int)<(↑r.2.length:Int)) (K false) (Fits r.3->Cnd ((128:Int)<(↑r.3.length:Int)) (K false) (Fits r.2->Lp2 (fun Qe Hw z7a=>CAt r.2 Hw (fun y4=>Qr y4.1 fun W8=>Cnd (W8=true) (Qr y4.2 fun q0s=>Cnd (q0s=true) (Cnd (y4.1=y4.2) (K false) (Cnd (y4.3<Qe) (K false) (Cnd (r.1<y4.3) (K false) (InI (Hw+1)/\z7a y4.3 (Hw+1))))) (K false)) (K false)) (Fits r.3->Lp2 (fun Q1 q1g w9m=>CAt r.3 q1g (fun y6=>q1n r y6 fun q57=>Cnd (q57=true) (Cnd (y6.5<Q1) (K false) (InI (q1g+1)/\w9m y6.5 (q1g+1))) (K false)) (Fits r.3->Lp2 (fun q0s w7p w0t=>CAt r.3 q0s (fun y8=>Cnd (y8.7=0) (Qi r.2 y8.1 fun B7=>Cnd ((w7p (y8.2,B7)).getD false=true) (K false) (InI (q0s+1)/\w0t (q0s+1) (put w7p (y8.2,B7) true))) (InI (q0s+1)/\w0t (q0s+1) w7p)) (K true)) (0:Int) fun _=>none)) (0:Int) (0:Int))) (0:Int) (0:Int)))))
def V5:Ji:=q3m Ga q04 Jn
abbrev Jj:Type:=Reg->Int->(Int->Prop)->Prop
def q3n(Zc:Ji):Jj:=fun r now K=>Zc r fun Qb=>Cnd (Qb=true) (Cnd (now<r.1) (K (26:Int)) (Cnd ((1099511627776:Int)<now) (K (26:Int)) (K (0:Int)))) (K (25:Int))
def V6:Jj:=q3n V5
abbrev Qn:Type:=List (Lnk)->(List (Lnk)->Prop)->Prop
def Qy:Qn:=fun s K=> ∀n0,(n0=true->s=[])->Cnd (n0=true) (K []) (Sml ([]++s).length/\K ([]++s))
abbrev Qo:Type:=List (Slt)->(List (Slt)->Prop)->Prop
def Qz:Qo:=fun s K=> ∀n0,(n0=true->s=[])->Cnd (n0=true) (K []) (Sml ([]++s).length/\K ([]++s))
abbrev Vz:Type:=Reg->ByteArray->ByteArray->(Int->Prop)->Prop
def q0i(Qi:Q9):Vz:=fun r id layer K=>Qi r.2 id fun Qb=>Fits r.3->Lp1 (fun Ql z6n=>CAt r.3 Ql (fun y3=>Cnd (y3.7=0) (Cnd (y3.2=layer) (Qi r.2 y3.1 fun Q1=>Cnd (Q1=Qb) (K Ql) (InI (Ql+1)/\z6n (Ql+1))) (InI (Ql+1)/\z6n (Ql+1))) (InI (Ql+1)/\z6n (Ql+1))) (K (-1:Int))) (0:Int)
def G7:Vz:=q0i Jn
abbrev J6:Type:=Reg->ByteArray->Asg->Int->Int->(Reg->Slt->Int->Prop)->Prop
def q2b(Zd:Jj)(Qr:Je)(Qc:Qn)(Qd:Qo)(Hf:Vz)(Qi:Q9):J6:=fun r id a cool now K=>Zd r now fun Qb=>Cnd (Qb=0) (Cnd (cool<0) (K (Reg.mk (0:Int) [] []) (Slt.mk (B8 []) (B8 []) (B8 []) (0:Int) (0:Int) (0:Int) (0:Int)) (3:Int)) (Qr id fun Qu=>Cnd (Qu=true) (Qr a.1 fun Ql=>Cnd (Ql=true) (Qc r.2 fun Qe=>Qd r.3 fun Qf=>Hf r id a.1 fun Q1=>Cnd ((0:Int)<=Q1) (At r.3 Q1 fun y6=>K (Reg.mk now Qe Qf) y6 (0:Int)) (Cnd (a.5=true) (K (Reg.mk (0:Int) [] []) (Slt.mk (B8 []) (B8 []) (B8 []) (0:Int) (0:Int) (0:Int) (0:Int)) (11:Int)) (Qr a.2 fun W8=>Cnd (W8=true) (Cnd (a.4<1) (K (Reg.mk (0:Int) [] []) (Slt.mk (B8 []) (B8 []) (B8 []) (0:Int) (0:Int) (0:Int) (0:Int)) (11:Int)) (Cnd ((8:Int)<a.4) (K (Reg.mk (0:Int) [] []) (Slt.mk (B8 []) (B8 []) (B8 []) (0:Int) (0:Int) (0:Int) (0:Int)) (11:Int)) (Qi r.2 id fun q0s=>Fits r.3->LpH (fun (Qm:Int×ByteArray×ByteArray×ByteArray×Int×Int×Int×Int×Int×List Lnk×List Slt×Unit) (w4q:Int×ByteArray×ByteArray×ByteArray×Int×Int×Int×Int×Int×List Lnk×List Slt×Unit->Prop)=>CAt r.3 Qm.1 (fun y10=>Cnd (y10.2=a.1) (Cnd (y10.7=0) (InI (Qm.1+1)/\w4q (Qm.1+1,Qm.2.1,Qm.2.2.1,Qm.2.2.2.1,Qm.2.2.2.2.1,Qm.2.2.2.2.2.1,Qm.2.2.2.2.2.2.1,Qm.2.2.2.2.2.2.2.1,Qm.2.2.2.2.2.2.2.2.1,Qm.2.2.2.2.2.2.2.2.2.1,Qm.2.2.2.2.2.2.2.2.2.2.1,())) (InI (now - y10.6)/\Cnd (now - y10.6<cool) (Qi r.2 y10.1 fun q58=>Cnd (q58=q0s) (K (Reg.mk (0:Int) [] []) (Slt.mk (B8 []) (B8 []) (B8 []) (0:Int) (0:Int) (0:Int) (0:Int)) (28:Int)) (InI (Qm.1+1)/\w4q (Qm.1+1,Qm.2.1,Qm.2.2.1,Qm.2.2.2.1,Qm.2.2.2.2.1,Qm.2.2.2.2.2.1,Qm.2.2.2.2.2.2.1,Qm.2.2.2.2.2.2.2.1,Qm.2.2.2.2.2.2.2.2.1,Qm.2.2.2.2.2.2.2.2.2.1,Qm.2.2.2.2.2.2.2.2.2.2.1,()))) (InI (Qm.1+1)/\w4q (Qm.1+1,Qm.2.1,Qm.2.2.1,Qm.2.2.2.1,Qm.2.2.2.2.1,Qm.2.2.2.2.2.1,Qm.2.2.2.2.2.2.1,Qm.2.2.2.2.2.2.2.1,Qm.2.2.2.2.2.2.2.2.1,Qm.2.2.2.2.2.2.2.2.2.1,Qm.2.2.2.2.2.2.2.2.2.2.1,())))) (InI (Qm.1+1)/\w4q (Qm.1+1,Qm.2.1,Qm.2.2.1,Qm.2.2.2.1,Qm.2.2.2.2.1,Qm.2.2.2.2.2.1,Qm.2.2.2.2.2.2.1,Qm.2.2.2.2.2.2.2.1,Qm.2.2.2.2.2.2.2.2.1,Qm.2.2.2.2.2.2.2.2.2.1,Qm.2.2.2.2.2.2.2.2.2.2.1,()))) (Fits r.3->Cnd ((128:Int)<=(↑r.3.length:Int)) (K (Reg.mk (0:Int) [] []) (Slt.mk (B8 []) (B8 []) (B8 []) (0:Int) (0:Int) (0:Int) (0:Int)) (19:Int)) (Sml (Qf++[Slt.mk id a.1 a.2 a.4 now (0:Int) (0:Int)]).length/\K (Reg.mk now Qe (Qf++[Slt.mk id a.1 a.2 a.4 now (0:Int) (0:Int)])) (Slt.mk id a.1 a.2 a.4 now (0:Int) (0:Int)) (0:Int)))) ((0:Int),B8 [],B8 [],B8 [],(0:Int),(0:Int),(0:Int),(0:Int),(0:Int),[],[],())))) (K (Reg.mk (0:Int) [] []) (Slt.mk (B8 []) (B8 []) (B8 []) (0:Int) (0:Int) (0:Int) (0:Int)) (11:Int))))) (K (Reg.mk (0:Int) [] []) (Slt.mk (B8 []) (B8 []) (B8 []) (0:Int) (0:Int) (0:Int) (0:Int)) (6:Int))) (K (Reg.mk (0:Int) [] []) (Slt.mk (B8 []) (B8 []) (B8 []) (0:Int) (0:Int) (0:Int) (0:Int)) (6:Int)))) (K (Reg.mk (0:Int) [] []) (Slt.mk (B8 []) (B8 []) (B8 []) (0:Int) (0:Int) (0:Int) (0:Int)) Qb)
def Us:J6:=q2b V6 Ga Qy Qz G7 Jn
abbrev Wf:Type:=List (Lnk)->Int->(List (Lnk)->Prop)->Prop
def V0:Wf:=fun l time K=>Fits l->Lp2 (fun Qu q28 w0l=>CAt l q28 (fun y2=>Cnd (y2.3<=time) (Sml (Qu++[y2]).length/\InI (q28+1)/\w0l (Qu++[y2]) (q28+1)) (InI (q28+1)/\w0l Qu (q28+1))) (K Qu)) [] (0:Int)
abbrev q2c:Type:=Reg->ByteArray->ByteArray->Int->(Slt->Bool->Prop)->Prop
def q8y(Zv:Wf)(Qi:Q9):q2c:=fun r id layer time K=>Zv r.2 time fun Qb=>Qi Qb id fun Qu=>Fits r.3->LpH (fun (Qe:Int×ByteArray×ByteArray×ByteArray×Int×Int×Int×Int×Unit) q74=>CAt r.3 Qe.1 (fun y4=>Cnd (y4.2=layer) (Cnd (y4.5<=time) (Cnd (y4.7=0) (Qi Qb y4.1 fun W8=>Cnd (W8=Qu) (K y4 true) (InI (Qe.1+1)/\q74 (Qe.1+1,Qe.2.1,Qe.2.2.1,Qe.2.2.2.1,Qe.2.2.2.2.1,Qe.2.2.2.2.2.1,Qe.2.2.2.2.2.2.1,Qe.2.2.2.2.2.2.2.1,()))) (Cnd (time<y4.6) (Qi Qb y4.1 fun W8=>Cnd (W8=Qu) (K y4 true) (InI (Qe.1+1)/\q74 (Qe.1+1,Qe.2.1,Qe.2.2.1,Qe.2.2.2.1,Qe.2.2.2.2.1,Qe.2.2.2.2.2.1,Qe.2.2.2.2.2.2.1,Qe.2.2.2.2.2.2.2.1,()))) (InI (Qe.1+1)/\q74 (Qe.1+1,Qe.2.1,Qe.2.2.1,Qe.2.2.2.1,Qe.2.2.2.2.1,Qe.2.2.2.2.2.1,Qe.2.2.2.2.2.2.1,Qe.2.2.2.2.2.2.2.1,())))) (InI (Qe.1+1)/\q74 (Qe.1+1,Qe.2.1,Qe.2.2.1,Qe.2.2.2.1,Qe.2.2.2.2.1,Qe.2.2.2.2.2.1,Qe.2.2.2.2.2.2.1,Qe.2.2.2.2.2.2.2.1,()))) (InI (Qe.1+1)/\q74 (Qe.1+1,Qe.2.1,Qe.2.2.1,Qe.2.2.2.1,Qe.2.2.2.2.1,Qe.2.2.2.2.2.1,Qe.2.2.2.2.2.2.1,Qe.2.2.2.2.2.2.2.1,()))) (K (Slt.mk (B8 []) (B8 []) (B8 []) (0:Int) (0:Int) (0:Int) (0:Int)) false)) ((0:Int),B8 [],B8 [],B8 [],(0:Int),(0:Int),(0:Int),(0:Int),())
def q41:q2c:=q8y V0 Jn
abbrev q2d:Type:=Reg->ByteArray->ByteArray->Int->(Slt->Bool->Prop)->Prop
def q8z(Zc:Ji)(q5o:q2c):q2d:=fun r id layer time K=>Zc r fun Qb=>Cnd (Qb=true) (q5o r id layer time fun Qu q28=>K Qu q28) (K (Slt.mk (B8 []) (B8 []) (B8 []) (0:Int) (0:Int) (0:Int) (0:Int)) false)
def q42:q2d:=q8z V5 q41
abbrev Gb:Type:=Envt->ByteArray->(Lay_->Bool->Prop)->Prop
def Rl:Gb:=fun v key K=>Fits v.5->LpH (fun (Qu:Int×ByteArray×ByteArray×ByteArray×Int×Int×List Col×Unit) q4h=>CAt v.5 Qu.1 (fun y2=>Cnd (y2.1=key) (K y2 true) (InI (Qu.1+1)/\q4h (Qu.1+1,Qu.2.1,Qu.2.2.1,Qu.2.2.2.1,Qu.2.2.2.2.1,Qu.2.2.2.2.2.1,Qu.2.2.2.2.2.2.1,()))) (K (Lay_.mk (B8 []) (B8 []) (B8 []) (0:Int) (0:Int) []) false)) ((0:Int),B8 [],B8 [],B8 [],(0:Int),(0:Int),[],())
abbrev Wg:Type:=Lnk->ByteArray->(ByteArray->Bool->Prop)->Prop
def V1:Wg:=fun k id K=>Cnd (id=k.1) (K k.2 true) (Cnd (id=k.2) (K k.1 true) (K (B8 []) false))
abbrev Js:Type:=List (Lnk)->ByteArray->((ByteArray->Option (Int))->Prop)->Prop
def Gl(Zw:Wg):Js:=fun l b K=>Lp2 (fun Qb q2u w0s=>Fits Qb->Cnd ((0:Int)<(↑Qb.length:Int)) (Fits Qb->Lp3 (fun Qe Hw z7a w9r=>CAt Qb Hw (fun y4=>Fits l->Lp3 (fun q0s w7q w0t v1a=>CAt l w7q (fun y8=>Zw y8 y4 fun B7 v1b=>Cnd (v1b=true) (Cnd ((w0t B7).isSome=true) (InI (w7q+1)/\v1a q0s (w7q+1) w0t) (InI ((w0t y4).getD (0:Int)+(1:Int))/\Sml (q0s++[B7]).length/\InI (w7q+1)/\v1a (q0s++[B7]) (w7q+1) (put w0t B7 ((w0t y4).getD (0:Int)+(1:Int))))) (InI (w7q+1)/\v1a q0s (w7q+1) w0t)) (InI (Hw+1)/\w9r q0s (Hw+1) w0t)) Qe (0:Int) z7a) (w0s Qe z7a)) [] (0:Int) q2u) (K q2u)) [b] (put (fun _=>none) b (0:Int))
def Wv:Js:=Gl V1
abbrev Ut:Type:=List (Lnk)->ByteArray->ByteArray->(List (Lnk)->Bool->Prop)->Prop
def q2e(Wy:Js)(Zw:Wg):Ut:=fun l a b K=>Wy l b fun q8o=>Cnd ((q8o a).isSome=true) (Lp2 (fun Qu q28 w0l=>Cnd (Qu=b) (K q28 true) (Fits l->Lp3 (fun Qe Hw w3o w9r=>CAt l w3o (fun y4=>Zw y4 Qe fun W8 w0m=>Cnd (w0m=true) (Cnd ((q8o W8).isSome=true) (InI ((q8o Qe).getD (0:Int) - (1:Int))/\Cnd ((q8o W8).getD (0:Int)=(q8o Qe).getD (0:Int) - (1:Int)) (Sml (Hw++[y4]).length/\w0l W8 (Hw++[y4])) (InI (w3o+1)/\w9r Qe Hw (w3o+1))) (InI (w3o+1)/\w9r Qe Hw (w3o+1))) (InI (w3o+1)/\w9r Qe Hw (w3o+1))) (K Hw true)) Qu q28 (0:Int))) a []) (K [] false)
def Rm:Ut:=q2e Wv V1
abbrev J7:Type:=Reg->Envt->ByteArray->ByteArray->Int->(Rcd->Int->Prop)->Prop
def q2f(Zc:Ji)(q5p:q2d)(Jz:Gb)(Zv:Wf)(R7:Ut)(Q0:J2):J7:=fun r v id key time K=>Zc r fun Qb=>Cnd (Qb=true) (q5p r id key time fun Qu q28=>Jz (Envt.mk (Sett.mk v.1.1 v.1.2 v.1.3) v.2 v.3 v.4 v.5 v.6) key fun Ql Hb=>Cnd (q28=true) (Cnd (Hb=true) (Zv r.2 time fun Qe=>R7 Qe id Qu.1 fun Qf _=>Q0 Ql.3 Qu.1 fun Q1=>K (Rcd.mk id time Qu Q1 Qf) (0:Int)) (K (Rcd.mk (B8 []) (0:Int) (Slt.mk (B8 []) (B8 []) (B8 []) (0:Int) (0:Int) (0:Int) (0:Int)) (0:Int) []) (11:Int))) (K (Rcd.mk (B8 []) (0:Int) (Slt.mk (B8 []) (B8 []) (B8 []) (0:Int) (0:Int) (0:Int) (0:Int)) (0:Int) []) (11:Int))) (K (Rcd.mk (B8 []) (0:Int) (Slt.mk (B8 []) (B8 []) (B8 []) (0:Int) (0:Int) (0:Int) (0:Int)) (0:Int) []) (25:Int))
def Uu:J7:=q2f V5 q42 Rl V0 Rm Vf
abbrev q05:Type:=List (Lnk)->ByteArray->ByteArray->Int->(Bool->Prop)->Prop
def q06:q05:=fun l a b time K=>Fits l->Lp2 (fun Qu q28 w0l=>CAt l q28 (fun y2=>Cnd (time<y2.3) (K false) (Cnd (y2.1=Qu) (InI (q28+1)/\w0l y2.2 (q28+1)) (Cnd (y2.2=Qu) (InI (q28+1)/\w0l y2.1 (q28+1)) (K false)))) (K (decide (Qu=b)))) a (0:Int)
abbrev Vp:Type:=Rcd->Envt->(Int->Prop)->Prop
def q43(q1o:q05)(Jz:Gb)(Q0:J2)(Zu:U9)(Qr:Je):Vp:=fun x v K=>Jn1 (fun Qb=>Cnd (Qb=true) (K (6:Int)) (Jn1 (fun Qu=>Cnd (Qu=true) (K (26:Int)) (q1o x.5 x.1 x.3.1 x.2 fun Ql=>Cnd (Ql=true) (Jz (Envt.mk (Sett.mk v.1.1 v.1.2 v.1.3) v.2 v.3 v.4 v.5 v.6) x.3.2 fun Qe Hw=>Fits v.6->Lp1 (fun Q1 j5s=>CAt v.6 Q1 (fun y6=>Cnd (y6.1=x.3.3) (Cnd (y6.2=x.3.2) (Cnd (Hw=true) (Cnd (Q1<0) (K (11:Int)) (At v.6 Q1 fun y8=>Q0 Qe.3 x.3.1 fun B7=>Cnd (x.4=B7) (Fits y8.6->Lp1 (fun q58 w9s=>CAt y8.6 q58 (fun y13=>Cnd (y13.1<=x.4) (Cnd (x.4<y13.2) (Cnd ((0:Int)<=q58) (Q0 y8.4 x.3.1 fun w0n=>Zu y8.7 w0n fun v1c=>Cnd (x.3.4=v1c) (K (0:Int)) (K (23:Int))) (K (25:Int))) (InI (q58+1)/\w9s (q58+1))) (InI (q58+1)/\w9s (q58+1))) (Cnd ((0:Int)<=(-1:Int)) (Q0 y8.4 x.3.1 fun j30=>Zu y8.7 j30 fun q75=>Cnd (x.3.4=q75) (K (0:Int)) (K (23:Int))) (K (25:Int)))) (0:Int)) (K (3:Int)))) (K (11:Int))) (InI (Q1+1)/\j5s (Q1+1))) (InI (Q1+1)/\j5s (Q1+1))) (Cnd (Hw=true) (Cnd ((-1:Int)<(0:Int)) (K (11:Int)) (At v.6 (-1:Int) fun y6=>Q0 Qe.3 x.3.1 fun q57=>Cnd (x.4=q57) (Fits y6.6->Lp1 (fun B7 w9t=>CAt y6.6 B7 (fun y11=>Cnd (y11.1<=x.4) (Cnd (x.4<y11.2) (Cnd ((0:Int)<=B7) (Q0 y6.4 x.3.1 fun j30=>Zu y6.7 j30 fun q75=>Cnd (x.3.4=q75) (K (0:Int)) (K (23:Int))) (K (25:Int))) (InI (B7+1)/\w9t (B7+1))) (InI (B7+1)/\w9t (B7+1))) (Cnd ((0:Int)<=(-1:Int)) (Q0 y6.4 x.3.1 fun w7r=>Zu y6.7 w7r fun q58=>Cnd (x.3.4=q58) (K (0:Int)) (K (23:Int))) (K (25:Int)))) (0:Int)) (K (3:Int)))) (K (11:Int)))) (0:Int)) (K (15:Int)))) fun w7w=>Cnd (x.2<x.3.5) (w7w (decide (x.2<x.3.5))) (Cnd (x.3.7=0) (w7w false) (w7w (decide (x.3.6<=x.2)))))) fun q8o=>Qr x.1 fun Qu=>Cnd (Qu=true) (Qr x.3.1 fun Ql=>q8o (match decide ((Ql,()).1=true) with|true=>false|false=>true)) (q8o (match decide ((Qu,()).1=true) with|true=>false|false=>true))
def Rn:Vp:=q43 q06 Rl Vf Ri Ga
abbrev Rp:Type:=(Bool->Prop)->Prop
def q44(Zx:Jq)(R8:q4c)(Jl:Wu)(Z6:J6)(Z7:J7)(Zy:Vp):Rp:=fun K=>Zx (0:Int) (0:Int) (9998:Int) (4000:Int) (3000:Int) fun Qb=>R8 (B8 [97,110,110]) fun Qu=>Jl (Envt.mk (Sett.mk Qb.1.1 Qb.1.2 Qb.1.3) Qb.2 Qb.3 Qb.4 Qb.5 Qb.6) (Subj.mk Qu.1) [] (B8 [104,111,109,101]) fun Ql Hb=>Z6 (Reg.mk (0:Int) [] []) (B8 [97,110,110]) Ql (0:Int) (1:Int) fun Qe _ w3o=>Z7 Qe (Envt.mk (Sett.mk Qb.1.1 Qb.1.2 Qb.1.3) Qb.2 Qb.3 Qb.4 Qb.5 Qb.6) (B8 [97,110,110]) (B8 [104,111,109,101]) (1:Int) fun Qf Gd=>InI (Qf.4+1)/\(10000:Int)≠(0:Int)/\Cnd (Hb=0) (Cnd (w3o=0) (Cnd (Gd=0) (Cnd ((0:Int)<Ql.4) (Cnd (Qf.3.4=Ql.4) (Cnd (Qf.3.1=B8 [97,110,110]) (Cnd (Qf.4=Ql.3) (Zy (Rcd.mk Qf.1 Qf.2 (Slt.mk Qf.3.1 Qf.3.2 Qf.3.3 Qf.3.4 Qf.3.5 Qf.3.6 Qf.3.7) Qf.4 Qf.5) (Envt.mk (Sett.mk Qb.1.1 Qb.1.2 Qb.1.3) Qb.2 Qb.3 Qb.4 Qb.5 Qb.6) fun Q1=>Cnd (Q1=0) (Zy (Rcd.mk Qf.1 Qf.2 (Slt.mk Qf.3.1 Qf.3.2 Qf.3.3 Qf.3.4 Qf.3.5 Qf.3.6 Qf.3.7) ((Qf.4+1).tmod (10000:Int)) Qf.5) (Envt.mk (Sett.mk Qb.1.1 Qb.1.2 Qb.1.3) Qb.2 Qb.3 Qb.4 Qb.5 Qb.6) fun W8=>K (decide (W8=3))) (K false)) (K false)) (K false)) (K false)) (K false)) (K false)) (K false)) (K false)
def q07:Rp:=q44 Vw q6g Gx Us Uu Rn
abbrev Ja:Type:=AEnv->(Envt->Prop)->Prop
def V8(Zx:Jq):Ja:=fun x K=>Zx x.1 x.2 x.3 x.4 x.5 fun Qb=>K (Envt.mk (Sett.mk Qb.1.1 Qb.1.2 Qb.1.3) Qb.2 Qb.3 Qb.4 Qb.5 Qb.6)
def J9:Ja:=V8 Vw
abbrev j83:Type:=ByteArray->(Bool->Prop)->Prop
def j1g:j83:=fun s K=>Lp1 (fun Qb q2u=>Cnd (Qb<(↑s.size:Int)) (((0:Int)<=Qb/\Qb<(↑s.size:Int))/\ ∀b1,s[Qb.toNat]? =some b1->Cnd ((97:Int)<=(↑b1.toNat:Int)) (Cnd ((↑b1.toNat:Int)<=122) (InI (Qb+1)/\q2u (Qb+1)) (Cnd (Qb=0) (K false) (Cnd ((48:Int)<=(↑b1.toNat:Int)) (Cnd ((↑b1.toNat:Int)<=57) (InI (Qb+1)/\q2u (Qb+1)) (Cnd ((↑b1.toNat:Int)=45) (InI (Qb+1)/\q2u (Qb+1)) (Cnd ((↑b1.toNat:Int)=95) (InI (Qb+1)/\q2u (Qb+1)) (K false)))) (Cnd ((↑b1.toNat:Int)=45) (InI (Qb+1)/\q2u (Qb+1)) (Cnd ((↑b1.toNat:Int)=95) (InI (Qb+1)/\q2u (Qb+1)) (K false)))))) (Cnd (Qb=0) (K false) (Cnd ((48:Int)<=(↑b1.toNat:Int)) (Cnd ((↑b1.toNat:Int)<=57) (InI (Qb+1)/\q2u (Qb+1)) (Cnd ((↑b1.toNat:Int)=45) (InI (Qb+1)/\q2u (Qb+1)) (Cnd ((↑b1.toNat:Int)=95) (InI (Qb+1)/\q2u (Qb+1)) (K false)))) (Cnd ((↑b1.toNat:Int)=45) (InI (Qb+1)/\q2u (Qb+1)) (Cnd ((↑b1.toNat:Int)=95) (InI (Qb+1)/\q2u (Qb+1)) (K false)))))) (K (decide ((0:Int)<(↑s.size:Int))))) (0:Int)
abbrev z3n:Type:=List (ByteArray)->ByteArray->(Bool->Prop)->Prop
def q90:z3n:=fun l s K=>Lp1 (fun Qb q2u=>Fits l->CAt l Qb (fun y2=>Cnd (y2=s) (K true) (InI (Qb+1)/\q2u (Qb+1))) (K false)) (0:Int)
abbrev q3o:Type:=List (Lnk)->ByteArray->ByteArray->(Int->Prop)->Prop
def q8b(q1p:z3n):q3o:=fun l a b K=>Lp2 (fun Qb Gc w0s=>q1p Qb b fun Qu=>Cnd (Qu=true) (K Gc) (Sml ([]++Qb).length/\Lp3 (fun Ql Hb j2j w7x=>Fits l->Cnd (Hb<(↑l.length:Int)) (Jn2 (fun Qf Gd=>At l Hb fun y5=>q1p Gd y5.2 fun q0s=>Cnd (q0s=true) (At l Hb fun y8=>q1p Qf y8.1 fun B7=>Cnd (B7=true) (InI (Hb+1)/\w7x Qf (Hb+1) Gd) (At l Hb fun y11=>Sml (Qf++[y11.1]).length/\InI (Hb+1)/\w7x (Qf++[y11.1]) (Hb+1) Gd)) (InI (Hb+1)/\w7x Qf (Hb+1) Gd)) fun j6w=>At l Hb fun y5=>q1p j2j y5.1 fun q0s=>Cnd (q0s=true) (At l Hb fun y8=>q1p Ql y8.2 fun B7=>Cnd (B7=true) (j6w Ql j2j) (At l Hb fun y11=>Sml (Ql++[y11.2]).length/\j6w (Ql++[y11.2]) j2j)) (j6w Ql j2j)) (Fits Ql->Fits j2j->Cnd ((↑Ql.length:Int)=(↑j2j.length:Int)) (K (-1:Int)) (InI (Gc+1)/\w0s Ql (Gc+1)))) ([]++Qb) (0:Int) Qb)) [a] (0:Int)
def q3p:q3o:=q8b q90
abbrev z7t:Type:=List (Lnk)->ByteArray->ByteArray->(List (Lnk)->Bool->Prop)->Prop
def z7u(q8p:q3o):z7t:=fun l a b K=>q8p l a b fun Qb=>Cnd (Qb<0) (K [] false) (Lp3 (fun Qu q28 j6q w9x=>Cnd ((0:Int)<q28) (Lp3 (fun Ql Hb j2j w7x=>Fits l->CAt l j2j (fun y4=>At l j2j fun y6=>Jn2 (fun q57 v1s=>Cnd (v1s=true) (q8p l q57 b fun Qm=>InI (q28 - 1)/\Cnd (Qm=q28 - 1) (At l j2j fun y10=>Sml (Hb++[y10]).length/\InI (q28 - 1)/\w9x q57 (q28 - 1) (Hb++[y10])) (InI (j2j+1)/\w7x Ql Hb (j2j+1))) (InI (j2j+1)/\w7x Ql Hb (j2j+1))) fun v1m=>Cnd (y6.1=Ql) (v1m y4.2 (decide (y6.1=Ql))) (At l j2j fun y9=>At l j2j fun y11=>v1m y9.1 (decide (y11.2=Ql)))) (InI (q28 - 1)/\w9x Ql (q28 - 1) Hb)) Qu j6q (0:Int)) (K j6q true)) a Qb [])
def z7v:z7t:=z7u q3p
abbrev z7w:Type:=List (List Int)->(List (Int)->Prop)->Prop
def z1o:z7w:=fun fields K=>Lp2 (fun Qb Gc w0s=>Fits fields->CAt fields Gc (fun y2=>Fits y2->Lp2 (fun Q1 q1g w9m=>Cnd ((0:Int)<=q1g) ((0:Int)<=Go.IntKind.u64.wrap q1g/\Sml (Q1++[Go.IntKind.u8.wrap ((Go.IntKind.u64.wrap (↑y2.length:Int)).fdiv ((2:Int) ^ Min.min (Go.IntKind.u64.wrap q1g).toNat (64:Nat)))]).length/\InI (q1g - 8)/\w9m (Q1++[Go.IntKind.u8.wrap ((Go.IntKind.u64.wrap (↑y2.length:Int)).fdiv ((2:Int) ^ Min.min (Go.IntKind.u64.wrap q1g).toNat (64:Nat)))]) (q1g - 8)) (At fields Gc fun y6=>Sml (Q1++y6).length/\InI (Gc+1)/\w0s (Q1++y6) (Gc+1))) Qb (56:Int)) (K Qb)) [] (0:Int)
abbrev z4s:Type:=Int->Int->(Int->Prop)->Prop
def q80:z4s:=fun x n K=>(0:Int)<=n/\(0:Int)<=Go.IntKind.u64.wrap ((64:Int) - n)/\K (Go.IntKind.u64.wrap (↑(BitVec.ofInt (64:Nat) (Go.IntKind.u64.wrap (x*2 ^ Min.min n.toNat (64:Nat)))|||BitVec.ofInt (64:Nat) (x.fdiv ((2:Int) ^ Min.min (Go.IntKind.u64.wrap ((64:Int) - n)).toNat (64:Nat)))).toNat:Int))
abbrev q0j:Type:=Sip->Int->(Sip->Prop)->Prop
def q5t(Bm:z4s):q0j:=fun v n K=>Lp5 (fun Qb Gc z19 z2a j0c w7u=>Cnd (Qb<n) (Bm z19 (13:Int) fun Qu=>Bm (Go.IntKind.u64.wrap (Gc+z19)) (32:Int) fun Ql=>Bm j0c (16:Int) fun Qe=>Bm (Go.IntKind.u64.wrap (↑(BitVec.ofInt (64:Nat) Qe ^^^ BitVec.ofInt (64:Nat) (Go.IntKind.u64.wrap (z2a+j0c))).toNat:Int)) (21:Int) fun Qf=>Bm (Go.IntKind.u64.wrap (↑(BitVec.ofInt (64:Nat) Qu ^^^ BitVec.ofInt (64:Nat) (Go.IntKind.u64.wrap (Gc+z19))).toNat:Int)) (17:Int) fun Q1=>Bm (Go.IntKind.u64.wrap (Go.IntKind.u64.wrap (z2a+j0c)+Go.IntKind.u64.wrap (↑(BitVec.ofInt (64:Nat) Qu ^^^ BitVec.ofInt (64:Nat) (Go.IntKind.u64.wrap (Gc+z19))).toNat:Int))) (32:Int) fun W8=>InI (Qb+1)/\w7u (Qb+1) (Go.IntKind.u64.wrap (Ql+Go.IntKind.u64.wrap (↑(BitVec.ofInt (64:Nat) Qe ^^^ BitVec.ofInt (64:Nat) (Go.IntKind.u64.wrap (z2a+j0c))).toNat:Int))) (Go.IntKind.u64.wrap (↑(BitVec.ofInt (64:Nat) Q1 ^^^ BitVec.ofInt (64:Nat) (Go.IntKind.u64.wrap (Go.IntKind.u64.wrap (z2a+j0c)+Go.IntKind.u64.wrap (↑(BitVec.ofInt (64:Nat) Qu ^^^ BitVec.ofInt (64:Nat) (Go.IntKind.u64.wrap (Gc+z19))).toNat:Int)))).toNat:Int)) W8 (Go.IntKind.u64.wrap (↑(BitVec.ofInt (64:Nat) Qf ^^^ BitVec.ofInt (64:Nat) (Go.IntKind.u64.wrap (Ql+Go.IntKind.u64.wrap (↑(BitVec.ofInt (64:Nat) Qe ^^^ BitVec.ofInt (64:Nat) (Go.IntKind.u64.wrap (z2a+j0c))).toNat:Int)))).toNat:Int))) (K (Sip.mk Gc z19 z2a j0c))) (0:Int) v.1 v.2 v.3 v.4
def Z8:q0j:=q5t q80
abbrev z8x:Type:=Int->Int->List (Int)->(Int->Prop)->Prop
def j40(q0q:q0j):z8x:=fun k0 k1 b K=>Lp5 (fun Qb Gc z19 z2a j0c w7u=>Fits b->(8:Int)≠(0:Int)/\InI ((↑b.length:Int).tdiv (8:Int))/\Cnd (Qb<=(↑b.length:Int).tdiv (8:Int)) (Lp2 (fun Ql Hb j5r=>Cnd (Hb<8) (InI ((8:Int)*Qb)/\InI ((8:Int)*Qb+Hb)/\(Fits b->Cnd ((8:Int)*Qb+Hb<(↑b.length:Int)) (InI ((8:Int)*Qb)/\InI ((8:Int)*Qb+Hb)/\((0:Int)<=(8:Int)*Qb+Hb/\(8:Int)*Qb+Hb<(↑b.length:Int))/\ ∀y4,b[((8:Int)*Qb+Hb).toNat]? =some y4->InI ((8:Int)*Hb)/\(0:Int)<=Go.IntKind.u64.wrap ((8:Int)*Hb)/\InI (Hb+1)/\j5r (Go.IntKind.u64.wrap (↑(BitVec.ofInt (64:Nat) Ql|||BitVec.ofInt (64:Nat) (Go.IntKind.u64.wrap (Go.IntKind.u64.wrap y4*2 ^ Min.min (Go.IntKind.u64.wrap ((8:Int)*Hb)).toNat (64:Nat)))).toNat:Int)) (Hb+1)) (Jn1 (fun Qf=>q0q (Sip.mk Gc z19 z2a (Go.IntKind.u64.wrap (↑(BitVec.ofInt (64:Nat) j0c ^^^ BitVec.ofInt (64:Nat) Qf).toNat:Int))) (2:Int) fun Q1=>InI (Qb+1)/\w7u (Qb+1) (Go.IntKind.u64.wrap (↑(BitVec.ofInt (64:Nat) Q1.1 ^^^ BitVec.ofInt (64:Nat) Qf).toNat:Int)) Q1.2 Q1.3 Q1.4) fun j6w=>Fits b->(8:Int)≠(0:Int)/\InI ((↑b.length:Int).tdiv (8:Int))/\Cnd (Qb=(↑b.length:Int).tdiv (8:Int)) (Fits b->(256:Int)≠(0:Int)/\(0:Int)<=(56:Int)/\j6w (Go.IntKind.u64.wrap (↑(BitVec.ofInt (64:Nat) Ql|||BitVec.ofInt (64:Nat) (Go.IntKind.u64.wrap (Go.IntKind.u64.wrap ((↑b.length:Int).tmod (256:Int))*(2:Int) ^ Min.min (Int.toNat (56:Int)) (64:Nat)))).toNat:Int))) (j6w Ql)))) (Jn1 (fun Qe=>q0q (Sip.mk Gc z19 z2a (Go.IntKind.u64.wrap (↑(BitVec.ofInt (64:Nat) j0c ^^^ BitVec.ofInt (64:Nat) Qe).toNat:Int))) (2:Int) fun Qf=>InI (Qb+1)/\w7u (Qb+1) (Go.IntKind.u64.wrap (↑(BitVec.ofInt (64:Nat) Qf.1 ^^^ BitVec.ofInt (64:Nat) Qe).toNat:Int)) Qf.2 Qf.3 Qf.4) fun w9q=>Fits b->(8:Int)≠(0:Int)/\InI ((↑b.length:Int).tdiv (8:Int))/\Cnd (Qb=(↑b.length:Int).tdiv (8:Int)) (Fits b->(256:Int)≠(0:Int)/\(0:Int)<=(56:Int)/\w9q (Go.IntKind.u64.wrap (↑(BitVec.ofInt (64:Nat) Ql|||BitVec.ofInt (64:Nat) (Go.IntKind.u64.wrap (Go.IntKind.u64.wrap ((↑b.length:Int).tmod (256:Int))*(2:Int) ^ Min.min (Int.toNat (56:Int)) (64:Nat)))).toNat:Int))) (w9q Ql))) (0:Int) (0:Int)) (q0q (Sip.mk Gc z19 (Go.IntKind.u64.wrap (↑(BitVec.ofInt (64:Nat) z2a ^^^ BitVec.ofInt (64:Nat) (255:Int)).toNat:Int)) j0c) (4:Int) fun Ql=>K (Go.IntKind.u64.wrap (↑(BitVec.ofInt (64:Nat) (Go.IntKind.u64.wrap (↑(BitVec.ofInt (64:Nat) (Go.IntKind.u64.wrap (↑(BitVec.ofInt (64:Nat) Ql.1 ^^^ BitVec.ofInt (64:Nat) Ql.2).toNat:Int)) ^^^ BitVec.ofInt (64:Nat) Ql.3).toNat:Int)) ^^^ BitVec.ofInt (64:Nat) Ql.4).toNat:Int)))) (0:Int) (Go.IntKind.u64.wrap (↑(BitVec.ofInt (64:Nat) k0 ^^^ BitVec.ofInt (64:Nat) (8317987319222330741:Int)).toNat:Int)) (Go.IntKind.u64.wrap (↑(BitVec.ofInt (64:Nat) k1 ^^^ BitVec.ofInt (64:Nat) (7237128888997146477:Int)).toNat:Int)) (Go.IntKind.u64.wrap (↑(BitVec.ofInt (64:Nat) k0 ^^^ BitVec.ofInt (64:Nat) (7816392313619706465:Int)).toNat:Int)) (Go.IntKind.u64.wrap (↑(BitVec.ofInt (64:Nat) k1 ^^^ BitVec.ofInt (64:Nat) (8387220255154660723:Int)).toNat:Int))
def z8y:z8x:=j40 Z8
abbrev z4t:Type:=Int->List (List Int)->(Int->Prop)->Prop
def j1h(j6s:z7w)(w3p:z8x):z4t:=fun domain fields K=>j6s fields fun Qb=>w3p domain (0:Int) Qb fun Qu=>K Qu
def z4u:z4t:=j1h z1o z8y
abbrev j41:Type:=ByteArray->ByteArray->(Int->Prop)->Prop
def j42(w0o:z4t):j41:=fun salt key K=>Sml salt.size/\Sml key.size/\w0o (1:Int) [List.map (fun b=>(↑b.toNat:Int)) (salt,key,()).1.data.toList,List.map (fun b=>(↑b.toNat:Int)) (salt,key,()).2.1.data.toList] fun Qb=>(10000:Int)≠(0:Int)/\InI (Qb.tmod (10000:Int))/\K (Qb.tmod (10000:Int))
def z8z:j41:=j42 z4u
abbrev z3o:Type:=(List (ByteArray)->Prop)->Prop
def j43:z3o:=fun K=>K [B8 [97,110,110],B8 [98,111,98],B8 [99,97,116],B8 [100,97,110],B8 [101,118,101],B8 [102,97,121]]
abbrev q81:Type:=Int->(ByteArray->Prop)->Prop
def j3b(z03:z3o):q81:=fun n K=>z03 fun Qb=>z03 fun Qu=>Fits Qu->(↑Qu.length:Int)≠(0:Int)/\((0:Int)<=n.tmod (↑Qu.length:Int)/\n.tmod (↑Qu.length:Int)<(↑Qb.length:Int))/\ ∀y3,Qb[(n.tmod (↑Qu.length:Int)).toNat]? =some y3->K y3
def z4v:q81:=j3b j43
abbrev G8:Type:=(List (ByteArray)->Prop)->Prop
def q5u:G8:=fun K=>K [B8 [98,108,117,101],B8 [103,114,101,101,110],B8 [102,97,115,116],B8 [115,108,111,119]]
abbrev Rq:Type:=Reg->ByteArray->Int->(Reg->Int->Int->Prop)->Prop
def q45(Zd:Jj)(Qr:Je)(Qc:Qn)(Qd:Qo):Rq:=fun r experiment now K=>Zd r now fun Qb=>Cnd (Qb=0) (Qr experiment fun Qu=>Cnd (Qu=true) (Qc r.2 fun Ql=>Qd r.3 fun Qe=>Fits Qe->Lp3 (fun Q1 q1g j6v v1d=>Cnd (q1g<(↑Qe.length:Int)) (At j6v q1g fun y6=>Cnd (y6.7=0) (∀y8,j6v[q1g.toNat]? =some y8->Cnd (y8.3=experiment) (∀y10,j6v[q1g.toNat]? =some y10-> ∀y12,(j6v.set q1g.toNat (Slt.mk y10.1 y10.2 y10.3 y10.4 y10.5 now y10.7))[q1g.toNat]? =some y12->InI (Q1+1)/\InI (q1g+1)/\v1d (Q1+1) (q1g+1) ((j6v.set q1g.toNat (Slt.mk y10.1 y10.2 y10.3 y10.4 y10.5 now y10.7)).set q1g.toNat (Slt.mk y12.1 y12.2 y12.3 y12.4 y12.5 y12.6 (1:Int)))) (InI (q1g+1)/\v1d Q1 (q1g+1) j6v)) (InI (q1g+1)/\v1d Q1 (q1g+1) j6v)) (K (Reg.mk now Ql j6v) Q1 (0:Int))) (0:Int) (0:Int) Qe) (K (Reg.mk (0:Int) [] []) (0:Int) (6:Int))) (K (Reg.mk (0:Int) [] []) (0:Int) Qb)
def q08:Rq:=q45 V6 Ga Qy Qz
abbrev Uv:Type:=List (Lnk)->ByteArray->ByteArray->(Bool->Prop)->Prop
def q2g(Jy:Vo)(Qk:Ze):Uv:=fun l a b K=>Jy l fun q8o=>Qk q8o a fun Qu q4h=>Qk q4h b fun Ql _=>K (decide (Qu=Ql))
def Rr:Uv:=q2g Rk Zz
abbrev Gy:Type:=Reg->ByteArray->ByteArray->Int->(Reg->List (Slt)->Int->Prop)->Prop
def q3q(Zd:Jj)(Qr:Je)(Qc:Qn)(Qd:Qo)(R9:Uv)(Qi:Q9):Gy:=fun r a b now K=>Zd r now fun Qb=>Cnd (Qb=0) (Qr a fun Qu=>Cnd (Qu=true) (Qr b fun Ql=>Cnd (Ql=true) (Cnd (a=b) (K (Reg.mk (0:Int) [] []) [] (15:Int)) (Qc r.2 fun Qe=>Qd r.3 fun Qf=>R9 r.2 a b fun Q1=>Cnd (Q1=true) (K (Reg.mk now Qe Qf) [] (0:Int)) (Fits r.2->Cnd ((64:Int)<=(↑r.2.length:Int)) (K (Reg.mk (0:Int) [] []) [] (19:Int)) (Sml (Qe++[Lnk.mk a b now]).length/\Qi (Qe++[Lnk.mk a b now]) a fun q0s=>Fits Qf->LpH (fun (Qm:List Slt×Int×(ByteArray->Option Bool)×List Lnk×List Lnk×List Slt×Unit) (w4q:List Slt×Int×(ByteArray->Option Bool)×List Lnk×List Lnk×List Slt×Unit->Prop)=>Cnd (Qm.2.1<(↑Qf.length:Int)) (At Qm.2.2.2.2.2.1 Qm.2.1 fun y10=>Cnd (y10.7=0) (∀y12,Qm.2.2.2.2.2.1[Qm.2.1.toNat]? =some y12->Qi Qm.2.2.2.1 y12.1 fun q75=>Cnd (q75=q0s) (Jn4 (fun w0n v1e w9u v1f=> ∀y16,w9u[Qm.2.1.toNat]? =some y16->InI (Qm.2.1+1)/\w4q (w0n,Qm.2.1+1,put Qm.2.2.1 y16.2 true,v1e,v1f,w9u,())) fun (w9v:List Slt->List Lnk->List Slt->List Lnk->Prop)=> ∀y16,Qm.2.2.2.2.2.1[Qm.2.1.toNat]? =some y16->Cnd ((Qm.2.2.1 y16.2).getD false=true) (∀y18,Qm.2.2.2.2.2.1[Qm.2.1.toNat]? =some y18-> ∀y20,(Qm.2.2.2.2.2.1.set Qm.2.1.toNat (Slt.mk y18.1 y18.2 y18.3 y18.4 y18.5 now y18.7))[Qm.2.1.toNat]? =some y20-> ∀y22,((Qm.2.2.2.2.2.1.set Qm.2.1.toNat (Slt.mk y18.1 y18.2 y18.3 y18.4 y18.5 now y18.7)).set Qm.2.1.toNat (Slt.mk y20.1 y20.2 y20.3 y20.4 y20.5 y20.6 (2:Int)))[Qm.2.1.toNat]? =some y22->Sml (Qm.1++[y22]).length/\w9v (Qm.1++[y22]) Qm.2.2.2.1 ((Qm.2.2.2.2.2.1.set Qm.2.1.toNat (Slt.mk y18.1 y18.2 y18.3 y18.4 y18.5 now y18.7)).set Qm.2.1.toNat (Slt.mk y20.1 y20.2 y20.3 y20.4 y20.5 y20.6 (2:Int))) Qm.2.2.2.2.1) (w9v Qm.1 Qm.2.2.2.1 Qm.2.2.2.2.2.1 Qm.2.2.2.2.1)) (InI (Qm.2.1+1)/\w4q (Qm.1,Qm.2.1+1,Qm.2.2.1,Qm.2.2.2.1,Qm.2.2.2.2.1,Qm.2.2.2.2.2.1,()))) (InI (Qm.2.1+1)/\w4q (Qm.1,Qm.2.1+1,Qm.2.2.1,Qm.2.2.2.1,Qm.2.2.2.2.1,Qm.2.2.2.2.2.1,()))) (K (Reg.mk now Qm.2.2.2.1 Qm.2.2.2.2.2.1) Qm.1 (0:Int))) ([],(0:Int),fun _=>none,Qe++[Lnk.mk a b now],[Lnk.mk a b now],Qf,()))))) (K (Reg.mk (0:Int) [] []) [] (6:Int))) (K (Reg.mk (0:Int) [] []) [] (6:Int))) (K (Reg.mk (0:Int) [] []) [] Qb)
def Br:Gy:=q3q V6 Ga Qy Qz Rr Jn
abbrev B4:Type:=Envt->List (Mov)->(Reg->Prop)->Prop
def q6l(q34:q81)(R8:q4c)(Za:Uk)(Jl:Wu)(Z6:J6)(Hg:G8)(q1q:Rq)(Bx:Gy):B4:=fun v l K=>Lp4 (fun Qb Gc z19 z2a w9y=>Fits l->CAt l Qb (fun y2=>InI y2.5/\(4:Int)≠(0:Int)/\InI (Gc+y2.5.tmod (4:Int))/\InI y2.2/\q34 y2.2 fun Qf=>Jn4 (fun Q1 q1g j6v v06=>Cnd (Q1=0) (InI (Qb+1)/\w9y (Qb+1) q1g j6v v06) (InI (Qb+1)/\w9y (Qb+1) Gc z19 z2a)) fun v1g=>(8:Int)≠(0:Int)/\Jn1 (fun W8=>Cnd (W8=true) ((2:Int)≠(0:Int)/\R8 Qf fun q0s=>Za fun q57=>((0:Int)<=y2.4.tmod (2:Int)/\y2.4.tmod (2:Int)<(↑q57.length:Int))/\ ∀y9,q57[(y2.4.tmod (2:Int)).toNat]? =some y9->Jl (Envt.mk (Sett.mk v.1.1 v.1.2 v.1.3) v.2 v.3 v.4 v.5 v.6) (Subj.mk q0s.1) [] y9 fun w7r _=>InI y2.3/\(3:Int)≠(0:Int)/\Z6 (Reg.mk Gc z19 z2a) Qf w7r (y2.3.tmod (3:Int)) (Gc+y2.5.tmod (4:Int)) fun q58 _ v1h=>v1g v1h q58.1 q58.2 q58.3) (Cnd (y2.1.tmod (8:Int)=(7:Int)) ((4:Int)≠(0:Int)/\Hg fun q0s=>((0:Int)<=y2.3.tmod (4:Int)/\y2.3.tmod (4:Int)<(↑q0s.length:Int))/\ ∀y8,q0s[(y2.3.tmod (4:Int)).toNat]? =some y8->q1q (Reg.mk Gc z19 z2a) y8 (Gc+y2.5.tmod (4:Int)) fun B7 _ v1i=>v1g v1i B7.1 B7.2 B7.3) (InI y2.3/\q34 y2.3 fun q0s=>Bx (Reg.mk Gc z19 z2a) Qf q0s (Gc+y2.5.tmod (4:Int)) fun q57 _ v1t=>v1g v1t q57.1 q57.2 q57.3))) fun w4p=>Cnd (y2.1.tmod (8:Int)=(0:Int)) (w4p (decide (y2.1.tmod (8:Int)=(0:Int)))) (Cnd (y2.1.tmod (8:Int)=(1:Int)) (w4p (decide (y2.1.tmod (8:Int)=(1:Int)))) (Cnd (y2.1.tmod (8:Int)=(2:Int)) (w4p (decide (y2.1.tmod (8:Int)=(2:Int)))) (w4p (decide (y2.1.tmod (8:Int)=(3:Int))))))) (K (Reg.mk Gc z19 z2a))) (0:Int) (0:Int) [] []
def q21:B4:=q6l z4v q6g q14 Gx Us q5u q08 Br
abbrev Uw:Type:=Reg->Envt->Int->(List (Rcd)->Prop)->Prop
def q2h(q34:q81)(Za:Uk)(Z7:J7):Uw:=fun r v time K=>Lp2 (fun Qb Gc w0s=>Cnd (Gc<12) ((2:Int)≠(0:Int)/\InI (Gc.tdiv (2:Int))/\(2:Int)≠(0:Int)/\q34 (Gc.tdiv (2:Int)) fun Qu=>Za fun Ql=>((0:Int)<=Gc.tmod (2:Int)/\Gc.tmod (2:Int)<(↑Ql.length:Int))/\ ∀y3,Ql[(Gc.tmod (2:Int)).toNat]? =some y3->Z7 r (Envt.mk (Sett.mk v.1.1 v.1.2 v.1.3) v.2 v.3 v.4 v.5 v.6) Qu y3 time fun Q1 q1g=>Cnd (q1g=0) (Sml (Qb++[Rcd.mk Q1.1 Q1.2 (Slt.mk Q1.3.1 Q1.3.2 Q1.3.3 Q1.3.4 Q1.3.5 Q1.3.6 Q1.3.7) Q1.4 Q1.5]).length/\InI (Gc+1)/\w0s (Qb++[Rcd.mk Q1.1 Q1.2 (Slt.mk Q1.3.1 Q1.3.2 Q1.3.3 Q1.3.4 Q1.3.5 Q1.3.6 Q1.3.7) Q1.4 Q1.5]) (Gc+1)) (InI (Gc+1)/\w0s Qb (Gc+1))) (K Qb)) [] (0:Int)
def Rs:Uw:=q2h z4v q14 Uu
abbrev Gm:Type:=AEnv->List (Mov)->Int->Int->Int->Int->(Bool->Prop)->Prop
def Gn(q1r:Rp)(Wa:Ja)(q3c:B4)(Ba:Uw)(Zy:Vp):Gm:=fun x l time which n cut K=>q1r fun Qb=>Cnd (Qb=true) (Fits l->Cnd ((40:Int)<(↑l.length:Int)) (K true) (Wa x fun Ql=>q3c (Envt.mk (Sett.mk Ql.1.1 Ql.1.2 Ql.1.3) Ql.2 Ql.3 Ql.4 Ql.5 Ql.6) l fun Qe=>InI time/\InI (Qe.1+1)/\Qe.1+1≠(0:Int)/\Ba Qe (Envt.mk (Sett.mk Ql.1.1 Ql.1.2 Ql.1.3) Ql.2 Ql.3 Ql.4 Ql.5 Ql.6) (time.tmod (Qe.1+1)) fun Qf=>Fits Qf->Cnd ((↑Qf.length:Int)=0) (K true) (InI which/\(Fits Qf->(↑Qf.length:Int)≠(0:Int)/\((0:Int)<=which.tmod (↑Qf.length:Int)/\which.tmod (↑Qf.length:Int)<(↑Qf.length:Int))/\ ∀y7,Qf[(which.tmod (↑Qf.length:Int)).toNat]? =some y7->InI (y7.4+1)/\InI n/\(9999:Int)≠(0:Int)/\InI (y7.4+1+n.tmod (9999:Int))/\(10000:Int)≠(0:Int)/\InI n/\(2:Int)≠(0:Int)/\InI (y7.3.4+n.tmod (2:Int))/\(3:Int)≠(0:Int)/\InI ((1:Int)+(y7.3.4+n.tmod (2:Int)).tmod (3:Int))/\Zy (Rcd.mk y7.1 y7.2 (Slt.mk y7.3.1 y7.3.2 y7.3.3 y7.3.4 y7.3.5 y7.3.6 y7.3.7) ((y7.4+1+n.tmod (9999:Int)).tmod (10000:Int)) y7.5) (Envt.mk (Sett.mk Ql.1.1 Ql.1.2 Ql.1.3) Ql.2 Ql.3 Ql.4 Ql.5 Ql.6) fun Qm=>Cnd (Qm=3) (Zy (Rcd.mk y7.1 y7.2 (Slt.mk y7.3.1 y7.3.2 y7.3.3 ((1:Int)+(y7.3.4+n.tmod (2:Int)).tmod (3:Int)) y7.3.5 y7.3.6 y7.3.7) y7.4 y7.5) (Envt.mk (Sett.mk Ql.1.1 Ql.1.2 Ql.1.3) Ql.2 Ql.3 Ql.4 Ql.5 Ql.6) fun B7=>Cnd (B7=23) (Fits y7.5->Cnd ((↑y7.5.length:Int)=0) (K true) (InI cut/\(Fits y7.5->(↑y7.5.length:Int)≠(0:Int)/\((0:Int)<=(0:Int)/\(0:Int)<=cut.tmod (↑y7.5.length:Int)/\cut.tmod (↑y7.5.length:Int)<=(↑y7.5.length:Int))/\InI (cut.tmod (↑y7.5.length:Int)+1)/\((0:Int)<=cut.tmod (↑y7.5.length:Int)+1/\cut.tmod (↑y7.5.length:Int)+1<=(↑y7.5.length:Int)/\(↑y7.5.length:Int)<=(↑y7.5.length:Int))/\Sml ([]++List.drop (Int.toNat (0:Int)) (List.take (cut.tmod (↑y7.5.length:Int)).toNat y7.5)).length/\Sml ([]++List.drop (Int.toNat (0:Int)) (List.take (cut.tmod (↑y7.5.length:Int)).toNat y7.5)++List.drop (cut.tmod (↑y7.5.length:Int)+1).toNat (List.take (↑y7.5.length:Int).toNat y7.5)).length/\Zy (Rcd.mk y7.1 y7.2 (Slt.mk y7.3.1 y7.3.2 y7.3.3 y7.3.4 y7.3.5 y7.3.6 y7.3.7) y7.4 ([]++List.drop (Int.toNat (0:Int)) (List.take (cut.tmod (↑y7.5.length:Int)).toNat y7.5)++List.drop (cut.tmod (↑y7.5.length:Int)+1).toNat (List.take (↑y7.5.length:Int).toNat y7.5))) (Envt.mk (Sett.mk Ql.1.1 Ql.1.2 Ql.1.3) Ql.2 Ql.3 Ql.4 Ql.5 Ql.6) fun j30=>K (decide (j30=15))))) (K false)) (K false))))) (K false)
def Zr:Gm:=Gn q07 J9 q21 Rs Rn
abbrev j1i:Type:=Subj->ByteArray->(Ctxt->Bool->Prop)->Prop
def z4w:j1i:=fun s kind K=>Lp4 (fun Qb Gc z19 (z2a:List Attr) w9y=>Fits s.1->CAt s.1 Qb (fun y2=>Cnd (y2.1=kind) (At s.1 Qb fun y4=>K y4 true) (InI (Qb+1)/\w9y (Qb+1) Gc z19 z2a)) (K (Ctxt.mk (B8 []) (B8 []) []) false)) (0:Int) (B8 []) (B8 []) []
abbrev q82:Type:=Subj->ByteArray->ByteArray->(Val->Bool->Prop)->Prop
def z4x(w0p:j1i):q82:=fun s kind name K=>w0p (Subj.mk s.1) kind fun Qb Gc=>Cnd (Gc=true) (Cnd (name=B8 [107,101,121]) (K (Val.mk (3:Int) (0:Int) Qb.2 []) true) (Lp5 (fun Qu q28 j6q w7v (w9w:List ByteArray) v03=>Fits Qb.3->CAt Qb.3 Qu (fun y3=>Cnd (y3.1=name) (At Qb.3 Qu fun y5=>K (Val.mk y5.2.1 y5.2.2 y5.2.3 y5.2.4) true) (InI (Qu+1)/\v03 (Qu+1) q28 j6q w7v w9w)) (K (Val.mk (0:Int) (0:Int) (B8 []) []) false)) (0:Int) (0:Int) (0:Int) (B8 []) [])) (K (Val.mk (0:Int) (0:Int) (B8 []) []) false)
def q83:q82:=z4x z4w
abbrev z4y:Type:=Int->(Bool->Prop)->Prop
def q84:z4y:=fun op K=>Cnd ((6:Int)<=op) (K (decide (op<=15))) (K false)
abbrev j1j:Type:=List (ByteArray)->List (ByteArray)->(Bool->Prop)->Prop
def z4z:j1j:=fun a b K=>Fits a->Fits b->Cnd ((↑a.length:Int)=(↑b.length:Int)) (Lp1 (fun Ql z6n=>Fits a->CAt a Ql (fun y4=>At b Ql fun y6=>Cnd (y4=y6) (InI (Ql+1)/\z6n (Ql+1)) (K false)) (K true)) (0:Int)) (K false)
abbrev z1p:Type:=Val->Val->(Bool->Prop)->Prop
def z7x(w0q:j1j):z1p:=fun a b K=>Cnd (a.1=b.1) (Cnd (a.2=b.2) (Cnd (a.3=b.3) (w0q a.4 b.4 fun Qb=>K Qb) (K false)) (K false)) (K false)
def q7k:z1p:=z7x z4z
abbrev q6m:Type:=ByteArray->ByteArray->Int->(Bool->Prop)->Prop
def q22:q6m:=fun s t i K=>Cnd ((0:Int)<=i) (InI (i+(↑t.size:Int))/\Cnd (i+(↑t.size:Int)<=(↑s.size:Int)) (InI (i+(↑t.size:Int))/\((0:Int)<=i/\i<=i+(↑t.size:Int)/\i+(↑t.size:Int)<=(↑s.size:Int))/\K (decide (s.extract i.toNat (i+(↑t.size:Int)).toNat=t))) (K false)) (K false)
abbrev q3r:Type:=Val->Val->(Bool->Prop)->Prop
def q8c(q1p:z3n)(q3d:q6m):q3r:=fun v w K=>Cnd (w.1=3) (Cnd (v.1=5) (q1p v.4 w.3 fun Qb=>K Qb) (Lp1 (fun Qb q2u=>Cnd (v.1=3) (InI (Qb+(↑w.3.size:Int))/\Cnd (Qb+(↑w.3.size:Int)<=(↑v.3.size:Int)) (q3d v.3 w.3 Qb fun Qu=>Cnd (Qu=true) (K true) (InI (Qb+1)/\q2u (Qb+1))) (K false)) (K false)) (0:Int))) (K false)
def q3s:q3r:=q8c q90 q22
abbrev z7y:Type:=Val->(Bool->Prop)->Prop
def z1q:z7y:=fun v K=>Cnd (v.1=1) (Cnd (v.1=3) (Cnd (v.1=5) (K true) (Fits v.4->K (decide ((↑v.4.length:Int)=0)))) (Cnd (v.1=4) (Cnd (v.1=5) (K true) (Fits v.4->K (decide ((↑v.4.length:Int)=0)))) (Cnd (v.3=B8 []) (Cnd (v.1=5) (K true) (Fits v.4->K (decide ((↑v.4.length:Int)=0)))) (K false)))) (Cnd (v.1=3) (Cnd (v.1=2) (Cnd (v.1=5) (K true) (Fits v.4->K (decide ((↑v.4.length:Int)=0)))) (Cnd (v.2=0) (Cnd (v.1=5) (K true) (Fits v.4->K (decide ((↑v.4.length:Int)=0)))) (K false))) (Cnd (v.1=2) (Cnd (v.1=4) (Cnd (v.1=5) (K true) (Fits v.4->K (decide ((↑v.4.length:Int)=0)))) (Cnd (v.3=B8 []) (Cnd (v.1=5) (K true) (Fits v.4->K (decide ((↑v.4.length:Int)=0)))) (K false))) (Cnd (v.2=0) (Cnd (v.1=4) (Cnd (v.1=5) (K true) (Fits v.4->K (decide ((↑v.4.length:Int)=0)))) (Cnd (v.3=B8 []) (Cnd (v.1=5) (K true) (Fits v.4->K (decide ((↑v.4.length:Int)=0)))) (K false))) (K false))))
abbrev q7l:Type:=ByteArray->(Bool->Prop)->Prop
def z7z(Jo:Uc):q7l:=fun s K=>Cnd ((200:Int)<(↑s.size:Int)) (K false) (Jo s fun Qb=>Cnd (Qb=true) (Lp1 (fun Qu q4h=>Cnd (Qu<(↑s.size:Int)) (((0:Int)<=Qu/\Qu<(↑s.size:Int))/\ ∀b2,s[Qu.toNat]? =some b2->Cnd ((↑b2.toNat:Int)<32) (K false) (((0:Int)<=Qu/\Qu<(↑s.size:Int))/\ ∀b4,s[Qu.toNat]? =some b4->Cnd ((↑b4.toNat:Int)=127) (K false) (InI (Qu+1)/\q4h (Qu+1)))) (K true)) (0:Int)) (K false))
def q7m:q7l:=z7z Wn
abbrev q5v:Type:=ByteArray->(Int->Int->Prop)->Prop
def G9:q5v:=fun s K=>Jn1 (fun Qb=>Lp1 (fun Qu q4h=>Cnd (Qu<(↑Qb.size:Int)) (((0:Int)<=Qu/\Qu<(↑Qb.size:Int))/\ ∀b2,Qb[Qu.toNat]? =some b2->Cnd ((↑b2.toNat:Int)<48) (K (0:Int) (1:Int)) (((0:Int)<=Qu/\Qu<(↑Qb.size:Int))/\ ∀b4,Qb[Qu.toNat]? =some b4->Cnd ((57:Int)<(↑b4.toNat:Int)) (K (0:Int) (1:Int)) (InI (Qu+1)/\q4h (Qu+1)))) (Cnd (Qb=B8 []) (K (0:Int) (1:Int)) (((0:Int)<=(0:Int)/\(0:Int)<(↑Qb.size:Int))/\ ∀b2,Qb[Int.toNat (0:Int)]? =some b2->Cnd ((↑b2.toNat:Int)=48) (Cnd (s=B8 [48]) (Cnd ((13:Int)<(↑Qb.size:Int)) (K (0:Int) (3:Int)) (Lp2 (fun Qf Gd j5q=>Cnd (Gd<(↑Qb.size:Int)) (InI ((10:Int)*Qf)/\((0:Int)<=Gd/\Gd<(↑Qb.size:Int))/\ ∀b5,Qb[Gd.toNat]? =some b5->InI (Go.IntKind.u8.wrap ((↑b5.toNat:Int) - 48))/\InI ((10:Int)*Qf+Go.IntKind.u8.wrap ((↑b5.toNat:Int) - 48))/\InI (Gd+1)/\j5q ((10:Int)*Qf+Go.IntKind.u8.wrap ((↑b5.toNat:Int) - 48)) (Gd+1)) (Cnd ((1099511627776:Int)<Qf) (K (0:Int) (3:Int)) (Cnd ((↑Qb.size:Int)<(↑s.size:Int)) (InI ((0:Int) - Qf)/\K ((0:Int) - Qf) (0:Int)) (K Qf (0:Int))))) (0:Int) (0:Int))) (K (0:Int) (1:Int))) (Cnd ((13:Int)<(↑Qb.size:Int)) (K (0:Int) (3:Int)) (Lp2 (fun Qf Gd j5q=>Cnd (Gd<(↑Qb.size:Int)) (InI ((10:Int)*Qf)/\((0:Int)<=Gd/\Gd<(↑Qb.size:Int))/\ ∀b5,Qb[Gd.toNat]? =some b5->InI (Go.IntKind.u8.wrap ((↑b5.toNat:Int) - 48))/\InI ((10:Int)*Qf+Go.IntKind.u8.wrap ((↑b5.toNat:Int) - 48))/\InI (Gd+1)/\j5q ((10:Int)*Qf+Go.IntKind.u8.wrap ((↑b5.toNat:Int) - 48)) (Gd+1)) (Cnd ((1099511627776:Int)<Qf) (K (0:Int) (3:Int)) (Cnd ((↑Qb.size:Int)<(↑s.size:Int)) (InI ((0:Int) - Qf)/\K ((0:Int) - Qf) (0:Int)) (K Qf (0:Int))))) (0:Int) (0:Int)))))) (0:Int)) fun q8o=>Cnd ((0:Int)<(↑s.size:Int)) (((0:Int)<=(0:Int)/\(0:Int)<(↑s.size:Int))/\ ∀b1,s[Int.toNat (0:Int)]? =some b1->Cnd ((↑b1.toNat:Int)=45) (((0:Int)<=(1:Int)/\(1:Int)<=(↑s.size:Int)/\(↑s.size:Int)<=(↑s.size:Int))/\q8o (s.extract (Int.toNat (1:Int)) (↑s.size:Int).toNat)) (q8o s)) (q8o s)
abbrev q7n:Type:=ByteArray->(A3->Bool->Prop)->Prop
def z70(q53:q5v):q7n:=fun s K=>LpH (fun (Qb:Int×Int×Int×Int×Int×Int×Int×Int×Unit) q2u=>Cnd (Qb.2.1<3) (Lp1 (fun Qu q4h=>Cnd (Qu<(↑s.size:Int)) (((0:Int)<=Qu/\Qu<(↑s.size:Int))/\ ∀b2,s[Qu.toNat]? =some b2->Cnd ((↑b2.toNat:Int)=46) (((0:Int)<=Qb.1/\Qb.1<=Qu/\Qu<=(↑s.size:Int))/\q53 (s.extract Qb.1.toNat Qu.toNat) fun Qf Gd=>Cnd (Gd=0) (Cnd (Qf<0) (K ((0:Int),(0:Int),(0:Int)) false) (Cnd ((999999:Int)<Qf) (K ((0:Int),(0:Int),(0:Int)) false) (Cnd (decide (Qb.2.1<2)=decide (Qu<(↑s.size:Int))) (((0:Int)<=Qb.2.1/\Qb.2.1<(↑(3:Nat):Int))/\((True/\(Qb.2.1=(↑(nat_lit 0):Int)->InI (Qu+1)/\InI (Qb.2.1+1)/\q2u (Qu+1,Qb.2.1+1,Qf,Qb.2.2.2.1,Qb.2.2.2.2.1,Qb.2.2.2.2.2.1,Qb.2.2.2.2.2.2.1,Qb.2.2.2.2.2.2.2.1,())))/\(Qb.2.1=(↑(nat_lit 1):Int)->InI (Qu+1)/\InI (Qb.2.1+1)/\q2u (Qu+1,Qb.2.1+1,Qb.2.2.1,Qf,Qb.2.2.2.2.1,Qb.2.2.2.2.2.1,Qb.2.2.2.2.2.2.1,Qb.2.2.2.2.2.2.2.1,())))/\(Qb.2.1=(↑(nat_lit 2):Int)->InI (Qu+1)/\InI (Qb.2.1+1)/\q2u (Qu+1,Qb.2.1+1,Qb.2.2.1,Qb.2.2.2.1,Qf,Qb.2.2.2.2.2.1,Qb.2.2.2.2.2.2.1,Qb.2.2.2.2.2.2.2.1,()))) (K ((0:Int),(0:Int),(0:Int)) false)))) (K ((0:Int),(0:Int),(0:Int)) false)) (InI (Qu+1)/\q4h (Qu+1))) (((0:Int)<=Qb.1/\Qb.1<=Qu/\Qu<=(↑s.size:Int))/\q53 (s.extract Qb.1.toNat Qu.toNat) fun Ql Hb=>Cnd (Hb=0) (Cnd (Ql<0) (K ((0:Int),(0:Int),(0:Int)) false) (Cnd ((999999:Int)<Ql) (K ((0:Int),(0:Int),(0:Int)) false) (Cnd (decide (Qb.2.1<2)=decide (Qu<(↑s.size:Int))) (((0:Int)<=Qb.2.1/\Qb.2.1<(↑(3:Nat):Int))/\((True/\(Qb.2.1=(↑(nat_lit 0):Int)->InI (Qu+1)/\InI (Qb.2.1+1)/\q2u (Qu+1,Qb.2.1+1,Ql,Qb.2.2.2.1,Qb.2.2.2.2.1,Qb.2.2.2.2.2.1,Qb.2.2.2.2.2.2.1,Qb.2.2.2.2.2.2.2.1,())))/\(Qb.2.1=(↑(nat_lit 1):Int)->InI (Qu+1)/\InI (Qb.2.1+1)/\q2u (Qu+1,Qb.2.1+1,Qb.2.2.1,Ql,Qb.2.2.2.2.1,Qb.2.2.2.2.2.1,Qb.2.2.2.2.2.2.1,Qb.2.2.2.2.2.2.2.1,())))/\(Qb.2.1=(↑(nat_lit 2):Int)->InI (Qu+1)/\InI (Qb.2.1+1)/\q2u (Qu+1,Qb.2.1+1,Qb.2.2.1,Qb.2.2.2.1,Ql,Qb.2.2.2.2.2.1,Qb.2.2.2.2.2.2.1,Qb.2.2.2.2.2.2.2.1,()))) (K ((0:Int),(0:Int),(0:Int)) false)))) (K ((0:Int),(0:Int),(0:Int)) false))) Qb.1) (K (Qb.2.2.1,Qb.2.2.2.1,Qb.2.2.2.2.1) true)) ((0:Int),(0:Int),(0:Int),(0:Int),(0:Int),(0:Int),(0:Int),(0:Int),())
def q7o:q7n:=z70 G9
abbrev z41:Type:=List (ByteArray)->(Int->Prop)->Prop
def j1k(z2b:q7l):z41:=fun l K=>Fits l->Cnd ((20:Int)<(↑l.length:Int)) (K (5:Int)) (Lp1 (fun Qu q4h=>Fits l->CAt l Qu (fun y3=>z2b y3 fun Q1=>Cnd (Q1=true) (InI (Qu+1)/\q4h (Qu+1)) (K (2:Int))) (Lp1 (fun Qe q74=>Fits l->CAt l Qe (fun y5=>InI (Qe - 1)/\((0:Int)<=Qe - 1/\Qe - 1<(↑l.length:Int))/\ ∀y7,l[(Qe - 1).toNat]? =some y7->Cnd (Lk.blt y7 y5) (InI (Qe+1)/\q74 (Qe+1)) (K (9:Int))) (K (0:Int))) (1:Int))) (0:Int))
def z42:z41:=j1k q7m
abbrev z1r:Type:=Val->(Int->Prop)->Prop
def z71(j6t:z7y)(z2b:q7l)(q7v:q7n)(w0r:z41):z1r:=fun v K=>Cnd (v.1<1) (K (7:Int)) (Cnd ((5:Int)<v.1) (K (7:Int)) (j6t v fun Qb=>Cnd (Qb=true) (Cnd (v.1=1) (Cnd (v.2=0) (K (0:Int)) (Cnd (v.2=1) (K (0:Int)) (K (3:Int)))) (Cnd (v.1=2) (Cnd (v.2<(-1099511627776:Int)) (K (3:Int)) (Cnd ((1099511627776:Int)<v.2) (K (3:Int)) (K (0:Int)))) (Cnd (v.1=3) (z2b v.3 fun Qu=>Cnd (Qu=true) (K (0:Int)) (K (2:Int))) (Cnd (v.1=4) (q7v v.3 fun (_:Int×Int×Int) q28=>Cnd (q28=true) (K (0:Int)) (K (1:Int))) (Cnd (v.1=5) (w0r v.4 fun Qu=>K Qu) (K (0:Int))))))) (K (15:Int))))
def z1s:z1r:=z71 z1q q7m q7o z42
abbrev j1l:Type:=Bool->Bool->(Int->Prop)->Prop
def q6n:j1l:=fun less greater K=>Cnd (less=true) (K (-1:Int)) (Cnd (greater=true) (K (1:Int)) (K (0:Int)))
abbrev q6o:Type:=Val->Val->(Int->Int->Prop)->Prop
def z2f(z8d:z1r)(Qa:j1l)(q7v:q7n):q6o:=fun a b K=>z8d a fun Qb=>Cnd (Qb=0) (z8d b fun Qu=>Cnd (Qu=0) (Cnd (a.1=b.1) (Cnd (a.1=1) (K (0:Int) (8:Int)) (Cnd (a.1=5) (K (0:Int) (8:Int)) (Cnd (a.1=2) (Qa (decide (a.2<b.2)) (decide (b.2<a.2)) fun Ql=>K Ql (0:Int)) (Cnd (a.1=3) (Qa (decide (Lk.blt a.3 b.3)) (decide (Lk.blt b.3 a.3)) fun Ql=>K Ql (0:Int)) (q7v a.3 fun (Ql:Int×Int×Int) _=>q7v b.3 fun (Qe:Int×Int×Int) _=>Lp1 (fun Qf j6r=>Cnd (Qf<3) (((0:Int)<=Qf/\Qf<(↑(3:Nat):Int))/\((True/\(Qf=(↑(nat_lit 0):Int)->((0:Int)<=Qf/\Qf<(↑(3:Nat):Int))/\((True/\(Qf=(↑(nat_lit 0):Int)->Cnd (Ql.1=Qe.1) (InI (Qf+1)/\j6r (Qf+1)) (((0:Int)<=Qf/\Qf<(↑(3:Nat):Int))/\((True/\(Qf=(↑(nat_lit 0):Int)->((0:Int)<=Qf/\Qf<(↑(3:Nat):Int))/\((True/\(Qf=(↑(nat_lit 0):Int)->Qa (decide (Ql.1<Qe.1)) true fun Qm=>K Qm (0:Int)))/\(Qf=(↑(nat_lit 1):Int)->Qa (decide (Ql.1<Qe.2.1)) true fun Qm=>K Qm (0:Int)))/\(Qf=(↑(nat_lit 2):Int)->Qa (decide (Ql.1<Qe.2.2)) true fun Qm=>K Qm (0:Int))))/\(Qf=(↑(nat_lit 1):Int)->((0:Int)<=Qf/\Qf<(↑(3:Nat):Int))/\((True/\(Qf=(↑(nat_lit 0):Int)->Qa (decide (Ql.2.1<Qe.1)) true fun Qm=>K Qm (0:Int)))/\(Qf=(↑(nat_lit 1):Int)->Qa (decide (Ql.2.1<Qe.2.1)) true fun Qm=>K Qm (0:Int)))/\(Qf=(↑(nat_lit 2):Int)->Qa (decide (Ql.2.1<Qe.2.2)) true fun Qm=>K Qm (0:Int))))/\(Qf=(↑(nat_lit 2):Int)->((0:Int)<=Qf/\Qf<(↑(3:Nat):Int))/\((True/\(Qf=(↑(nat_lit 0):Int)->Qa (decide (Ql.2.2<Qe.1)) true fun Qm=>K Qm (0:Int)))/\(Qf=(↑(nat_lit 1):Int)->Qa (decide (Ql.2.2<Qe.2.1)) true fun Qm=>K Qm (0:Int)))/\(Qf=(↑(nat_lit 2):Int)->Qa (decide (Ql.2.2<Qe.2.2)) true fun Qm=>K Qm (0:Int))))))/\(Qf=(↑(nat_lit 1):Int)->Cnd (Ql.1=Qe.2.1) (InI (Qf+1)/\j6r (Qf+1)) (((0:Int)<=Qf/\Qf<(↑(3:Nat):Int))/\((True/\(Qf=(↑(nat_lit 0):Int)->((0:Int)<=Qf/\Qf<(↑(3:Nat):Int))/\((True/\(Qf=(↑(nat_lit 0):Int)->Qa (decide (Ql.1<Qe.1)) true fun Qm=>K Qm (0:Int)))/\(Qf=(↑(nat_lit 1):Int)->Qa (decide (Ql.1<Qe.2.1)) true fun Qm=>K Qm (0:Int)))/\(Qf=(↑(nat_lit 2):Int)->Qa (decide (Ql.1<Qe.2.2)) true fun Qm=>K Qm (0:Int))))/\(Qf=(↑(nat_lit 1):Int)->((0:Int)<=Qf/\Qf<(↑(3:Nat):Int))/\((True/\(Qf=(↑(nat_lit 0):Int)->Qa (decide (Ql.2.1<Qe.1)) true fun Qm=>K Qm (0:Int)))/\(Qf=(↑(nat_lit 1):Int)->Qa (decide (Ql.2.1<Qe.2.1)) true fun Qm=>K Qm (0:Int)))/\(Qf=(↑(nat_lit 2):Int)->Qa (decide (Ql.2.1<Qe.2.2)) true fun Qm=>K Qm (0:Int))))/\(Qf=(↑(nat_lit 2):Int)->((0:Int)<=Qf/\Qf<(↑(3:Nat):Int))/\((True/\(Qf=(↑(nat_lit 0):Int)->Qa (decide (Ql.2.2<Qe.1)) true fun Qm=>K Qm (0:Int)))/\(Qf=(↑(nat_lit 1):Int)->Qa (decide (Ql.2.2<Qe.2.1)) true fun Qm=>K Qm (0:Int)))/\(Qf=(↑(nat_lit 2):Int)->Qa (decide (Ql.2.2<Qe.2.2)) true fun Qm=>K Qm (0:Int))))))/\(Qf=(↑(nat_lit 2):Int)->Cnd (Ql.1=Qe.2.2) (InI (Qf+1)/\j6r (Qf+1)) (((0:Int)<=Qf/\Qf<(↑(3:Nat):Int))/\((True/\(Qf=(↑(nat_lit 0):Int)->((0:Int)<=Qf/\Qf<(↑(3:Nat):Int))/\((True/\(Qf=(↑(nat_lit 0):Int)->Qa (decide (Ql.1<Qe.1)) true fun Qm=>K Qm (0:Int)))/\(Qf=(↑(nat_lit 1):Int)->Qa (decide (Ql.1<Qe.2.1)) true fun Qm=>K Qm (0:Int)))/\(Qf=(↑(nat_lit 2):Int)->Qa (decide (Ql.1<Qe.2.2)) true fun Qm=>K Qm (0:Int))))/\(Qf=(↑(nat_lit 1):Int)->((0:Int)<=Qf/\Qf<(↑(3:Nat):Int))/\((True/\(Qf=(↑(nat_lit 0):Int)->Qa (decide (Ql.2.1<Qe.1)) true fun Qm=>K Qm (0:Int)))/\(Qf=(↑(nat_lit 1):Int)->Qa (decide (Ql.2.1<Qe.2.1)) true fun Qm=>K Qm (0:Int)))/\(Qf=(↑(nat_lit 2):Int)->Qa (decide (Ql.2.1<Qe.2.2)) true fun Qm=>K Qm (0:Int))))/\(Qf=(↑(nat_lit 2):Int)->((0:Int)<=Qf/\Qf<(↑(3:Nat):Int))/\((True/\(Qf=(↑(nat_lit 0):Int)->Qa (decide (Ql.2.2<Qe.1)) true fun Qm=>K Qm (0:Int)))/\(Qf=(↑(nat_lit 1):Int)->Qa (decide (Ql.2.2<Qe.2.1)) true fun Qm=>K Qm (0:Int)))/\(Qf=(↑(nat_lit 2):Int)->Qa (decide (Ql.2.2<Qe.2.2)) true fun Qm=>K Qm (0:Int)))))))/\(Qf=(↑(nat_lit 1):Int)->((0:Int)<=Qf/\Qf<(↑(3:Nat):Int))/\((True/\(Qf=(↑(nat_lit 0):Int)->Cnd (Ql.2.1=Qe.1) (InI (Qf+1)/\j6r (Qf+1)) (((0:Int)<=Qf/\Qf<(↑(3:Nat):Int))/\((True/\(Qf=(↑(nat_lit 0):Int)->((0:Int)<=Qf/\Qf<(↑(3:Nat):Int))/\((True/\(Qf=(↑(nat_lit 0):Int)->Qa (decide (Ql.1<Qe.1)) true fun Qm=>K Qm (0:Int)))/\(Qf=(↑(nat_lit 1):Int)->Qa (decide (Ql.1<Qe.2.1)) true fun Qm=>K Qm (0:Int)))/\(Qf=(↑(nat_lit 2):Int)->Qa (decide (Ql.1<Qe.2.2)) true fun Qm=>K Qm (0:Int))))/\(Qf=(↑(nat_lit 1):Int)->((0:Int)<=Qf/\Qf<(↑(3:Nat):Int))/\((True/\(Qf=(↑(nat_lit 0):Int)->Qa (decide (Ql.2.1<Qe.1)) true fun Qm=>K Qm (0:Int)))/\(Qf=(↑(nat_lit 1):Int)->Qa (decide (Ql.2.1<Qe.2.1)) true fun Qm=>K Qm (0:Int)))/\(Qf=(↑(nat_lit 2):Int)->Qa (decide (Ql.2.1<Qe.2.2)) true fun Qm=>K Qm (0:Int))))/\(Qf=(↑(nat_lit 2):Int)->((0:Int)<=Qf/\Qf<(↑(3:Nat):Int))/\((True/\(Qf=(↑(nat_lit 0):Int)->Qa (decide (Ql.2.2<Qe.1)) true fun Qm=>K Qm (0:Int)))/\(Qf=(↑(nat_lit 1):Int)->Qa (decide (Ql.2.2<Qe.2.1)) true fun Qm=>K Qm (0:Int)))/\(Qf=(↑(nat_lit 2):Int)->Qa (decide (Ql.2.2<Qe.2.2)) true fun Qm=>K Qm (0:Int))))))/\(Qf=(↑(nat_lit 1):Int)->Cnd (Ql.2.1=Qe.2.1) (InI (Qf+1)/\j6r (Qf+1)) (((0:Int)<=Qf/\Qf<(↑(3:Nat):Int))/\((True/\(Qf=(↑(nat_lit 0):Int)->((0:Int)<=Qf/\Qf<(↑(3:Nat):Int))/\((True/\(Qf=(↑(nat_lit 0):Int)->Qa (decide (Ql.1<Qe.1)) true fun Qm=>K Qm (0:Int)))/\(Qf=(↑(nat_lit 1):Int)->Qa (decide (Ql.1<Qe.2.1)) true fun Qm=>K Qm (0:Int)))/\(Qf=(↑(nat_lit 2):Int)->Qa (decide (Ql.1<Qe.2.2)) true fun Qm=>K Qm (0:Int))))/\(Qf=(↑(nat_lit 1):Int)->((0:Int)<=Qf/\Qf<(↑(3:Nat):Int))/\((True/\(Qf=(↑(nat_lit 0):Int)->Qa (decide (Ql.2.1<Qe.1)) true fun Qm=>K Qm (0:Int)))/\(Qf=(↑(nat_lit 1):Int)->Qa (decide (Ql.2.1<Qe.2.1)) true fun Qm=>K Qm (0:Int)))/\(Qf=(↑(nat_lit 2):Int)->Qa (decide (Ql.2.1<Qe.2.2)) true fun Qm=>K Qm (0:Int))))/\(Qf=(↑(nat_lit 2):Int)->((0:Int)<=Qf/\Qf<(↑(3:Nat):Int))/\((True/\(Qf=(↑(nat_lit 0):Int)->Qa (decide (Ql.2.2<Qe.1)) true fun Qm=>K Qm (0:Int)))/\(Qf=(↑(nat_lit 1):Int)->Qa (decide (Ql.2.2<Qe.2.1)) true fun Qm=>K Qm (0:Int)))/\(Qf=(↑(nat_lit 2):Int)->Qa (decide (Ql.2.2<Qe.2.2)) true fun Qm=>K Qm (0:Int))))))/\(Qf=(↑(nat_lit 2):Int)->Cnd (Ql.2.1=Qe.2.2) (InI (Qf+1)/\j6r (Qf+1)) (((0:Int)<=Qf/\Qf<(↑(3:Nat):Int))/\((True/\(Qf=(↑(nat_lit 0):Int)->((0:Int)<=Qf/\Qf<(↑(3:Nat):Int))/\((True/\(Qf=(↑(nat_lit 0):Int)->Qa (decide (Ql.1<Qe.1)) true fun Qm=>K Qm (0:Int)))/\(Qf=(↑(nat_lit 1):Int)->Qa (decide (Ql.1<Qe.2.1)) true fun Qm=>K Qm (0:Int)))/\(Qf=(↑(nat_lit 2):Int)->Qa (decide (Ql.1<Qe.2.2)) true fun Qm=>K Qm (0:Int))))/\(Qf=(↑(nat_lit 1):Int)->((0:Int)<=Qf/\Qf<(↑(3:Nat):Int))/\((True/\(Qf=(↑(nat_lit 0):Int)->Qa (decide (Ql.2.1<Qe.1)) true fun Qm=>K Qm (0:Int)))/\(Qf=(↑(nat_lit 1):Int)->Qa (decide (Ql.2.1<Qe.2.1)) true fun Qm=>K Qm (0:Int)))/\(Qf=(↑(nat_lit 2):Int)->Qa (decide (Ql.2.1<Qe.2.2)) true fun Qm=>K Qm (0:Int))))/\(Qf=(↑(nat_lit 2):Int)->((0:Int)<=Qf/\Qf<(↑(3:Nat):Int))/\((True/\(Qf=(↑(nat_lit 0):Int)->Qa (decide (Ql.2.2<Qe.1)) true fun Qm=>K Qm (0:Int)))/\(Qf=(↑(nat_lit 1):Int)->Qa (decide (Ql.2.2<Qe.2.1)) true fun Qm=>K Qm (0:Int)))/\(Qf=(↑(nat_lit 2):Int)->Qa (decide (Ql.2.2<Qe.2.2)) true fun Qm=>K Qm (0:Int)))))))/\(Qf=(↑(nat_lit 2):Int)->((0:Int)<=Qf/\Qf<(↑(3:Nat):Int))/\((True/\(Qf=(↑(nat_lit 0):Int)->Cnd (Ql.2.2=Qe.1) (InI (Qf+1)/\j6r (Qf+1)) (((0:Int)<=Qf/\Qf<(↑(3:Nat):Int))/\((True/\(Qf=(↑(nat_lit 0):Int)->((0:Int)<=Qf/\Qf<(↑(3:Nat):Int))/\((True/\(Qf=(↑(nat_lit 0):Int)->Qa (decide (Ql.1<Qe.1)) true fun Qm=>K Qm (0:Int)))/\(Qf=(↑(nat_lit 1):Int)->Qa (decide (Ql.1<Qe.2.1)) true fun Qm=>K Qm (0:Int)))/\(Qf=(↑(nat_lit 2):Int)->Qa (decide (Ql.1<Qe.2.2)) true fun Qm=>K Qm (0:Int))))/\(Qf=(↑(nat_lit 1):Int)->((0:Int)<=Qf/\Qf<(↑(3:Nat):Int))/\((True/\(Qf=(↑(nat_lit 0):Int)->Qa (decide (Ql.2.1<Qe.1)) true fun Qm=>K Qm (0:Int)))/\(Qf=(↑(nat_lit 1):Int)->Qa (decide (Ql.2.1<Qe.2.1)) true fun Qm=>K Qm (0:Int)))/\(Qf=(↑(nat_lit 2):Int)->Qa (decide (Ql.2.1<Qe.2.2)) true fun Qm=>K Qm (0:Int))))/\(Qf=(↑(nat_lit 2):Int)->((0:Int)<=Qf/\Qf<(↑(3:Nat):Int))/\((True/\(Qf=(↑(nat_lit 0):Int)->Qa (decide (Ql.2.2<Qe.1)) true fun Qm=>K Qm (0:Int)))/\(Qf=(↑(nat_lit 1):Int)->Qa (decide (Ql.2.2<Qe.2.1)) true fun Qm=>K Qm (0:Int)))/\(Qf=(↑(nat_lit 2):Int)->Qa (decide (Ql.2.2<Qe.2.2)) true fun Qm=>K Qm (0:Int))))))/\(Qf=(↑(nat_lit 1):Int)->Cnd (Ql.2.2=Qe.2.1) (InI (Qf+1)/\j6r (Qf+1)) (((0:Int)<=Qf/\Qf<(↑(3:Nat):Int))/\((True/\(Qf=(↑(nat_lit 0):Int)->((0:Int)<=Qf/\Qf<(↑(3:Nat):Int))/\((True/\(Qf=(↑(nat_lit 0):Int)->Qa (decide (Ql.1<Qe.1)) true fun Qm=>K Qm (0:Int)))/\(Qf=(↑(nat_lit 1):Int)->Qa (decide (Ql.1<Qe.2.1)) true fun Qm=>K Qm (0:Int)))/\(Qf=(↑(nat_lit 2):Int)->Qa (decide (Ql.1<Qe.2.2)) true fun Qm=>K Qm (0:Int))))/\(Qf=(↑(nat_lit 1):Int)->((0:Int)<=Qf/\Qf<(↑(3:Nat):Int))/\((True/\(Qf=(↑(nat_lit 0):Int)->Qa (decide (Ql.2.1<Qe.1)) true fun Qm=>K Qm (0:Int)))/\(Qf=(↑(nat_lit 1):Int)->Qa (decide (Ql.2.1<Qe.2.1)) true fun Qm=>K Qm (0:Int)))/\(Qf=(↑(nat_lit 2):Int)->Qa (decide (Ql.2.1<Qe.2.2)) true fun Qm=>K Qm (0:Int))))/\(Qf=(↑(nat_lit 2):Int)->((0:Int)<=Qf/\Qf<(↑(3:Nat):Int))/\((True/\(Qf=(↑(nat_lit 0):Int)->Qa (decide (Ql.2.2<Qe.1)) true fun Qm=>K Qm (0:Int)))/\(Qf=(↑(nat_lit 1):Int)->Qa (decide (Ql.2.2<Qe.2.1)) true fun Qm=>K Qm (0:Int)))/\(Qf=(↑(nat_lit 2):Int)->Qa (decide (Ql.2.2<Qe.2.2)) true fun Qm=>K Qm (0:Int))))))/\(Qf=(↑(nat_lit 2):Int)->Cnd (Ql.2.2=Qe.2.2) (InI (Qf+1)/\j6r (Qf+1)) (((0:Int)<=Qf/\Qf<(↑(3:Nat):Int))/\((True/\(Qf=(↑(nat_lit 0):Int)->((0:Int)<=Qf/\Qf<(↑(3:Nat):Int))/\((True/\(Qf=(↑(nat_lit 0):Int)->Qa (decide (Ql.1<Qe.1)) true fun Qm=>K Qm (0:Int)))/\(Qf=(↑(nat_lit 1):Int)->Qa (decide (Ql.1<Qe.2.1)) true fun Qm=>K Qm (0:Int)))/\(Qf=(↑(nat_lit 2):Int)->Qa (decide (Ql.1<Qe.2.2)) true fun Qm=>K Qm (0:Int))))/\(Qf=(↑(nat_lit 1):Int)->((0:Int)<=Qf/\Qf<(↑(3:Nat):Int))/\((True/\(Qf=(↑(nat_lit 0):Int)->Qa (decide (Ql.2.1<Qe.1)) true fun Qm=>K Qm (0:Int)))/\(Qf=(↑(nat_lit 1):Int)->Qa (decide (Ql.2.1<Qe.2.1)) true fun Qm=>K Qm (0:Int)))/\(Qf=(↑(nat_lit 2):Int)->Qa (decide (Ql.2.1<Qe.2.2)) true fun Qm=>K Qm (0:Int))))/\(Qf=(↑(nat_lit 2):Int)->((0:Int)<=Qf/\Qf<(↑(3:Nat):Int))/\((True/\(Qf=(↑(nat_lit 0):Int)->Qa (decide (Ql.2.2<Qe.1)) true fun Qm=>K Qm (0:Int)))/\(Qf=(↑(nat_lit 1):Int)->Qa (decide (Ql.2.2<Qe.2.1)) true fun Qm=>K Qm (0:Int)))/\(Qf=(↑(nat_lit 2):Int)->Qa (decide (Ql.2.2<Qe.2.2)) true fun Qm=>K Qm (0:Int))))))) (K (0:Int) (0:Int))) (0:Int)))))) (K (0:Int) (8:Int))) (K (0:Int) Qu)) (K (0:Int) Qb)
def q23:q6o:=z2f z1s q6n q7o
abbrev z1t:Type:=Subj->Ex->(Bool->Prop)->Prop
def z72(j31:q82)(j32:z4y)(z2c:z1p)(q3d:q6m)(q8q:q3r)(z2l:q6o):z1t:=fun s e K=>j31 (Subj.mk s.1) e.2 e.3 fun Qb Gc=>Cnd (Gc=true) (j32 e.1 fun Qu=>Cnd (Qu=true) (Cnd (e.1=6) (K true) (Cnd (e.1=8) (Lp1 (fun Ql z6n=>Fits e.4->CAt e.4 Ql (fun y4=>z2c Qb y4 fun W8=>Cnd (W8=true) (K true) (InI (Ql+1)/\z6n (Ql+1))) (K false)) (0:Int)) (Fits e.4->Cnd ((↑e.4.length:Int)=0) (K false) (((0:Int)<=(0:Int)/\(0:Int)<(↑e.4.length:Int))/\ ∀y3,e.4[Int.toNat (0:Int)]? =some y3->Cnd (Qb.1=3) (Cnd (e.1=7) (z2c Qb y3 fun Q1=>K Q1) (Cnd (e.1=9) (Cnd (y3.1=3) (q3d Qb.3 y3.3 (0:Int) fun Q1=>K Q1) (K false)) (Cnd (e.1=10) (Cnd (y3.1=3) (InI ((↑Qb.3.size:Int) - (↑y3.3.size:Int))/\q3d Qb.3 y3.3 ((↑Qb.3.size:Int) - (↑y3.3.size:Int)) fun Q1=>K Q1) (K false)) (Cnd (e.1=11) (q8q Qb y3 fun Q1=>K Q1) (z2l Qb y3 fun Q1 q1g=>Cnd (q1g=0) (Cnd (e.1=12) (K (decide (Q1<0))) (Cnd (e.1=13) (K (decide (Q1<=0))) (Cnd (e.1=14) (K (decide ((0:Int)<Q1))) (K (decide ((0:Int)<=Q1)))))) (K false)))))) (Cnd (e.1=7) (z2c Qb y3 fun Q1=>K Q1) (Cnd (e.1=9) (K false) (Cnd (e.1=10) (K false) (Cnd (e.1=11) (q8q Qb y3 fun Q1=>K Q1) (z2l Qb y3 fun Q1 q1g=>Cnd (q1g=0) (Cnd (e.1=12) (K (decide (Q1<0))) (Cnd (e.1=13) (K (decide (Q1<=0))) (Cnd (e.1=14) (K (decide ((0:Int)<Q1))) (K (decide ((0:Int)<=Q1)))))) (K false)))))))))) (K false)) (K false)
def z1u:z1t:=z72 q83 q84 q7k q22 q3s q23
abbrev q7p:Type:=Subj->List (ByteArray)->Ex->(Bool->Prop)->Prop
def z73(q1p:z3n)(j6u:z1t)(X:q7p):q7p:=fun s in_ e K=>Cnd (e.1=1) (K true) (Cnd (e.1=2) (Lp1 (fun Qb q2u=>Fits e.5->CAt e.5 Qb (fun y2=>X (Subj.mk s.1) in_ (Ex.mk y2.1 y2.2 y2.3 y2.4 y2.5) fun Qf=>Cnd (Qf=true) (InI (Qb+1)/\q2u (Qb+1)) (K false)) (K true)) (0:Int)) (Cnd (e.1=3) (Lp1 (fun Qb q2u=>Fits e.5->CAt e.5 Qb (fun y2=>X (Subj.mk s.1) in_ (Ex.mk y2.1 y2.2 y2.3 y2.4 y2.5) fun Qf=>Cnd (Qf=true) (K true) (InI (Qb+1)/\q2u (Qb+1))) (K false)) (0:Int)) (Cnd (e.1=4) (Fits e.5->Cnd ((0:Int)<(↑e.5.length:Int)) (((0:Int)<=(0:Int)/\(0:Int)<(↑e.5.length:Int))/\ ∀y1,e.5[Int.toNat (0:Int)]? =some y1->X (Subj.mk s.1) in_ (Ex.mk y1.1 y1.2 y1.3 y1.4 y1.5) fun Qe=>K (match decide ((Qe,()).1=true) with|true=>false|false=>true)) (K false)) (Cnd (e.1=5) (q1p in_ e.3 fun Qb=>K Qb) (j6u (Subj.mk s.1) (Ex.mk e.1 e.2 e.3 e.4 e.5) fun Qb=>K Qb)))))
def j6f:q7p:=fun s in_ e K=> ∀X:q7p,(∀s in_ e K,z73 q90 z1u X s in_ e K->X s in_ e K)->X s in_ e K
end Go.En
end
noncomputable section
set_option maxRecDepth 100000
namespace Go.Proofs
open Go.Shelf
def Tryz.laysC172_ren:Go.Shelf.Ren:=⟨fun|172=>265|244=>277|245=>278|247=>286|279=>287|280=>288|281=>289|282=>290|287=>293|316=>294|171=>282|205=>295|321=>297|322=>298|243=>291|246=>296|283=>299|284=>300|285=>301|286=>302|129=>167|317=>303|318=>304|319=>305|320=>306|337=>307|338=>308|n=>n,fun|9=>9|3=>3|75=>358|76=>359|4=>4|5=>5|167=>377|37=>144|0=>0|85=>378|2=>2|168=>380|53=>169|175=>383|46=>223|210=>386|127=>390|145=>393|143=>391|21=>21|171=>394|173=>396|212=>399|51=>262|20=>20|213=>400|232=>401|233=>402|80=>403|n=>n,fun|15=>5|16=>6|17=>7|18=>8|19=>9|n=>n⟩
theorem Tryz.laysC172:Go.Proofs.LaysC.n172 Tryz.prog Tryz.laysC172_ren:={
 mixed:=by kernel_rfl
 f129:=Tryz.func167.trans (congrArg some (by kernel_rfl))
 f171:=Tryz.func282.trans (congrArg some (by kernel_rfl))
 f172:=Tryz.func265.trans (congrArg some (by kernel_rfl))
 f205:=Tryz.func295.trans (congrArg some (by kernel_rfl))
 f243:=Tryz.func291.trans (congrArg some (by kernel_rfl))
 f244:=Tryz.func277.trans (congrArg some (by kernel_rfl))
 f245:=Tryz.func278.trans (congrArg some (by kernel_rfl))
 f246:=Tryz.func296.trans (congrArg some (by kernel_rfl))
 f247:=Tryz.func286.trans (congrArg some (by kernel_rfl))
 f279:=Tryz.func287.trans (congrArg some (by kernel_rfl))
 f280:=Tryz.func288.trans (congrArg some (by kernel_rfl))
 f281:=Tryz.func289.trans (congrArg some (by kernel_rfl))
 f282:=Tryz.func290.trans (congrArg some (by kernel_rfl))
 f283:=Tryz.func299.trans (congrArg some (by kernel_rfl))
 f284:=Tryz.func300.trans (congrArg some (by kernel_rfl))
 f285:=Tryz.func301.trans (congrArg some (by kernel_rfl))
 f286:=Tryz.func302.trans (congrArg some (by kernel_rfl))
 f287:=Tryz.func293.trans (congrArg some (by kernel_rfl))
 f316:=Tryz.func294.trans (congrArg some (by kernel_rfl))
 f317:=Tryz.func303.trans (congrArg some (by kernel_rfl))
 f318:=Tryz.func304.trans (congrArg some (by kernel_rfl))
 f319:=Tryz.func305.trans (congrArg some (by kernel_rfl))
 f320:=Tryz.func306.trans (congrArg some (by kernel_rfl))
 f321:=Tryz.func297.trans (congrArg some (by kernel_rfl))
 f322:=Tryz.func298.trans (congrArg some (by kernel_rfl))
 f337:=Tryz.func307.trans (congrArg some (by kernel_rfl))
 f338:=Tryz.func308.trans (congrArg some (by kernel_rfl))
 t0:=Tryz.underlying0
 a0:=Tryz.isAgg0
 z0:=Tryz.sizeOf0
 v0:=Tryz.zeroValue0
 t2:=Tryz.underlying2
 a2:=Tryz.isAgg2
 z2:=Tryz.sizeOf2
 v2:=Tryz.zeroValue2
 t3:=Tryz.underlying3
 a3:=Tryz.isAgg3
 z3:=Tryz.sizeOf3
 v3:=Tryz.zeroValue3
 t4:=Tryz.underlying4
 a4:=Tryz.isAgg4
 z4:=Tryz.sizeOf4
 v4:=Tryz.zeroValue4
 t5:=Tryz.underlying5
 a5:=Tryz.isAgg5
 z5:=Tryz.sizeOf5
 v5:=Tryz.zeroValue5
 t9:=Tryz.underlying9
 a9:=Tryz.isAgg9
 z9:=Tryz.sizeOf9
 v9:=Tryz.zeroValue9
 t20:=Tryz.underlying20
 a20:=Tryz.isAgg20
 z20:=Tryz.sizeOf20
 v20:=Tryz.zeroValue20
 t21:=Tryz.underlying21
 a21:=Tryz.isAgg21
 z21:=Tryz.sizeOf21
 v21:=Tryz.zeroValue21
 t37:=Tryz.underlying144
 a37:=Tryz.isAgg144
 z37:=Tryz.sizeOf144
 v37:=Tryz.zeroValue144
 t46:=Tryz.underlying223
 a46:=Tryz.isAgg223
 z46:=Tryz.sizeOf223
 v46:=Tryz.zeroValue223
 t51:=Tryz.underlying262
 a51:=Tryz.isAgg262
 z51:=Tryz.sizeOf262
 v51:=Tryz.zeroValue262
 t53:=Tryz.underlying169
 a53:=Tryz.isAgg169
 z53:=Tryz.sizeOf169
 v53:=Tryz.zeroValue169
 t75:=Tryz.underlying358
 a75:=Tryz.isAgg358
 z75:=Tryz.sizeOf358
 v75:=Tryz.zeroValue358
 t76:=Tryz.underlying359
 a76:=Tryz.isAgg359
 z76:=Tryz.sizeOf359
 v76:=Tryz.zeroValue359
 t85:=Tryz.underlying378
 a85:=Tryz.isAgg378
 z85:=Tryz.sizeOf378
 v85:=Tryz.zeroValue378
 t127:=Tryz.underlying390
 a127:=Tryz.isAgg390
 z127:=Tryz.sizeOf390
 v127:=Tryz.zeroValue390
 t143:=Tryz.underlying391
 a143:=Tryz.isAgg391
 z143:=Tryz.sizeOf391
 v143:=Tryz.zeroValue391
 t145:=Tryz.underlying393
 a145:=Tryz.isAgg393
 z145:=Tryz.sizeOf393
 v145:=Tryz.zeroValue393
 t167:=Tryz.underlying377
 a167:=Tryz.isAgg377
 z167:=Tryz.sizeOf377
 v167:=Tryz.zeroValue377
 t168:=Tryz.underlying380
 a168:=Tryz.isAgg380
 z168:=Tryz.sizeOf380
 v168:=Tryz.zeroValue380
 t171:=Tryz.underlying394
 a171:=Tryz.isAgg394
 z171:=Tryz.sizeOf394
 v171:=Tryz.zeroValue394
 t173:=Tryz.underlying396
 a173:=Tryz.isAgg396
 z173:=Tryz.sizeOf396
 v173:=Tryz.zeroValue396
 t175:=Tryz.underlying383
 a175:=Tryz.isAgg383
 z175:=Tryz.sizeOf383
 v175:=Tryz.zeroValue383
 t210:=Tryz.underlying386
 a210:=Tryz.isAgg386
 z210:=Tryz.sizeOf386
 v210:=Tryz.zeroValue386
 t212:=Tryz.underlying399
 a212:=Tryz.isAgg399
 z212:=Tryz.sizeOf399
 v212:=Tryz.zeroValue399
 t213:=Tryz.underlying400
 a213:=Tryz.isAgg400
 z213:=Tryz.sizeOf400
 t232:=Tryz.underlying401
 a232:=Tryz.isAgg401
 z232:=Tryz.sizeOf401
 v232:=Tryz.zeroValue401
 t233:=Tryz.underlying402
 a233:=Tryz.isAgg402
 z233:=Tryz.sizeOf402
 v233:=Tryz.zeroValue402
 g15:=by kernel_rfl
 g16:=by kernel_rfl
 g17:=by kernel_rfl
 g18:=by kernel_rfl
 g19:=by kernel_rfl
 t80:=Tryz.underlying403
 a80:=Tryz.isAgg403
 z80:=Tryz.sizeOf403
 v80:=Tryz.zeroValue403
 i0:=by kernel_rfl
 i2:=by kernel_rfl
 i3:=by kernel_rfl
 i4:=by kernel_rfl
 i5:=by kernel_rfl
 i9:=by kernel_rfl
 i20:=by kernel_rfl
 i21:=by kernel_rfl
 i37:=by kernel_rfl
 i46:=by kernel_rfl
 i51:=by kernel_rfl
 i53:=by kernel_rfl
 i75:=by kernel_rfl
 i76:=by kernel_rfl
 i80:=by kernel_rfl
 i85:=by kernel_rfl
 i127:=by kernel_rfl
 i143:=by kernel_rfl
 i145:=by kernel_rfl
 i167:=by kernel_rfl
 i168:=by kernel_rfl
 i171:=by kernel_rfl
 i173:=by kernel_rfl
 i175:=by kernel_rfl
 i210:=by kernel_rfl
 i212:=by kernel_rfl
 i232:=by kernel_rfl
 i233:=by kernel_rfl
 m15:=by kernel_rfl
 m16:=by kernel_rfl
 m17:=by kernel_rfl
 m18:=by kernel_rfl
 m19:=by kernel_rfl
 c0:=by kernel_rfl
 c2:=by kernel_rfl
 c3:=by kernel_rfl
 c4:=by kernel_rfl
 c5:=by kernel_rfl
 c9:=by kernel_rfl
 c20:=by kernel_rfl
 c21:=by kernel_rfl
 c37:=by kernel_rfl
 c46:=by kernel_rfl
 c51:=by kernel_rfl
 c53:=by kernel_rfl
 c75:=by kernel_rfl
 c76:=by kernel_rfl
 c80:=by kernel_rfl
 c85:=by kernel_rfl
 c127:=by kernel_rfl
 c143:=by kernel_rfl
 c145:=by kernel_rfl
 c167:=by kernel_rfl
 c168:=by kernel_rfl
 c171:=by kernel_rfl
 c173:=by kernel_rfl
 c175:=by kernel_rfl
 c210:=by kernel_rfl
 c212:=by kernel_rfl
 c213:=by kernel_rfl
 c232:=by kernel_rfl
 c233:=by kernel_rfl}
open Go.RowKit in
theorem Tryz.strconv_Atoi_ok(s:ByteArray)(hmax:s.size<=9223372036854775806)(v:Int)(h:Lib.atoiAll s.data.toList= .ok v)(w:World):
  Calls Tryz.prog 265 #[.string s] w fun e w'=>e= .returned (.tuple #[.int .i64 v,.nilIface])/\(w'=w∨ ∃t,w'=Lib.bytesWorld w 5 t):=Any.strconv_Atoi_ok Tryz.laysC172 s hmax v h w
open Go.RowKit in
theorem Tryz.strconv_Atoi_syntax(s:ByteArray)(hlim:s.size<=281474976710656)(h:Lib.atoiAll s.data.toList=Go.Lib.NumEnd.syntax)(ev:Value)(w:World)(hv:w.cell? ⟨5,0,none⟩=some ev)(hev:ev= .nilIface∨ ∃te pe,ev= .iface te pe):
  Calls Tryz.prog 265 #[.string s] w fun e w'=> ∃N,e= .returned (.tuple #[.int .i64 (0),.iface 380 (.pointer (some ⟨N,0,none⟩))])/\w.heap.size<=N/\w'.heap[N]? =some (.cells #[.string ⟨#[65,116,111,105]⟩,.string s,ev] 386 (0,0))/\Below w.heap.size w w':=Any.strconv_Atoi_syntax Tryz.laysC172 s hlim h ev w hv hev
open Go.RowKit in
theorem Tryz.strconv_Atoi_range(s:ByteArray)(hlim:s.size<=281474976710656)(h:Lib.atoiAll s.data.toList= .range)(ev:Value)(w:World)(hv:w.cell? ⟨6,0,none⟩=some ev)(hev:ev= .nilIface∨ ∃te pe,ev= .iface te pe):
  Calls Tryz.prog 265 #[.string s] w fun e w'=> ∃N,e= .returned (.tuple #[.int .i64 (Lib.atoiSat s.data.toList),.iface 380 (.pointer (some ⟨N,0,none⟩))])/\w.heap.size<=N/\w'.heap[N]? =some (.cells #[.string ⟨#[65,116,111,105]⟩,.string s,ev] 386 (0,0))/\Below w.heap.size w w':=Any.strconv_Atoi_range Tryz.laysC172 s hlim h ev w hv hev
def Tryz.lays144_ren:Go.Shelf.Ren:=⟨fun|144=>188|143=>219|219=>241|217=>258|225=>259|224=>260|267=>261|266=>271|314=>272|n=>n,fun|9=>9|4=>4|3=>3|5=>5|46=>223|146=>364|51=>262|n=>n,fun|1=>2|n=>n⟩
theorem Tryz.lays144:Go.Proofs.Lays.n144 Tryz.prog Tryz.lays144_ren:={
 mixed:=by kernel_rfl
 f143:=Tryz.func219.trans (congrArg some (by kernel_rfl))
 f144:=Tryz.func188.trans (congrArg some (by kernel_rfl))
 f217:=Tryz.func258.trans (congrArg some (by kernel_rfl))
 f219:=Tryz.func241.trans (congrArg some (by kernel_rfl))
 f224:=Tryz.func260.trans (congrArg some (by kernel_rfl))
 f225:=Tryz.func259.trans (congrArg some (by kernel_rfl))
 f266:=Tryz.func271.trans (congrArg some (by kernel_rfl))
 f267:=Tryz.func261.trans (congrArg some (by kernel_rfl))
 f314:=Tryz.func272.trans (congrArg some (by kernel_rfl))
 t3:=Tryz.underlying3
 a3:=Tryz.isAgg3
 z3:=Tryz.sizeOf3
 v3:=Tryz.zeroValue3
 t4:=Tryz.underlying4
 a4:=Tryz.isAgg4
 z4:=Tryz.sizeOf4
 v4:=Tryz.zeroValue4
 t5:=Tryz.underlying5
 a5:=Tryz.isAgg5
 z5:=Tryz.sizeOf5
 v5:=Tryz.zeroValue5
 t9:=Tryz.underlying9
 a9:=Tryz.isAgg9
 z9:=Tryz.sizeOf9
 v9:=Tryz.zeroValue9
 t46:=Tryz.underlying223
 a46:=Tryz.isAgg223
 z46:=Tryz.sizeOf223
 v46:=Tryz.zeroValue223
 t51:=Tryz.underlying262
 a51:=Tryz.isAgg262
 z51:=Tryz.sizeOf262
 v51:=Tryz.zeroValue262
 t146:=Tryz.underlying364
 a146:=Tryz.isAgg364
 z146:=Tryz.sizeOf364
 v146:=Tryz.zeroValue364
 g1:=by kernel_rfl}
open Go.RowKit Go.Lib in
theorem Tryz.strings_Contains(s sub:ByteArray)(m:Int)(w:World)(hs:s.size<4294967281)(hm:w.cell? ⟨2,0,none⟩=some (.int .i64 m)):
  Calls Tryz.prog 188 #[.string s,.string sub] w fun e w'=>e= .returned (.bool (Lib.contains s.data.toList sub.data.toList))/\w'=w:=Any.strings_Contains Tryz.lays144 s sub m w hs hm
def Tryz.lays190_ren:Go.Shelf.Ren:=⟨fun|190=>93|125=>124|258=>123|128=>166|129=>167|302=>157|303=>158|304=>159|305=>160|306=>161|307=>162|308=>163|309=>164|310=>165|333=>197|329=>198|330=>199|334=>200|335=>201|336=>202|344=>234|n=>n,fun|31=>55|9=>9|3=>3|46=>223|0=>0|51=>262|53=>169|4=>4|183=>269|182=>268|131=>166|5=>5|218=>311|222=>315|228=>341|229=>342|n=>n,fun|n=>n⟩
theorem Tryz.lays190:Go.Proofs.Lays.n190 Tryz.prog Tryz.lays190_ren:={
 mixed:=by kernel_rfl
 f125:=Tryz.func124.trans (congrArg some (by kernel_rfl))
 f128:=Tryz.func166.trans (congrArg some (by kernel_rfl))
 f129:=Tryz.func167.trans (congrArg some (by kernel_rfl))
 f190:=Tryz.func93.trans (congrArg some (by kernel_rfl))
 f258:=Tryz.func123.trans (congrArg some (by kernel_rfl))
 f302:=Tryz.func157.trans (congrArg some (by kernel_rfl))
 f303:=Tryz.func158.trans (congrArg some (by kernel_rfl))
 f304:=Tryz.func159.trans (congrArg some (by kernel_rfl))
 f305:=Tryz.func160.trans (congrArg some (by kernel_rfl))
 f306:=Tryz.func161.trans (congrArg some (by kernel_rfl))
 f307:=Tryz.func162.trans (congrArg some (by kernel_rfl))
 f308:=Tryz.func163.trans (congrArg some (by kernel_rfl))
 f309:=Tryz.func164.trans (congrArg some (by kernel_rfl))
 f310:=Tryz.func165.trans (congrArg some (by kernel_rfl))
 f329:=Tryz.func198.trans (congrArg some (by kernel_rfl))
 f330:=Tryz.func199.trans (congrArg some (by kernel_rfl))
 f333:=Tryz.func197.trans (congrArg some (by kernel_rfl))
 f334:=Tryz.func200.trans (congrArg some (by kernel_rfl))
 f335:=Tryz.func201.trans (congrArg some (by kernel_rfl))
 f336:=Tryz.func202.trans (congrArg some (by kernel_rfl))
 f344:=Tryz.func234.trans (congrArg some (by kernel_rfl))
 t0:=Tryz.underlying0
 a0:=Tryz.isAgg0
 z0:=Tryz.sizeOf0
 v0:=Tryz.zeroValue0
 t3:=Tryz.underlying3
 a3:=Tryz.isAgg3
 z3:=Tryz.sizeOf3
 v3:=Tryz.zeroValue3
 t4:=Tryz.underlying4
 a4:=Tryz.isAgg4
 z4:=Tryz.sizeOf4
 v4:=Tryz.zeroValue4
 t5:=Tryz.underlying5
 a5:=Tryz.isAgg5
 z5:=Tryz.sizeOf5
 v5:=Tryz.zeroValue5
 t9:=Tryz.underlying9
 a9:=Tryz.isAgg9
 z9:=Tryz.sizeOf9
 v9:=Tryz.zeroValue9
 t31:=Tryz.underlying55
 a31:=Tryz.isAgg55
 z31:=Tryz.sizeOf55
 v31:=Tryz.zeroValue55
 t46:=Tryz.underlying223
 a46:=Tryz.isAgg223
 z46:=Tryz.sizeOf223
 v46:=Tryz.zeroValue223
 t51:=Tryz.underlying262
 a51:=Tryz.isAgg262
 z51:=Tryz.sizeOf262
 v51:=Tryz.zeroValue262
 t53:=Tryz.underlying169
 a53:=Tryz.isAgg169
 z53:=Tryz.sizeOf169
 v53:=Tryz.zeroValue169
 t131:=Tryz.underlying166
 a131:=Tryz.isAgg166
 z131:=Tryz.sizeOf166
 v131:=Tryz.zeroValue166
 t182:=Tryz.underlying268
 a182:=Tryz.isAgg268
 z182:=Tryz.sizeOf268
 v182:=Tryz.zeroValue268
 t183:=Tryz.underlying269
 a183:=Tryz.isAgg269
 z183:=Tryz.sizeOf269
 v183:=Tryz.zeroValue269
 t218:=Tryz.underlying311
 a218:=Tryz.isAgg311
 z218:=Tryz.sizeOf311
 v218:=Tryz.zeroValue311
 t222:=Tryz.underlying315
 a222:=Tryz.isAgg315
 z222:=Tryz.sizeOf315
 v222:=Tryz.zeroValue315
 t228:=Tryz.underlying341
 a228:=Tryz.isAgg341
 z228:=Tryz.sizeOf341
 v228:=Tryz.zeroValue341
 t229:=Tryz.underlying342
 a229:=Tryz.isAgg342
 z229:=Tryz.sizeOf342
 v229:=Tryz.zeroValue342}
open Go.Sort Go.RowKit in
theorem Tryz.slices_Sort_string(blk off cap:Nat)(ss:List (List UInt8))(w:World)(hH:Holds encStr w blk off ss.toArray)(hblk:blk<w.heap.size)(hsz:ss.length<4611686018427387904):
  Calls Tryz.prog 93 #[.slice (some ⟨blk,off,none⟩) ss.length cap] w fun e w'=>
   e= .returned (.tuple #[])/\ ∃n os,w'=grow (putRow encStr (Sort.ahead w n) blk off (ss.mergeSort fun x y=>decide (x<=y)).toArray) os:=Any.slices_Sort_string Tryz.lays190 blk off cap ss w hH hblk hsz
def Tryz.lays146_ren:Go.Shelf.Ren:=⟨fun|146=>245|221=>263|268=>274|138=>275|143=>219|195=>283|197=>284|218=>285|219=>241|260=>292|217=>258|225=>259|224=>260|267=>261|266=>271|314=>272|n=>n,fun|9=>9|31=>55|3=>3|4=>4|0=>0|105=>375|21=>21|5=>5|46=>223|119=>209|139=>369|138=>368|146=>364|51=>262|n=>n,fun|1=>2|3=>3|4=>4|n=>n⟩
theorem Tryz.lays146:Go.Proofs.Lays.n146 Tryz.prog Tryz.lays146_ren:={
 mixed:=by kernel_rfl
 f138:=Tryz.func275.trans (congrArg some (by kernel_rfl))
 f143:=Tryz.func219.trans (congrArg some (by kernel_rfl))
 f146:=Tryz.func245.trans (congrArg some (by kernel_rfl))
 f195:=Tryz.func283.trans (congrArg some (by kernel_rfl))
 f197:=Tryz.func284.trans (congrArg some (by kernel_rfl))
 f217:=Tryz.func258.trans (congrArg some (by kernel_rfl))
 f218:=Tryz.func285.trans (congrArg some (by kernel_rfl))
 f219:=Tryz.func241.trans (congrArg some (by kernel_rfl))
 f221:=Tryz.func263.trans (congrArg some (by kernel_rfl))
 f224:=Tryz.func260.trans (congrArg some (by kernel_rfl))
 f225:=Tryz.func259.trans (congrArg some (by kernel_rfl))
 f260:=Tryz.func292.trans (congrArg some (by kernel_rfl))
 f266:=Tryz.func271.trans (congrArg some (by kernel_rfl))
 f267:=Tryz.func261.trans (congrArg some (by kernel_rfl))
 f268:=Tryz.func274.trans (congrArg some (by kernel_rfl))
 f314:=Tryz.func272.trans (congrArg some (by kernel_rfl))
 t0:=Tryz.underlying0
 a0:=Tryz.isAgg0
 z0:=Tryz.sizeOf0
 v0:=Tryz.zeroValue0
 t3:=Tryz.underlying3
 a3:=Tryz.isAgg3
 z3:=Tryz.sizeOf3
 v3:=Tryz.zeroValue3
 t4:=Tryz.underlying4
 a4:=Tryz.isAgg4
 z4:=Tryz.sizeOf4
 v4:=Tryz.zeroValue4
 t5:=Tryz.underlying5
 a5:=Tryz.isAgg5
 z5:=Tryz.sizeOf5
 v5:=Tryz.zeroValue5
 t9:=Tryz.underlying9
 a9:=Tryz.isAgg9
 z9:=Tryz.sizeOf9
 v9:=Tryz.zeroValue9
 t21:=Tryz.underlying21
 a21:=Tryz.isAgg21
 z21:=Tryz.sizeOf21
 v21:=Tryz.zeroValue21
 t31:=Tryz.underlying55
 a31:=Tryz.isAgg55
 z31:=Tryz.sizeOf55
 v31:=Tryz.zeroValue55
 t46:=Tryz.underlying223
 a46:=Tryz.isAgg223
 z46:=Tryz.sizeOf223
 v46:=Tryz.zeroValue223
 t51:=Tryz.underlying262
 a51:=Tryz.isAgg262
 z51:=Tryz.sizeOf262
 v51:=Tryz.zeroValue262
 t105:=Tryz.underlying375
 a105:=Tryz.isAgg375
 z105:=Tryz.sizeOf375
 v105:=Tryz.zeroValue375
 t119:=Tryz.underlying209
 a119:=Tryz.isAgg209
 z119:=Tryz.sizeOf209
 t138:=Tryz.underlying368
 a138:=Tryz.isAgg368
 z138:=Tryz.sizeOf368
 v138:=Tryz.zeroValue368
 t139:=Tryz.underlying369
 a139:=Tryz.isAgg369
 z139:=Tryz.sizeOf369
 v139:=Tryz.zeroValue369
 t146:=Tryz.underlying364
 a146:=Tryz.isAgg364
 z146:=Tryz.sizeOf364
 v146:=Tryz.zeroValue364
 g1:=by kernel_rfl
 g3:=by kernel_rfl
 g4:=by kernel_rfl}
open Go.RowKit Go.Lib in
theorem Tryz.strings_Split(s sep:ByteArray)(m:Int)(w:World)(hs:s.size<4294967281)(hm:w.cell? ⟨2,0,none⟩=some (.int .i64 m))(h1:1<=sep.size):
  Calls Tryz.prog 245 #[.string s,.string sep] w fun e w'=>
   e= .returned (.slice (some ⟨w.heap.size,0,none⟩) (Lib.countB s sep+1) (Lib.countB s sep+1))/\w'=w.alloc (.cells ((Lib.splitB sep 0 (Lib.countB s sep) s).map Value.string).toArray 9):=Any.strings_Split Tryz.lays146 (by kernel_rfl) s sep m w hs hm h1
def Tryz.lays157_ren:Go.Shelf.Ren:=⟨fun|157=>85|229=>117|199=>118|261=>151|311=>194|312=>195|n=>n,fun|9=>9|31=>55|3=>3|5=>5|4=>4|119=>209|0=>0|40=>211|152=>259|21=>21|154=>261|51=>262|141=>264|196=>304|193=>301|198=>306|49=>22|194=>302|201=>309|226=>339|46=>223|227=>340|n=>n,fun|0=>0|6=>1|n=>n⟩
theorem Tryz.lays157:Go.Proofs.Lays.n157 Tryz.prog Tryz.lays157_ren:={
 mixed:=by kernel_rfl
 f157:=Tryz.func85.trans (congrArg some (by kernel_rfl))
 f199:=Tryz.func118.trans (congrArg some (by kernel_rfl))
 f229:=Tryz.func117.trans (congrArg some (by kernel_rfl))
 f261:=Tryz.func151.trans (congrArg some (by kernel_rfl))
 f311:=Tryz.func194.trans (congrArg some (by kernel_rfl))
 f312:=Tryz.func195.trans (congrArg some (by kernel_rfl))
 t0:=Tryz.underlying0
 a0:=Tryz.isAgg0
 z0:=Tryz.sizeOf0
 v0:=Tryz.zeroValue0
 t3:=Tryz.underlying3
 a3:=Tryz.isAgg3
 z3:=Tryz.sizeOf3
 v3:=Tryz.zeroValue3
 t4:=Tryz.underlying4
 a4:=Tryz.isAgg4
 z4:=Tryz.sizeOf4
 v4:=Tryz.zeroValue4
 t5:=Tryz.underlying5
 a5:=Tryz.isAgg5
 z5:=Tryz.sizeOf5
 v5:=Tryz.zeroValue5
 t9:=Tryz.underlying9
 a9:=Tryz.isAgg9
 z9:=Tryz.sizeOf9
 v9:=Tryz.zeroValue9
 t21:=Tryz.underlying21
 a21:=Tryz.isAgg21
 z21:=Tryz.sizeOf21
 v21:=Tryz.zeroValue21
 t31:=Tryz.underlying55
 a31:=Tryz.isAgg55
 z31:=Tryz.sizeOf55
 v31:=Tryz.zeroValue55
 t40:=Tryz.underlying211
 a40:=Tryz.isAgg211
 z40:=Tryz.sizeOf211
 v40:=Tryz.zeroValue211
 t46:=Tryz.underlying223
 a46:=Tryz.isAgg223
 z46:=Tryz.sizeOf223
 v46:=Tryz.zeroValue223
 t49:=Tryz.underlying22
 a49:=Tryz.isAgg22
 z49:=Tryz.sizeOf22
 v49:=Tryz.zeroValue22
 t51:=Tryz.underlying262
 a51:=Tryz.isAgg262
 z51:=Tryz.sizeOf262
 v51:=Tryz.zeroValue262
 t119:=Tryz.underlying209
 a119:=Tryz.isAgg209
 z119:=Tryz.sizeOf209
 t141:=Tryz.underlying264
 a141:=Tryz.isAgg264
 z141:=Tryz.sizeOf264
 v141:=Tryz.zeroValue264
 t152:=Tryz.underlying259
 a152:=Tryz.isAgg259
 z152:=Tryz.sizeOf259
 v152:=Tryz.zeroValue259
 t154:=Tryz.underlying261
 a154:=Tryz.isAgg261
 z154:=Tryz.sizeOf261
 v154:=Tryz.zeroValue261
 t193:=Tryz.underlying301
 a193:=Tryz.isAgg301
 z193:=Tryz.sizeOf301
 v193:=Tryz.zeroValue301
 t194:=Tryz.underlying302
 a194:=Tryz.isAgg302
 z194:=Tryz.sizeOf302
 v194:=Tryz.zeroValue302
 t196:=Tryz.underlying304
 a196:=Tryz.isAgg304
 z196:=Tryz.sizeOf304
 v196:=Tryz.zeroValue304
 t198:=Tryz.underlying306
 a198:=Tryz.isAgg306
 z198:=Tryz.sizeOf306
 v198:=Tryz.zeroValue306
 t201:=Tryz.underlying309
 a201:=Tryz.isAgg309
 z201:=Tryz.sizeOf309
 v201:=Tryz.zeroValue309
 t226:=Tryz.underlying339
 a226:=Tryz.isAgg339
 z226:=Tryz.sizeOf339
 v226:=Tryz.zeroValue339
 t227:=Tryz.underlying340
 a227:=Tryz.isAgg340
 z227:=Tryz.sizeOf340
 v227:=Tryz.zeroValue340
 g0:=by kernel_rfl
 g6:=by kernel_rfl}
def Tryz.lays194_ren:Go.Shelf.Ren:=⟨fun|194=>94|n=>n,fun|31=>55|9=>9|3=>3|4=>4|0=>0|n=>n,fun|n=>n⟩
theorem Tryz.lays194:Go.Proofs.Lays.n194 Tryz.prog Tryz.lays194_ren:={
 mixed:=by kernel_rfl
 f194:=Tryz.func94.trans (congrArg some (by kernel_rfl))
 t0:=Tryz.underlying0
 a0:=Tryz.isAgg0
 z0:=Tryz.sizeOf0
 v0:=Tryz.zeroValue0
 t3:=Tryz.underlying3
 a3:=Tryz.isAgg3
 z3:=Tryz.sizeOf3
 v3:=Tryz.zeroValue3
 t4:=Tryz.underlying4
 a4:=Tryz.isAgg4
 z4:=Tryz.sizeOf4
 v4:=Tryz.zeroValue4
 t9:=Tryz.underlying9
 a9:=Tryz.isAgg9
 z9:=Tryz.sizeOf9
 v9:=Tryz.zeroValue9
 t31:=Tryz.underlying55
 a31:=Tryz.isAgg55
 z31:=Tryz.sizeOf55
 v31:=Tryz.zeroValue55}
open Go.RowKit Go.Lib Go.Sort in
theorem Tryz.slices_Compact_string(blk off cap:Nat)(zs:List (List UInt8))(w:World)(hH:Holds encStr w blk off zs.toArray)(hsz:zs.length<=9223372036854775807)(hcap:zs.length<=cap):
  Calls Tryz.prog 94 #[.slice (some ⟨blk,off,none⟩) zs.length cap] w fun e w'=>e= .returned (.slice (some ⟨blk,off,none⟩) (Lib.compact zs).length cap)/\ ∃q,w'=putRow encStr (Sort.ahead w q) blk off (Lib.compact zs++List.replicate (zs.length - (Lib.compact zs).length) []).toArray:=Any.slices_Compact_string Tryz.lays194 blk off cap zs w hH hsz hcap
open Go.RowKit Go.Lib Go.Sort in
theorem Tryz.slices_Compact_string_empty(a:Option Addr)(cap:Nat)(w:World):
  Calls Tryz.prog 94 #[.slice a 0 cap] w fun e w'=>e= .returned (.slice a 0 cap)/\w'=w:=Any.slices_Compact_string_empty Tryz.lays194 a cap w
def Tryz.laysNm224_ren:Go.Shelf.Ren:=⟨fun|24=>232|n=>n,fun|24=>55|9=>9|3=>3|4=>4|0=>0|n=>n,fun|n=>n⟩
theorem Tryz.laysNm224:Go.Proofs.Lays2.n24 Tryz.prog Tryz.laysNm224_ren:={
 mixed:=by kernel_rfl
 f24:=Tryz.func232.trans (congrArg some (by kernel_rfl))
 t0:=Tryz.underlying0
 a0:=Tryz.isAgg0
 z0:=Tryz.sizeOf0
 v0:=Tryz.zeroValue0
 t3:=Tryz.underlying3
 a3:=Tryz.isAgg3
 z3:=Tryz.sizeOf3
 v3:=Tryz.zeroValue3
 t4:=Tryz.underlying4
 a4:=Tryz.isAgg4
 z4:=Tryz.sizeOf4
 v4:=Tryz.zeroValue4
 t9:=Tryz.underlying9
 a9:=Tryz.isAgg9
 z9:=Tryz.sizeOf9
 v9:=Tryz.zeroValue9
 t24:=Tryz.underlying55
 a24:=Tryz.isAgg55
 z24:=Tryz.sizeOf55
 v24:=Tryz.zeroValue55
 i9:=by kernel_rfl}
open Go.RowKit Go.Lib Go.Sort in
theorem Tryz.slices_Delete_string(blk off cap i j:Nat)(zs:List (List UInt8))(w:World)(hH:Holds encStr w blk off zs.toArray)(hcap:zs.length<=cap)(hm:cap<=9223372036854775807)(hij:i<=j)(hj:j<=zs.length):
  Calls Tryz.prog 232 #[.slice (some ⟨blk,off,none⟩) zs.length cap,.int .i64 i,.int .i64 j] w fun e w'=>e= .returned (.slice (some ⟨blk,off,none⟩) (zs.length - (j - i)) cap)/\ ∃q,w'=putRow encStr (Sort.ahead w q) blk off (zs.take i++zs.drop j++List.replicate (j - i) []).toArray:=Any.slices_Delete_string Tryz.laysNm224 blk off cap i j zs w hH hcap hm hij hj
open Go.RowKit Go.Sort in
theorem Tryz.slices_Sort_string_none(p:Option Addr)(cap:Nat)(w:World):
  Calls Tryz.prog 93 #[.slice p 0 cap] w fun e w'=>e= .returned (.tuple #[])/\w'=w:=Any.slices_Sort_string_none Tryz.lays190 p cap w
def Tryz.lays196_ren:Go.Shelf.Ren:=⟨fun|196=>262|259=>273|n=>n,fun|9=>9|4=>4|3=>3|5=>5|12=>12|119=>209|0=>0|46=>223|139=>369|138=>368|53=>169|n=>n,fun|3=>3|4=>4|n=>n⟩
theorem Tryz.lays196:Go.Proofs.Lays.n196 Tryz.prog Tryz.lays196_ren:={
 mixed:=by kernel_rfl
 f196:=Tryz.func262.trans (congrArg some (by kernel_rfl))
 f259:=Tryz.func273.trans (congrArg some (by kernel_rfl))
 t0:=Tryz.underlying0
 a0:=Tryz.isAgg0
 z0:=Tryz.sizeOf0
 v0:=Tryz.zeroValue0
 t3:=Tryz.underlying3
 a3:=Tryz.isAgg3
 z3:=Tryz.sizeOf3
 v3:=Tryz.zeroValue3
 t4:=Tryz.underlying4
 a4:=Tryz.isAgg4
 z4:=Tryz.sizeOf4
 v4:=Tryz.zeroValue4
 t5:=Tryz.underlying5
 a5:=Tryz.isAgg5
 z5:=Tryz.sizeOf5
 v5:=Tryz.zeroValue5
 t9:=Tryz.underlying9
 a9:=Tryz.isAgg9
 z9:=Tryz.sizeOf9
 v9:=Tryz.zeroValue9
 t12:=Tryz.underlying12
 a12:=Tryz.isAgg12
 z12:=Tryz.sizeOf12
 v12:=Tryz.zeroValue12
 t46:=Tryz.underlying223
 a46:=Tryz.isAgg223
 z46:=Tryz.sizeOf223
 v46:=Tryz.zeroValue223
 t53:=Tryz.underlying169
 a53:=Tryz.isAgg169
 z53:=Tryz.sizeOf169
 v53:=Tryz.zeroValue169
 t119:=Tryz.underlying209
 a119:=Tryz.isAgg209
 z119:=Tryz.sizeOf209
 t138:=Tryz.underlying368
 a138:=Tryz.isAgg368
 z138:=Tryz.sizeOf368
 v138:=Tryz.zeroValue368
 t139:=Tryz.underlying369
 a139:=Tryz.isAgg369
 z139:=Tryz.sizeOf369
 v139:=Tryz.zeroValue369
 g3:=by kernel_rfl
 g4:=by kernel_rfl}
def Tryz.sorted226_ren:Go.Shelf.Ren:=⟨fun|6=>226|8=>250|9=>93|11=>269|13=>124|12=>123|23=>166|24=>167|14=>157|15=>158|16=>159|17=>160|18=>161|19=>162|20=>163|21=>164|22=>165|25=>197|26=>198|27=>199|28=>200|29=>201|30=>202|31=>234|n=>n,fun|26=>9|28=>333|24=>55|0=>0|3=>3|37=>223|48=>262|50=>169|4=>4|40=>269|39=>268|45=>166|5=>5|9=>9|51=>311|55=>315|57=>341|58=>342|33=>118|n=>n,fun|n=>n⟩
theorem Tryz.sorted226:Go.Proofs.SlLaysZ.n6 Tryz.prog Tryz.sorted226_ren:={
 mixed:=by kernel_rfl
 f6:=⟨Tryz.f226.name,by decide,Tryz.func226.trans (congrArg some (by kernel_rfl))⟩
 f8:=⟨Tryz.f250.name,by decide,Tryz.func250.trans (congrArg some (by kernel_rfl))⟩
 f11:=⟨Tryz.f269.name,by decide,Tryz.func269.trans (congrArg some (by kernel_rfl))⟩
 t0:=Tryz.underlying0
 a0:=Tryz.isAgg0
 z0:=Tryz.sizeOf0
 v0:=Tryz.zeroValue0
 t24:=Tryz.underlying55
 a24:=Tryz.isAgg55
 z24:=Tryz.sizeOf55
 v24:=Tryz.zeroValue55
 t26:=Tryz.underlying9
 a26:=Tryz.isAgg9
 z26:=Tryz.sizeOf9
 v26:=Tryz.zeroValue9
 t28:=Tryz.underlying333
 a28:=Tryz.isAgg333
 z28:=Tryz.sizeOf333
 v28:=Tryz.zeroValue333
 i26:=by kernel_rfl}
end Go.Proofs
end
noncomputable section
set_option maxRecDepth 100000
namespace Go.Fl
open Go Go.Proofs Go.RowKit Go.Maps Go.Sort Go.Shelf
variable {P:Program}{ρ:Ren}
def j84(F:Fence)(n:Nat)(P:Program)(g:Nat)(lb:Array Value)(ss:List (List UInt8))(w:World):Prop:=
 ∀(l:Nat) (J:List (List UInt8)->World->Prop) (W:World),Below w.heap.size w W->AbidesFrom W.heap.size J->(∀pre W1,J pre W1->Below w.heap.size w W1)->
  (∀pre x W1,J pre W1->pre.length<ss.length->YieldAt F (n - 1) P l #[encStr x] W1 fun e W'=>e= .returned (.bool true)/\J (pre++[x]) W'/\KeepsWalks W1 W')->
  J [] W->CallsIn F n P g (#[.func (.yield l) #[] #[]]++lb) W fun e W'=>(∃v,e= .returned v)/\J ss W'
theorem z74{W:World}{base j:Nat}{e:TypeId}{v:Value}{k:Nat}{xs:List Value}{o:Obj}(h:W.ownsRow base e 1 v k xs)(hj:W.heap[j]? =some o)(hno: ∀cur,o≠ .cells cur e (0,0))(o':Obj):(W.putObj j o').ownsRow base e 1 v k xs:=
 h.kept (grownBy_putObj_a W j o') (ownsRow_ne_a h hj hno)
set_option maxHeartbeats 2000000 in
theorem z43(L:SlLaysZ.n11 P ρ)(F:Fence)(n:Nat)(hf:F.fn (ρ.f 11))(hro:F.round=none)(hn:2<=n)(g:Nat)(lb:Array Value)(hg:F.fn g)(eg: ∀args w,(callFunc g args).run P w= .ok (.enter g args) w)
  (ss:List (List UInt8))(hN:ss.length<=maxLen)(hNb:ss.length*16<=140737488355328)(w:World)(hseq:j84 F (n - 1) P g lb ss w):
  CallsIn F n P (ρ.f 11) #[.slice none 0 0,.func (.func g) #[] lb] w fun e w'=> ∃v,e= .returned v/\w'.ownsRow w.heap.size (ρ.t 26) 1 v ss.length (ss.map encStr)/\Below w.heap.size w w':=by
 have mixed:=L.mixed;have t0:=L.t0;have a0:=L.a0;have z0:=L.z0;have v0:=L.v0;have t24:=L.t24;have a24:=L.a24;have z24:=L.z24;have v24:=L.v24;have t26:=L.t26;have a26:=L.a26;have z26:=L.z26;have v26:=L.v26
 have u0:=run_underlying L.t0;have u24:=run_underlying L.t24;have u26:=run_underlying L.t26
 have apart:ρ.t 24≠ρ.t 26:=fun e=>by have h:=L.t24;rw[e,L.t26] at h;cases h
 obtain⟨_,_,body⟩:=L.f11
 refine callsIn_of_wp_marks body rfl hf ?_ hro
 simp only[SlBodyZ.n11_ntmps ρ,List.size_toArray,List.length_cons,List.length_nil,Nat.reduceAdd,Nat.reduceSub,Array.replicate_succ,Array.replicate_zero,List.push_toArray,List.append_toArray,List.nil_append,List.cons_append]
 gi_wp2
 refine wpIn_rangeFunc fun fn hfn=> ?_
 rw[hro]
 generalize hA:w.alloc (.cells #[.slice none 0 0] (ρ.t 24))=A
 have sA:A.heap.size=w.heap.size+1:=by rw[←hA];simp
 have bA:Below w.heap.size w A:=by rw[←hA];exact (Below.refl _ w).alloc (Nat.le_refl _) _
 have xA:A.heap[w.heap.size]? =some (.cells #[.slice none 0 0] (ρ.t 24) (0,0)):=by rw[←hA];exact World.alloc_heap_new w _
 generalize hrec:AnyZ.apRec ρ fn (.func (.func g) #[] lb) w.heap.size A.heap.size .ready none=rec
 generalize hB:(A.alloc (.deferred (some []))).alloc (.loop rec)=B
 have oldB: ∀k,k<A.heap.size->B.heap[k]? =A.heap[k]? :=fun k hk=>by rw[←hB];exact (Below.heap_alloc _ _ k (by simp;omega)).trans (Below.heap_alloc _ _ k hk)
 have bB:Below w.heap.size w B:=by rw[←hB];exact (bA.alloc bA.size _).alloc (by have:=bA.size;simp;omega) _
 have dB:B.heap[A.heap.size]? =some (.deferred (some [])):=by rw[←hB];exact (Below.heap_alloc _ _ _ (by simp)).trans (World.alloc_heap_new A _)
 have lB:B.heap[A.heap.size+1]? =some (.loop rec):=by rw[←hB];have:=World.alloc_heap_new (A.alloc (.deferred (some []))) (.loop rec);rwa [World.size_alloc] at this
 have start:AnyZ.ApAt ρ w fn (.func (.func g) #[] lb) w.heap.size (A.heap.size+1) A.heap.size [] B:=
  ⟨⟨_,(oldB _ (by omega)).trans xA,⟨rfl,.inl ⟨rfl,rfl⟩⟩,by simp⟩,by rw[hrec];exact lB,dB,bB⟩
 refine⟨A.heap.size+1,[{target:= .collected A.heap.size,args:= #[]}],B,{target:= .fn (.func g) lb,args:= #[.func (.yield (A.heap.size+1)) #[] #[]]},B,g,#[.func (.yield (A.heap.size+1)) #[] #[]]++lb,B,?_,?_,?_,?_,fun _=>(by omega),?_⟩
 ·rw[←hB,←hrec];exact run_enterLoop_outer _ _ _ _ _
 ·simp[resolve,go_sem]
 ·intro f' h';simp[Target.leads] at h';exact h'▸hg
 ·simp[invoke,go_sem,eg]
 refine (hseq _ (AnyZ.ApAt ρ w fn (.func (.func g) #[] lb) w.heap.size (A.heap.size+1) A.heap.size) B bB (AnyZ.ap_abides ρ _ _ _ _ _ _ _ bB.size) (fun _ _ h=>h.below)
  (fun pre x W h hl=>AnyZ.apYield {L with} F _ w fn hfn _ _ _ _ (by omega) (by omega) (by omega) (Nat.le_refl _) (by omega) ss.length hN hNb pre x W h hl) start).mono ?_
 rintro e C ⟨⟨_,rfl⟩,hC⟩
 obtain⟨v,hv,hrow,_⟩:=hC.box
 have hend:=run_endLoop (P:=P) hC.L (by simp[AnyZ.apRec])
 generalize hD:C.putObj (A.heap.size+1) (.loop {AnyZ.apRec ρ fn (.func (.func g) #[] lb) w.heap.size A.heap.size .ready none with state:= .exhausted})=D at hend
 have rowD:D.ownsRow w.heap.size (ρ.t 26) 1 v ss.length (ss.map encStr):=by rw[←hD];exact z74 hrow hC.L (fun _ h=>by cases h) _
 have boxD:D.heap[w.heap.size]? =some (.cells #[v] (ρ.t 24) (0,0)):=by rw[←hD];exact (World.putObj_heap_other (by omega)).trans hv
 have defD:D.heap[A.heap.size]? =some (.deferred (some [])):=by rw[←hD];exact (World.putObj_heap_other (by omega)).trans hC.K
 have belD:Below w.heap.size w D:=by rw[←hD];exact hC.below.grown (grownBy_putObj_a _ _ _) hC.below.size (fun k h=>by cases h;omega)
 obtain⟨cellD,markD⟩:=cell_of_box_a boxD
 clear hD
 refine⟨none,D,hend,?_⟩
 gi_wp2
 rw[←sA]
 refine⟨by simp,.inl ⟨_,_,rfl,run_takeDeferred defD,?_⟩⟩
 exact⟨_,results_tmp rfl _ _ _,v,rfl,z74 rowD defD (fun _ h=>by cases h) _,belD.grown (grownBy_putObj_a _ _ _) belD.size (fun k h=>by cases h;omega)⟩
end Go.Fl
end
noncomputable section
set_option maxRecDepth 100000
namespace Go.Proofs.YtjepffgpbidclaaGreatDoor
open Go Go.Proofs Go.RowKit Go.Fl Go.Maps Go.Sort Go.Shelf
attribute [local go_sem] Oper.semAt_some
set_option maxHeartbeats 2000000 in
theorem j3c(n:Nat)(hn:1<=n)(w W:World)(l Bs b off cap:Nat)(zs:List (List UInt8))(hreach:zs.length<=140737488355328)(hBs:Bs<w.heap.size)(hb:b<w.heap.size)(J:List (List UInt8)->World->Prop)
  (hJ: ∀pre W1,J pre W1->Below w.heap.size w W1)(hc:w.cell? ⟨Bs,0,none⟩=some (.slice (some ⟨b,off,none⟩) zs.length cap))(hcs: ∀j,j<zs.length->w.cell? ⟨b,off+j,none⟩=some (encStr (zs[j]?.getD [])))
  (hY: ∀pre x W1,J pre W1->pre.length<zs.length->YieldAt Fence.wide (n - 1) Tryz.prog l #[encStr x] W1 fun e W'=>e= .returned (.bool true)/\J (pre++[x]) W'/\KeepsWalks W1 W')(h0:J [] W):
  CallsIn Fence.wide n Tryz.prog 251 #[.func (.yield l) #[] #[],.pointer (some ⟨Bs,0,none⟩)] W fun e W'=>(∃v,e= .returned v)/\J zs W':=by
 have hc0:=((hJ _ _ h0).cell (p:=⟨Bs,0,none⟩) hBs).trans hc
 refine callsIn_of_wp Tryz.func251 rfl trivial ?_ rfl
 simp only[Tryz.ntmps251,List.size_toArray,List.length_cons,List.length_nil,Nat.reduceAdd,Nat.reduceSub,Array.replicate_succ,Array.replicate_zero,List.push_toArray,List.append_toArray,List.nil_append,List.cons_append]
 gi_wp2
 gi_loopw [7] (fun i wr=> ∃k:Nat,k<=zs.length/\i= .int .i64 k/\J (zs.take k) wr) (fun i _=>zs.length - (intOf i).toNat)
 case atStart=>exact⟨0,Nat.zero_le _,rfl,h0⟩
 case round=>
  obtain⟨k,hk,rfl,hJk⟩:=hrel
  by_cases hlt:k<zs.length
  ·have hck:=((hJ _ _ hJk).cell (p:=⟨b,off+k,none⟩) hb).trans (hcs k hlt)
   obtain⟨fn,tmps,assign,body,hy,hR⟩:=hY _ zs[k] wr hJk (by rw[List.length_take];omega)
   gi_wp2
   refine hR.mono ?_
   rintro e W3 ⟨rfl,hJ3,_⟩
   gi_wp2
   go_roundw
   case rel=>exact⟨k+1,by omega,by simp,by rw[List.take_succ_eq_append_getElem hlt];exact hJ3⟩
   case measure=>simp[intOf];omega
  ·obtain rfl:k=zs.length:=by omega
   rw[List.take_length] at hJk
   gi_wp2
   go_end0
   exact⟨⟨_,rfl⟩,hJk⟩
set_option maxHeartbeats 2000000 in
theorem j3d(n:Nat)(w W:World)(l Bs cap:Nat)(a:Option Addr)(hBs:Bs<w.heap.size)(J:List (List UInt8)->World->Prop)(hJ: ∀pre W1,J pre W1->Below w.heap.size w W1)(hc:w.cell? ⟨Bs,0,none⟩=some (.slice a 0 cap))(h0:J [] W):
  CallsIn Fence.wide n Tryz.prog 251 #[.func (.yield l) #[] #[],.pointer (some ⟨Bs,0,none⟩)] W fun e W'=>(∃v,e= .returned v)/\J [] W':=by
 have hc0:=((hJ _ _ h0).cell (p:=⟨Bs,0,none⟩) hBs).trans hc
 refine callsIn_of_wp Tryz.func251 rfl trivial ?_ rfl
 simp only[Tryz.ntmps251,List.size_toArray,List.length_cons,List.length_nil,Nat.reduceAdd,Nat.reduceSub,Array.replicate_succ,Array.replicate_zero,List.push_toArray,List.append_toArray,List.nil_append,List.cons_append]
 gi_wp2
 gi_loopw [7] (fun i wr=>i= .int .i64 0/\J [] wr) (fun _ _=>0)
 case atStart=>exact⟨rfl,h0⟩
 case round=>
  obtain⟨rfl,hJs⟩:=hrel
  gi_wp2
  go_end0
  exact⟨⟨_,rfl⟩,hJs⟩
theorem v0t{σ:Hv}{w:World}(Bs:Nat)(v:Value)(l:List ByteArray)(hV:View σ w)(hB:σ Bs=some (.cells #[v] 55 (0,0)))(hr:RSl 1 (REnc Qg) σ v l)(hs:Sml l.length):
  Calls Tryz.prog 269 #[.slice none 0 0,.func (.func 251) #[] #[.pointer (some ⟨Bs,0,none⟩)]] w fun e w1=> ∃v1,e= .returned v1/\Grow [] σ w σ w1/\((vec v1 9 1 l.length (l.flatMap Qg)).ok w1/\ ∀k,(vec v1 9 1 l.length (l.flatMap Qg)).foot=some k->w.heap.size<=k/\σ k=none):=by
 have hBw:=hV _ _ hB
 have hBl:=lt_of_block hBw
 have hBc:w.cell? ⟨Bs,0,none⟩=some v:=by simp[World.cell?,hBw]
 have hlen:(l.map (·.data.toList)).length=l.length:=List.length_map _
 have hgive:j84 Fence.wide 2 Tryz.prog 251 #[.pointer (some ⟨Bs,0,none⟩)] (l.map (·.data.toList)) w:=by
  intro lp J W _ _ hJB hY h0
  obtain⟨a,cap,rfl,h1,h2,hel⟩:=hr
  cases hl0:l with
  |nil=>
   subst hl0
   exact j3d 2 w W lp Bs cap a hBl J hJB hBc h0
  |cons x l'=>
   obtain⟨ad,cs,rfl,_,hrow0,hcs0⟩:=hel 0 x (by rw[hl0];rfl)
   have cell0:=(hrow0.row hV) 0 _ (by rw[hcs0];rfl)
   obtain⟨ab,ao,asp⟩:=ad
   have hsp:asp=none:=by
    cases asp with
    |none=>rfl
    |some s=>
     have:=hrow0 0 (.string x) (by rw[hcs0];rfl)
     simp[Hv.cell,Addr.add] at this
     split at this<;>simp at this
   subst hsp
   have hbl:ab<w.heap.size:=by
    have:=hrow0 0 (.string x) (by rw[hcs0];rfl)
    simp only[Wh] at this
    unfold Hv.cell at this
    simp only at this
    cases hq:σ ab with
    |none=>rw[hq] at this;simp at this
    |some o=>exact lt_of_block (hV _ _ hq)
   rw[←hl0]
   have hcome:=j3c 2 (by omega) w W lp Bs ab ao cap (l.map (·.data.toList)) (by rw[hlen];exact h2) hBl hbl J hJB (by rw[hlen];exact hBc) (fun j hj=>by
    rw[hlen] at hj
    obtain⟨y,hy⟩:=getq hj
    obtain⟨ad',cs',had,_,hrow,hcs⟩:=hel j y hy
    cases had
    have hc:=(hrow.row hV) 0 (.string y) (by rw[hcs];rfl)
    rw[G4,Wh] at hc
    rw[List.getElem?_map,hy]
    simpa [encStr] using hc) hY h0
   exact hcome
 refine (callsIn_wide (n:=3)).1 ((z43 (ρ:=Tryz.sorted226_ren) {Tryz.sorted226 with} Fence.wide 3 trivial rfl (by omega) 251 _ trivial (enters_of Tryz.func251 (by kernel_rfl) rfl) (l.map (·.data.toList)) (by rw[hlen];exact (B0 hs (show 16<=32768 by omega)).2) (by rw[hlen];exact (B0 hs (by omega)).1) w hgive).mono ?_)
 rintro e w1 ⟨v1,rfl,hown,hbel⟩
 rw[hlen] at hown
 have hfl:(l.map (·.data.toList)).map encStr=l.flatMap Qg:=(U2 l).symm
 rw[hfl] at hown
 have hsame: ∀b,b<w.heap.size->w1.heap[b]? =w.heap[b]? :=fun b hb=>hbel.block b hb
 refine⟨v1,rfl,⟨⟨hbel.os,hbel.tape,hbel.output,hbel.size,fun k hk _=>hbel.block k hk⟩,fun b o hb=>(hbel.block b (lt_of_block (hV b o hb))).trans (hV b o hb),.refl _,fun _ _ _=>rfl⟩,?_,?_⟩
 ·exact⟨hown.1,hown.2.imp id fun ⟨g,cap,cur,e1,_,e3⟩=>⟨g,cap,cur,e1,Nat.zero_le _,e3⟩⟩
 ·intro k hk
  have hge:w.heap.size<=k:=(hown.lt k hk).1
  refine⟨hge,?_⟩
  cases hq:σ k with
  |none=>rfl
  |some o=>have:=lt_of_block (hV k o hq);omega
end Go.Proofs.YtjepffgpbidclaaGreatDoor
end
noncomputable section
set_option maxRecDepth 100000
namespace Go.Proofs.YtjepffgpbidclaaGreatDoor
open Go Go.Proofs Go.RowKit Go.Fl
set_option maxHeartbeats 2000000 in
theorem Be{σ:Hv}{w:World}(s_p:(List ByteArray))(v1:Value){K:(List ByteArray)->Prop}(hV:View σ w)(hr1:RSl 1 (REnc Qg) σ v1 s_p)(hP:Q7 s_p K):
    Calls Tryz.prog 156 #[v1] w (fun e w1=> ∃(r1:(List ByteArray)) (v2:Value),e= .returned v2/\St ⟨w,σ,[]⟩ w1 σ [vec v2 9 1 r1.length ((r1).flatMap Qg)]/\Sml r1.length/\K r1):=by
 unfold Q7 at hP
 obtain⟨a1,cap1,rfl⟩:=hr1.shape
 refine enter Tryz.func156 rfl rfl rfl ?_
 have hS:=St.start hV
 refine Qt (Qv (v:=(.slice none 0 0)) rfl (wpList_nil (Qp (wp_seq (Qt (Q5 (v:=(.slice a1 s_p.length cap1)) rfl ?_))))))
 replace hP:=hP a1.isNone (RSl.isNil hr1)
 obtain⟨r1_,hn1⟩: ∃r:Bool,a1.isNone=r:=⟨_,rfl⟩
 rw[hn1] at hP
 refine w08 Tryz.underlying55 rfl hn1 (wpList_nil (Qp ?_))
 refine if_b rfl (fun ht1=> ?_) (fun ht1=> ?_)
 ·
  replace hP:=hP.1 ht1
  refine Qt (Qv (v:=(.slice none 0 0)) rfl (wpList_nil (Qp (wp_ret (Gi (ret1 rfl (show ev _ _ _=(.slice none 0 0) from rfl) ?_))))))
  have hS1:=hS.addNil 9 1
  exact⟨[],(.slice none 0 0),rfl,(St.back hS1 (Sub.refl _)),(by simp[Sml]),hP⟩
 ·
  replace hP:=hP.2 (by first|(rw[ht1];exact Bool.false_ne_true)|simp[ht1])
  refine wp_skip (Qp (Qt (z3c (cs:=[]) (e:=9) hS (fun _=>by kernel_rfl) ?_)))
  intro b1 w1 hS2
  refine Q5 (v:=(.slice a1 s_p.length cap1)) rfl ?_
  have hS3:=hS2.asVec (i:=0) (ms':=[vec (.slice (some ⟨b1,0,none⟩) 0 0) 9 1 0 []]) (size:=1) rfl rfl (by unfold maxLen;omega) rfl
  obtain⟨hsm1,hP⟩:=hP
  refine w76 (enc:=Qg) (l:=s_p) (Ms:=fun v3=>[vec v3 9 1 s_p.length ((s_p).flatMap Qg)]) (k':=s_p.length) (xs':=(s_p).flatMap Qg) Tryz.underlying55 Tryz.type9 rfl rfl (bytes:=16) rfl rfl (Nat.succ_pos _) hS3 rfl (q:=0) rfl rfl hr1 hS3.view Bz j69 hsm1 (by omega) (by first|rfl|exact List.length_append.symm|simp) (List.nil_append _) (fun _=>rfl) ?_
  intro v3 w2 ho1 hS4
  refine Qv (v:=v3) rfl (wpList_nil (Qp (wp_ret (ret1 rfl (show ev _ _ _=v3 from rfl) ?_))))
  exact⟨s_p,v3,rfl,(St.back hS4 (Sub.refl _)),hsm1,hP⟩
set_option maxHeartbeats 2000000 in
theorem Bf{σ:Hv}{w:World}(s_p:(List ByteArray))(v_p:ByteArray)(v1:Value){K:Int->Prop}(hV:View σ w)(hr1:RSl 1 (REnc Qg) σ v1 s_p)(hP:Q8 s_p v_p K):
    Calls Tryz.prog 180 #[v1,(.string v_p)] w (fun e w1=> ∃(r1:Int),e= .returned (.int .i64 r1)/\Grow [] σ w σ w1/\K r1):=by
 unfold Q8 at hP
 obtain⟨a1,cap1,rfl⟩:=hr1.shape
 refine enter Tryz.func180 rfl rfl rfl ?_
 have hS:=St.start hV
 refine Qt (Qv (v:=(.int .i64 (0:Int))) rfl (wpList_nil (Qp (wp_seq (Qt (Q5 (v:=(.slice a1 s_p.length cap1)) rfl (q4j rfl Tryz.underlying55 ?_)))))))
 have hlen1:=RSl.len63 hr1
 replace hP:=hP hlen1
 refine Q5 (v:=(.int .i64 (0:Int))) rfl (wpList_nil (Qp (wp_block ?_)))
 refine z8h (fun k_2 f z=> ∃(σ1:Hv) (g:Fr),f=(upd (upd (upd (upd g 0 (.slice a1 s_p.length cap1)) 1 (.string v_p)) 7 (.int .i64 ((s_p.length:Nat):Int))) 8 (.int .i64 ((k_2:Nat):Int)))/\St ⟨w,σ,[]⟩ z σ1 []/\Sub σ σ1) hP ⟨σ,_,(Zm rfl (Zm rfl (Zm rfl (Zm rfl rfl)))),hS,(Sub.refl _)⟩ ?_
 clear hP
 rintro k_2 Y1 hP f w1 ⟨σ1,g,rfl,hS1,hsub1⟩
 refine Qt (j6z (r:=(decide (((k_2:Nat):Int)<((s_p.length:Nat):Int)))) rfl rfl rfl (wpList_nil (Qp (wp_seq ?_))))
 refine if_d (((k_2:Nat):Int)<((s_p.length:Nat):Int)) rfl (fun ht1=> ?_) (fun ht1=> ?_)
 ·
  replace hP:=hP.1 ht1
  refine wp_skip (Qp (wp_seq (wp_block (Qt (Q5 (v:=(.int .i64 ((k_2:Nat):Int))) rfl (Qv (v:=(.int .i64 ((k_2:Nat):Int))) rfl (wpList_nil (Qp (Qt (Q5 (v:=(.string v_p)) rfl (Q5 (v:=(.slice a1 s_p.length cap1)) rfl (Q5 (v:=(.int .i64 ((k_2:Nat):Int))) rfl ?_))))))))))))
  obtain⟨x1_,hx1⟩:=getq (l:=s_p) (k:=k_2) (by have:=ht1;omega)
  replace hP:=hP x1_ hx1
  obtain⟨ad1,cs1,ha1,hl1,hr2,hR1,hlt1⟩:=RSl.at hr1 hx1
  cases hR1
  refine U1 (k:=k_2) (a':=(ad1.add (k_2*1))) (congrArg (fun z=>Value.slice z _ _) ha1) rfl rfl hlt1 Tryz.underlying55 Tryz.sizeOf9 rfl (q1w (v:=(.string x1_)) rfl Tryz.isAgg9 (hr2.cell (View.of hsub1 hS1.view) 0 rfl rfl) (w7z (r:=(decide (v_p=x1_))) rfl rfl rfl (wpList_nil (Qp ?_))))
  refine if_d (v_p=x1_) rfl (fun ht2=> ?_) (fun ht2=> ?_)
  ·
   replace hP:=hP.1 ht2
   refine Qt (Q5 (v:=(.int .i64 ((k_2:Nat):Int))) rfl (Qv (v:=(.int .i64 ((k_2:Nat):Int))) rfl (wpList_nil (Qp (wp_ret (z2m (Gi (Gi (z2m (Gi (ret1 rfl (show ev _ _ _=(.int .i64 ((k_2:Nat):Int)) from rfl) ?_)))))))))))
   exact⟨((k_2:Nat):Int),rfl,hS1.done.forget,hP⟩
  ·
   replace hP:=hP.2 ht2
   refine wp_skip (j5u (Qp (z04 (j5t (r:=((k_2+1:Nat):Int)) rfl rfl (nw (by omega) (by omega) (by have:=hlen1;omega)) (Q5 (v:=(.int .i64 ((k_2+1:Nat):Int))) rfl (wpList_nil (Qp ?_)))))))
   exact⟨k_2+1,_,rfl,hP,σ1,_,(Zm rfl (Zm rfl (Zm rfl (Zm rfl rfl)))),hS1,hsub1⟩
 ·
  replace hP:=hP.2 ht1
  refine wp_exit (q76 (q76 (z3w (Qp (Qt (Qv (v:=(.int .i64 (-1:Int))) rfl (wpList_nil (Qp (wp_ret (ret1 rfl (show ev _ _ _=(.int .i64 (-1:Int)) from rfl) ?_))))))))))
  exact⟨(-1:Int),rfl,hS1.done.forget,hP⟩
set_option maxHeartbeats 2000000 in
theorem Wb{σ:Hv}{w:World}(s_p:(List ByteArray))(v_p:ByteArray)(v1:Value){K:Bool->Prop}(hV:View σ w)(hr1:RSl 1 (REnc Qg) σ v1 s_p)(hP:Qx s_p v_p K):
    Calls Tryz.prog 142 #[v1,(.string v_p)] w (fun e w1=> ∃(r1:Bool),e= .returned (.bool (r1))/\Grow [] σ w σ w1/\K r1):=by
 unfold Qx at hP
 obtain⟨a1,cap1,rfl⟩:=hr1.shape
 refine enter Tryz.func142 rfl rfl rfl ?_
 have hS:=St.start hV
 refine Qt (Qv (v:=(.bool false)) rfl (wpList_nil (Qp (Qt (Q5 (v:=(.slice a1 s_p.length cap1)) rfl (Q5 (v:=(.string v_p)) rfl ?_))))))
 obtain⟨Y1,hK1,hc1⟩:=hP
 refine q2v (args:=[(.slice a1 s_p.length cap1),(.string v_p)]) rfl Tryz.call180 (Calls.mono (Bf s_p v_p (.slice a1 s_p.length cap1) hS.view hr1 hc1) ?_)
 rintro _ w1 ⟨r1_,rfl,hg1,hY1⟩
 refine⟨_,rfl,?_⟩
 have hS1:=hS.grow hg1
 replace hP:=hK1 r1_ hY1
 refine w7y (r:=(decide ((0:Int)<=r1_))) rfl rfl rfl (Qv (v:=(.bool (decide ((0:Int)<=r1_)))) rfl (wpList_nil (Qp (wp_ret (ret1 rfl (show ev _ _ _=(.bool (decide ((0:Int)<=r1_))) from rfl) ?_)))))
 exact⟨(decide ((0:Int)<=r1_)),rfl,hS1.done.forget,hP⟩
set_option maxHeartbeats 2000000 in
theorem w_graph_Order{σ:Hv}{w:World}(nodes_p:(List ByteArray))(edges_p:(List (ByteArray×ByteArray)))(v1:Value)(v2:Value){K:(List ByteArray)->Int->Prop}(hV:View σ w)(hr1:RSl 1 (REnc Qg) σ v1 nodes_p)(hr2:RSl 2 (REnc w77) σ v2 edges_p)(hP:P_graph_Order nodes_p edges_p K):
    Calls Tryz.prog 191 #[v1,v2] w (fun e w1=> ∃(r1:(List ByteArray)) (r2:Int) (v3:Value),e= .returned (.tuple #[v3,(.int .i64 r2)])/\St ⟨w,σ,[]⟩ w1 σ [vec v3 9 1 r1.length ((r1).flatMap Qg)]/\Sml r1.length/\K r1 r2):=by
 unfold P_graph_Order at hP
 obtain⟨a1,cap1,rfl⟩:=hr1.shape
 obtain⟨a2,cap2,rfl⟩:=hr2.shape
 refine enter Tryz.func191 rfl rfl rfl ?_
 have hS:=St.start hV
 refine Qt (Qv (v:=(.slice none 0 0)) rfl (Qv (v:=(.int .i64 (0:Int))) rfl (wpList_nil (Qp (Qt (Q5 (v:=(.slice a1 nodes_p.length cap1)) rfl (q2v (args:=[(.slice a1 nodes_p.length cap1)]) rfl Tryz.call227 ?_)))))))
 refine enter Tryz.func227 rfl rfl rfl ?_
 refine Qt (w91 (cs:=[(.slice a1 nodes_p.length cap1)]) hS rfl rfl ?_)
 intro b1 w1 hS1
 refine Qv (v:= .nilFunc) rfl (wpList_nil (Qp (Qt (z05 (la:=[]) (lb:=[(.pointer (some ⟨b1,0,none⟩))]) rfl rfl (Qv (v:=(.func (.func 251) #[] #[(.pointer (some ⟨b1,0,none⟩))])) rfl (wpList_nil (Qp (wp_ret (ret1 rfl (show ev _ _ _=(.func (.func 251) #[] #[(.pointer (some ⟨b1,0,none⟩))]) from rfl) ?_)))))))))
 refine⟨_,rfl,?_⟩
 refine q2v (args:=[(.func (.func 251) #[] #[(.pointer (some ⟨b1,0,none⟩))])]) rfl Tryz.call226 ?_
 refine enter Tryz.func226 rfl rfl rfl ?_
 refine Qt (Qv (v:=(.slice none 0 0)) rfl (wpList_nil (Qp (Qt (Q5 (v:=(.func (.func 251) #[] #[(.pointer (some ⟨b1,0,none⟩))])) rfl (q2v (args:=[(.func (.func 251) #[] #[(.pointer (some ⟨b1,0,none⟩))])]) rfl Tryz.call250 ?_))))))
 refine enter Tryz.func250 rfl rfl rfl ?_
 refine Qt (Qv (v:=(.slice none 0 0)) rfl (wpList_nil (Qp (Qt (Q5 (v:=(.func (.func 251) #[] #[(.pointer (some ⟨b1,0,none⟩))])) rfl ?_)))))
 obtain⟨σ1,hS2,hsub1,hfr1⟩:=hS1.freeze' (i:=0) rfl rfl
 have hB1:σ1 b1=some (.cells #[(.slice a1 nodes_p.length cap1)] 55 (0,0)):=(hfr1 _ rfl).trans (hS1.get (i:=0) rfl)
 obtain⟨hsm1,hP⟩:=hP
 refine q2v (args:=[(.slice none 0 0),(.func (.func 251) #[] #[(.pointer (some ⟨b1,0,none⟩))])]) rfl Tryz.call269 (Calls.mono (v0t b1 (.slice a1 nodes_p.length cap1) nodes_p hS2.view hB1 (RSl.menc hsub1 hr1) hsm1) ?_)
 rintro _ w2 ⟨v4,rfl,hg1,ho1⟩
 refine⟨_,rfl,?_⟩
 have hS3:=hS2.growAdd hg1 (o:=vec v4 9 1 nodes_p.length ((nodes_p).flatMap Qg)) ho1
 refine Qv (v:=v4) rfl (wpList_nil (Qp (wp_ret (ret1 rfl (show ev _ _ _=v4 from rfl) ?_))))
 refine⟨_,rfl,?_⟩
 refine Qv (v:=v4) rfl (wpList_nil (Qp (Qt (Q5 (v:=v4) rfl ?_))))
 refine q2v (args:=[v4]) rfl Tryz.call93 (Calls.mono (j38 Tryz.slices_Sort_string Tryz.slices_Sort_string_none hS3.view (hS3.get (i:=0) rfl) rfl (fun b hb=>hS3.off _ (List.mem_of_getElem? (i:=0) rfl) b hb) (by have:=hsm1;unfold Sml at this;omega)) ?_)
 rintro _ w3 ⟨rfl,hg2,ho2⟩
 refine⟨_,rfl,?_⟩
 have hS4:=hS3.growV (i:=0) (o':=vec v4 9 1 nodes_p.length ((srt nodes_p).flatMap Qg)) rfl hg2 rfl ho2 (ms':=[vec v4 9 1 nodes_p.length ((srt nodes_p).flatMap Qg)]) rfl
 have hS5:=hS4.re (ms':=[vec v4 9 1 ((srt nodes_p).length) ((srt nodes_p).flatMap Qg)]) (by simp only[Jb])
 refine wpList_nil (Qp (Qt (Q5 (v:=v4) rfl (Qv (v:=v4) rfl (wpList_nil (Qp (wp_ret (ret1 rfl (show ev _ _ _=v4 from rfl) ?_))))))))
 refine⟨_,rfl,?_⟩
 refine Qv (v:=v4) rfl (wpList_nil (Qp (wp_seq (Qt (Q5 (v:=v4) rfl ?_)))))
 obtain⟨σ2,hS6,hsub2,hr4⟩:=hS5.peek (i:=0) rfl Bz (show Sml (srt nodes_p).length by rw[Jb];exact hsm1)
 obtain⟨Y1,hK1,hc1⟩:=hP
 refine q2v (args:=[v4]) rfl Tryz.call156 (Calls.mono (Be (srt nodes_p) v4 hS6.view hr4 hc1) ?_)
 rintro _ w4 ⟨r1_,v5,rfl,hg3,hl1,hY1⟩
 refine⟨_,rfl,?_⟩
 have hS7:=St.callM (ins:=[]) (rest:=[vec v4 9 1 ((srt nodes_p).length) ((srt nodes_p).flatMap Qg)]) (ms':=[vec v5 9 1 r1_.length ((r1_).flatMap Qg),vec v4 9 1 ((srt nodes_p).length) ((srt nodes_p).flatMap Qg)]) hS5 (St.back hg3 hsub2) rfl
 replace hP:=hK1 r1_ hY1
 obtain⟨hsm2,hP⟩:=hP
 refine q2v (args:=[v5]) rfl Tryz.call94 (Calls.mono (z33 Tryz.slices_Compact_string Tryz.slices_Compact_string_empty hS7.view (hS7.get (i:=0) rfl) rfl (fun b hb=>hS7.off _ (List.mem_of_getElem? (i:=0) rfl) b hb) (by have:=hl1;unfold Sml at this;omega)) ?_)
 rintro _ w5 ⟨v6,rfl,hf1,hg4,ho3⟩
 refine⟨_,rfl,?_⟩
 have ho4:=Gj ho3
 have hS8:=hS7.growV (i:=0) (o':=vec v6 9 1 ((cpt r1_).length) ((cpt r1_).flatMap Qg)) rfl hg4 hf1 ho3 (ms':=[vec v6 9 1 ((cpt r1_).length) ((cpt r1_).flatMap Qg),vec v4 9 1 ((srt nodes_p).length) ((srt nodes_p).flatMap Qg)]) rfl
 refine q9l hS8 rfl (i:=0) rfl Tryz.underlying55 ?_
 have hlen1:(cpt r1_).length<=9223372036854775807:=by have:=hsm2;unfold Sml at this;omega
 replace hP:=hP hlen1
 refine Q5 (v:=v4) rfl (q9l hS8 rfl (i:=1) rfl Tryz.underlying55 ?_)
 have hlen2:(srt nodes_p).length<=9223372036854775807:=by have:=(show Sml (srt nodes_p).length by rw[Jb];exact hsm1);unfold Sml at this;omega
 replace hP:=hP hlen2
 refine w9z (r:=(!decide ((((cpt r1_).length:Nat):Int)=(((srt nodes_p).length:Nat):Int)))) rfl rfl rfl (wpList_nil (Qp ?_))
 refine w70 ((((cpt r1_).length:Nat):Int)=(((srt nodes_p).length:Nat):Int)) rfl (fun ht1=> ?_) (fun ht1=> ?_)
 ·
  replace hP:=hP.2 ht1
  refine Qt (Qv (v:=(.slice none 0 0)) rfl (Qv (v:=(.int .i64 (10:Int))) rfl (wpList_nil (Qp (wp_ret (Gi (ret2 rfl (show ev _ _ _=(.slice none 0 0) from rfl) (show ev _ _ _=(.int .i64 (10:Int)) from rfl) ?_)))))))
  have hS9:=hS8.addNil 9 1
  exact⟨[],(10:Int),(.slice none 0 0),rfl,(St.back (hS9.keep 1 (ms':=[vec (.slice none 0 0) 9 1 0 []]) rfl) (Sub.refl _)),(by simp[Sml]),hP⟩
 ·
  replace hP:=hP.1 ht1
  refine wp_skip (Qp (Qt (j5y 9 1 Qg hS8 ?_)))
  intro b2 w6 hS10
  refine j2l (cs:=[(.map none)]) hS10 Tryz.zeroValue335 rfl ?_
  intro b3 w7 hS11
  refine j2k (T:=335) (vs:=[(.map (some b2))]) (cs':=[(.map (some b2))]) (ms':=(blk b3 335 [(.map (some b2))]::smap b2 (asl [])::vec v6 9 1 ((cpt r1_).length) ((cpt r1_).flatMap Qg)::vec v4 9 1 ((srt nodes_p).length) ((srt nodes_p).flatMap Qg)::Gt 9 1 Qg [])) (i:=0) hS11 rfl rfl rfl Tryz.sizeOf335 rfl (ones rfl) rfl (Nat.le_of_ble_eq_true rfl) rfl rfl ?_
  intro w8 hS12
  refine wpList_nil (Qp (wp_seq (Qt (Q5 (v:=(.slice a2 edges_p.length cap2)) rfl (q4j rfl Tryz.underlying278 ?_)))))
  have hlen3:=RSl.len63 hr2
  replace hP:=hP hlen3
  refine Q5 (v:=(.int .i64 (0:Int))) rfl (wpList_nil (Qp (wp_block ?_)))
  have hS13:=hS12.front 3 rfl (ms':=(vec v4 9 1 ((srt nodes_p).length) ((srt nodes_p).flatMap Qg)::blk b3 335 [(.map (some b2))]::smap b2 (asl [])::vec v6 9 1 ((cpt r1_).length) ((cpt r1_).flatMap Qg)::Gt 9 1 Qg [])) rfl
  have hS14:=hS13.front 3 rfl (ms':=(vec v6 9 1 ((cpt r1_).length) ((cpt r1_).flatMap Qg)::vec v4 9 1 ((srt nodes_p).length) ((srt nodes_p).flatMap Qg)::blk b3 335 [(.map (some b2))]::smap b2 (asl [])::Gt 9 1 Qg [])) rfl
  have hS15:=hS14.front 2 rfl (ms':=(blk b3 335 [(.map (some b2))]::vec v6 9 1 ((cpt r1_).length) ((cpt r1_).flatMap Qg)::vec v4 9 1 ((srt nodes_p).length) ((srt nodes_p).flatMap Qg)::smap b2 (asl [])::Gt 9 1 Qg [])) rfl
  have hS16:=hS15.front 3 rfl (ms':=(smap b2 (asl [])::blk b3 335 [(.map (some b2))]::vec v6 9 1 ((cpt r1_).length) ((cpt r1_).flatMap Qg)::vec v4 9 1 ((srt nodes_p).length) ((srt nodes_p).flatMap Qg)::Gt 9 1 Qg [])) rfl
  refine w05 (fun k_3 F_2 f z=> ∃(es2:EL ByteArray) (σ3:Hv) (g:Fr),f=(upd (upd (upd (upd (upd g 6 v4) 7 (.pointer (some ⟨b3,0,none⟩))) 24 (.slice a2 edges_p.length cap2)) 25 (.int .i64 ((edges_p.length:Nat):Int))) 26 (.int .i64 ((k_3:Nat):Int)))/\St ⟨w,σ,[]⟩ z σ3 (smap b2 (asl es2)::blk b3 335 [(.map (some b2))]::vec v6 9 1 ((cpt r1_).length) ((cpt r1_).flatMap Qg)::vec v4 9 1 ((srt nodes_p).length) ((srt nodes_p).flatMap Qg)::Gt 9 1 Qg es2)/\Sub σ1 σ3/\ELF es2 F_2) hP ⟨[],σ1,_,(Zm rfl (Zm rfl (Zm rfl (Zm rfl (Zm rfl rfl))))),hS16,(Sub.refl _),ELF.nil⟩ ?_
  clear hP
  rintro k_3 F_2 Y2 hP f w9 ⟨es2,σ3,g,rfl,hS17,hsub3,hF2⟩
  refine Qt (j6z (r:=(decide (((k_3:Nat):Int)<((edges_p.length:Nat):Int)))) rfl rfl rfl (wpList_nil (Qp (wp_seq ?_))))
  refine if_d (((k_3:Nat):Int)<((edges_p.length:Nat):Int)) rfl (fun ht2=> ?_) (fun ht2=> ?_)
  ·
   replace hP:=hP.1 ht2
   refine wp_skip (Qp (wp_seq (wp_block (Qt ?_))))
   obtain⟨x1_,hx1⟩:=getq (l:=edges_p) (k:=k_3) (by have:=ht2;omega)
   replace hP:=hP x1_ hx1
   obtain⟨ad1,cs1,ha1,hl2,hr6,hR1,hlt1⟩:=RSl.at hr2 hx1
   cases hR1
   refine U1 (k:=k_3) (a':=(ad1.add (k_3*2))) (congrArg (fun z=>Value.slice z _ _) ha1) rfl rfl hlt1 Tryz.underlying278 Tryz.sizeOf297 rfl (w4t (cs:=[(.string x1_.1),(.string x1_.2)]) rfl Tryz.isAgg297 Tryz.sizeOf297 rfl (hr6.row (View.of (Sub.trans hsub1 hsub3) hS17.view)) (j2l (cs:=[(.string (⟨#[]⟩:ByteArray)),(.string (⟨#[]⟩:ByteArray))]) hS17 Tryz.zeroValue297 rfl ?_))
   intro b4 w10 hS18
   refine j2k (T:=297) (vs:=[(.string x1_.1),(.string x1_.2)]) (cs':=[(.string x1_.1),(.string x1_.2)]) (ms':=(blk b4 297 [(.string x1_.1),(.string x1_.2)]::smap b2 (asl es2)::blk b3 335 [(.map (some b2))]::vec v6 9 1 ((cpt r1_).length) ((cpt r1_).flatMap Qg)::vec v4 9 1 ((srt nodes_p).length) ((srt nodes_p).flatMap Qg)::Gt 9 1 Qg es2)) (i:=0) hS18 rfl rfl rfl Tryz.sizeOf297 rfl (ones rfl) rfl (Nat.le_of_ble_eq_true rfl) rfl rfl ?_
   intro w11 hS19
   refine wpList_nil (Qp (wp_seq (Qt (Q5 (v:=v4) rfl (z3u (a':=⟨b4,0,none⟩) rfl Tryz.underlying297 rfl Tryz.sizeOf9 rfl (q1w (v:=(.string x1_.1)) rfl Tryz.isAgg9 (hS19.cell (i:=0) rfl rfl) ?_))))))
   obtain⟨σ4,hS20,hsub4,hr7⟩:=hS19.peek (i:=4) rfl Bz (show Sml (srt nodes_p).length by rw[Jb];exact hsm1)
   obtain⟨Y3,hK2,hc2⟩:=hP
   refine q2v (args:=[v4,(.string x1_.1)]) rfl Tryz.call142 (Calls.mono (Wb (srt nodes_p) x1_.1 v4 hS20.view hr7 hc2) ?_)
   rintro _ w12 ⟨r2_,rfl,hg5,hY2⟩
   refine⟨_,rfl,?_⟩
   have hg5b:=hg5.back hsub4
   have hS21:=hS19.grow hg5b
   replace hP:=hK2 r2_ hY2
   refine w0z (r:=(!r2_)) rfl rfl ?_
   rcases Bool.eq_false_or_eq_true (r2_) with hb1|hb1
   ·
    replace hP:=hP.1 hb1
    refine Q5 (v:=(.bool false)) (congrArg Value.bool (congrArg Bool.not hb1)) (o_on rfl rfl (Q5 (v:=v4) rfl (o_on rfl rfl (z3u (a':=⟨b4,1,none⟩) rfl Tryz.underlying297 rfl Tryz.sizeOf9 rfl (o_on rfl rfl (q1w (v:=(.string x1_.2)) rfl Tryz.isAgg9 (hS21.cell (i:=0) rfl rfl) (o_on rfl rfl ?_)))))))
    obtain⟨σ5,hS22,hsub5,hr8⟩:=hS21.peek (i:=4) rfl Bz (show Sml (srt nodes_p).length by rw[Jb];exact hsm1)
    obtain⟨Y4,hK3,hc3⟩:=hP
    refine q2v (args:=[v4,(.string x1_.2)]) rfl Tryz.call142 (Calls.mono (Wb (srt nodes_p) x1_.2 v4 hS22.view hr8 hc3) ?_)
    rintro _ w13 ⟨r3_,rfl,hg6,hY3⟩
    refine⟨_,rfl,?_⟩
    have hg6b:=hg6.back hsub5
    have hS23:=hS21.grow hg6b
    replace hP:=hK3 r3_ hY3
    refine o_on rfl rfl (w0z (r:=(!r3_)) rfl rfl (w0x (v:=(.bool (!r3_))) rfl rfl (wpList_nil (Qp ?_))))
    refine w71 rfl (fun ht3=> ?_) (fun ht3=> ?_)
    ·
     replace hP:=hP.2 (by first|(rw[ht3];exact Bool.false_ne_true)|simp[ht3])
     refine Qt (Qv (v:=(.slice none 0 0)) rfl (Qv (v:=(.int .i64 (11:Int))) rfl (wpList_nil (Qp (wp_ret (Gi (z2m (Gi (Gi (z2m (Gi (ret2 rfl (show ev _ _ _=(.slice none 0 0) from rfl) (show ev _ _ _=(.int .i64 (11:Int)) from rfl) ?_))))))))))))
     have hS24:=hS23.addNil 9 1
     exact⟨[],(11:Int),(.slice none 0 0),rfl,(St.back (hS24.keep 1 (ms':=[vec (.slice none 0 0) 9 1 0 []]) rfl) (Sub.refl _)),(by simp[Sml]),hP⟩
    ·
     replace hP:=hP.1 ht3
     refine wp_skip (Qp (dr (fun z=>St ⟨w,σ,[]⟩ z σ3 [blk b4 297 [(.string x1_.1),(.string x1_.2)],blk b3 335 [(.map (some b2))],vec v6 9 1 ((cpt r1_).length) ((cpt r1_).flatMap Qg),vec v4 9 1 ((srt nodes_p).length) ((srt nodes_p).flatMap Qg)]) (by kernel_rfl) rfl ?_))
     have hS25:=hS23.drew
     refine dt 0 1 (v:=(.map (some b2))) (by kernel_rfl) rfl rfl (fun _ _ _ h=>h) (hS25.sublist (.cons_cons _ (.cons _ (.cons_cons _ (.cons_cons _ (.cons_cons _ (List.nil_sublist _))))))) (fun _ hJ _ hK=>q1w (v:=(.map (some b2))) rfl Tryz.isAgg335 (hJ.cell (i:=1) rfl rfl) ⟨rfl,hK⟩) (dt 1 3 (v:=(.pointer (some ⟨b4,0,none⟩))) (by kernel_rfl) rfl rfl (fun _ _ _ h=>h) (hS25.sublist (.cons_cons _ (.cons _ (.cons_cons _ (.cons_cons _ (.cons_cons _ (List.nil_sublist _))))))) (fun _ _ _ hK=>z3u (a':=⟨b4,0,none⟩) rfl Tryz.underlying297 rfl Tryz.sizeOf9 rfl ⟨rfl,hK⟩) (dt 2 7 (v:=(.string x1_.1)) (by kernel_rfl) rfl rfl (fun _ _ _ h=>h) (hS25.sublist (.cons_cons _ (.cons _ (.cons_cons _ (.cons_cons _ (.cons_cons _ (List.nil_sublist _))))))) (fun _ hJ _ hK=>q1w (v:=(.string x1_.1)) rfl Tryz.isAgg9 (hJ.cell (i:=0) rfl rfl) ⟨rfl,hK⟩) (dt 3 15 (v:=(.map (some b2))) (by kernel_rfl) rfl rfl (fun _ _ _ h=>h) (hS25.sublist (.cons_cons _ (.cons _ (.cons_cons _ (.cons_cons _ (.cons_cons _ (List.nil_sublist _))))))) (fun _ hJ _ hK=>q1w (v:=(.map (some b2))) rfl Tryz.isAgg335 (hJ.cell (i:=1) rfl rfl) ⟨rfl,hK⟩) (dt 4 31 (v:=(.pointer (some ⟨b4,0,none⟩))) (by kernel_rfl) rfl rfl (fun _ _ _ h=>h) (hS25.sublist (.cons_cons _ (.cons _ (.cons_cons _ (.cons_cons _ (.cons_cons _ (List.nil_sublist _))))))) (fun _ _ _ hK=>z3u (a':=⟨b4,0,none⟩) rfl Tryz.underlying297 rfl Tryz.sizeOf9 rfl ⟨rfl,hK⟩) (dt 5 63 (v:=(.string x1_.1)) (by kernel_rfl) rfl rfl (fun _ _ _ h=>h) (hS25.sublist (.cons_cons _ (.cons _ (.cons_cons _ (.cons_cons _ (.cons_cons _ (List.nil_sublist _))))))) (fun _ hJ _ hK=>q1w (v:=(.string x1_.1)) rfl Tryz.isAgg9 (hJ.cell (i:=0) rfl rfl) ⟨rfl,hK⟩) (dt 7 191 (v:=(.pointer (some ⟨b4,1,none⟩))) (by kernel_rfl) rfl rfl (fun _ _ _ h=>h) (hS25.sublist (.cons_cons _ (.cons _ (.cons_cons _ (.cons_cons _ (.cons_cons _ (List.nil_sublist _))))))) (fun _ _ _ hK=>z3u (a':=⟨b4,1,none⟩) rfl Tryz.underlying297 rfl Tryz.sizeOf9 rfl ⟨rfl,hK⟩) (dt 8 447 (v:=(.string x1_.2)) (by kernel_rfl) rfl rfl (fun _ _ _ h=>h) (hS25.sublist (.cons_cons _ (.cons _ (.cons_cons _ (.cons_cons _ (.cons_cons _ (List.nil_sublist _))))))) (fun _ hJ _ hK=>q1w (v:=(.string x1_.2)) rfl Tryz.isAgg9 (hJ.cell (i:=0) rfl rfl) ⟨rfl,hK⟩) ?_)))))))
     refine d2 6 9 511 959 (by kernel_rfl) rfl rfl rfl rfl ?_ ?_
     ·
      obtain⟨v7,hv1⟩: ∃v,(asl es2 x1_.1).getD (.slice none 0 0)=v:=⟨_,rfl⟩
      refine j68 (i:=1) (v:=v7) hS25 rfl rfl rfl Tryz.underlying335 Tryz.underlying9 Tryz.zeroValue55 hv1 (wpList_nil ?_)
      refine⟨rfl,(hS25.sublist (.cons_cons _ (.cons _ (.cons_cons _ (.cons_cons _ (.cons_cons _ (List.nil_sublist _))))))),?_⟩
      refine d1 9 1023 (by kernel_rfl) rfl (z3c (cs:=[(.string x1_.2)]) (e:=9) hS25 (fun _=>by kernel_rfl) ?_)
      intro b5 w14 hS26
      refine wpList_nil ?_
      refine⟨rfl,(hS26.sublist (.cons _ (.cons_cons _ (.cons _ (.cons_cons _ (.cons_cons _ (.cons_cons _ (List.nil_sublist _)))))))),?_⟩
      refine d1 10 2047 (by kernel_rfl) rfl ?_
      obtain⟨es3,hS27,hL1,hl3⟩:=St.borrow (ms:=[blk b5 9 [(.string x1_.2)],blk b4 297 [(.string x1_.1),(.string x1_.2)],smap b2 (asl es2),blk b3 335 [(.map (some b2))],vec v6 9 1 ((cpt r1_).length) ((cpt r1_).flatMap Qg),vec v4 9 1 ((srt nodes_p).length) ((srt nodes_p).flatMap Qg)]) hS26 hF2 x1_.1 hv1
      obtain⟨hsm3,hP⟩:=hP
      refine w41 (Ms:=fun v8=>(vec v8 9 1 ((((F_2 x1_.1).getD [])++[x1_.2]).length) ((((F_2 x1_.1).getD [])++[x1_.2]).flatMap Qg)::blk b5 9 [(.string x1_.2)]::blk b4 297 [(.string x1_.1),(.string x1_.2)]::smap b2 (asl es2)::blk b3 335 [(.map (some b2))]::vec v6 9 1 ((cpt r1_).length) ((cpt r1_).flatMap Qg)::vec v4 9 1 ((srt nodes_p).length) ((srt nodes_p).flatMap Qg)::Gt 9 1 Qg es3)) (k':=(((F_2 x1_.1).getD [])++[x1_.2]).length) (xs':=(((F_2 x1_.1).getD [])++[x1_.2]).flatMap Qg) Tryz.underlying55 Tryz.type9 rfl rfl (bytes:=16) rfl rfl (Nat.succ_pos _) hS27 rfl (q:=0) rfl rfl rfl (q3e (hS27.get (i:=1) rfl)) (ones rfl) hsm3 (by omega) (by first|rfl|exact List.length_append.symm|simp) (by simp[Qg]) (fun _=>rfl) ?_
      intro v8 w15 ho5 hS28
      have hS29:=hS28.drop 1 (ms':=(vec v8 9 1 ((((F_2 x1_.1).getD [])++[x1_.2]).length) ((((F_2 x1_.1).getD [])++[x1_.2]).flatMap Qg)::blk b4 297 [(.string x1_.1),(.string x1_.2)]::smap b2 (asl es2)::blk b3 335 [(.map (some b2))]::vec v6 9 1 ((cpt r1_).length) ((cpt r1_).flatMap Qg)::vec v4 9 1 ((srt nodes_p).length) ((srt nodes_p).flatMap Qg)::Gt 9 1 Qg es3)) rfl
      refine wpList_nil ?_
      refine⟨rfl,(hS29.sublist (.cons _ (.cons_cons _ (.cons _ (.cons_cons _ (.cons_cons _ (.cons_cons _ (List.nil_sublist _)))))))),?_⟩
      refine d1 11 4095 (by kernel_rfl) rfl (w4y (v:=v8) (i:=2) (ms':=(vec v8 9 1 ((((F_2 x1_.1).getD [])++[x1_.2]).length) ((((F_2 x1_.1).getD [])++[x1_.2]).flatMap Qg)::blk b4 297 [(.string x1_.1),(.string x1_.2)]::smap b2 (fun k'=>if k'=x1_.1 then some v8 else asl es2 k')::blk b3 335 [(.map (some b2))]::vec v6 9 1 ((cpt r1_).length) ((cpt r1_).flatMap Qg)::vec v4 9 1 ((srt nodes_p).length) ((srt nodes_p).flatMap Qg)::Gt 9 1 Qg es3)) hS29 rfl rfl rfl rfl Tryz.underlying335 Tryz.underlying9 rfl ?_)
      intro w16 hS30
      have hS32:=St.giveback (ms:=[blk b4 297 [(.string x1_.1),(.string x1_.2)],smap b2 (fun k'=>if k'=x1_.1 then some v8 else asl es2 k'),blk b3 335 [(.map (some b2))],vec v6 9 1 ((cpt r1_).length) ((cpt r1_).flatMap Qg),vec v4 9 1 ((srt nodes_p).length) ((srt nodes_p).flatMap Qg)]) (ms':=[blk b4 297 [(.string x1_.1),(.string x1_.2)],smap b2 (asl ((x1_.1,v8,((F_2 x1_.1).getD [])++[x1_.2])::es3)),blk b3 335 [(.map (some b2))],vec v6 9 1 ((cpt r1_).length) ((cpt r1_).flatMap Qg),vec v4 9 1 ((srt nodes_p).length) ((srt nodes_p).flatMap Qg)]) (i:=1) hS30 hL1 rfl rfl
      have hF3:=ELF.put (v:=v8) hF2 hL1 hsm3
      refine wpList_nil ?_
      refine⟨rfl,(hS32.sublist (.cons_cons _ (.cons _ (.cons_cons _ (.cons_cons _ (.cons_cons _ (List.nil_sublist _))))))),z3d (J':=fun z=>St ⟨w,σ,[]⟩ z σ3 (blk b4 297 [(.string x1_.1),(.string x1_.2)]::smap b2 (asl ((x1_.1,v8,((F_2 x1_.1).getD [])++[x1_.2])::es3))::blk b3 335 [(.map (some b2))]::vec v6 9 1 ((cpt r1_).length) ((cpt r1_).flatMap Qg)::vec v4 9 1 ((srt nodes_p).length) ((srt nodes_p).flatMap Qg)::Gt 9 1 Qg ((x1_.1,v8,((F_2 x1_.1).getD [])++[x1_.2])::es3))) (fun w h=>h.sublist (.cons_cons _ (.cons _ (.cons_cons _ (.cons_cons _ (.cons_cons _ (List.nil_sublist _))))))) _ _ _ _ ?_⟩
      refine dz (by kernel_rfl) (j5u (Qp (z04 (j5t (r:=((k_3+1:Nat):Int)) rfl rfl (nw (by omega) (by omega) (by have:=hlen3;omega)) (Q5 (v:=(.int .i64 ((k_3+1:Nat):Int))) rfl (wpList_nil (Qp ?_)))))))
      exact⟨k_3+1,(put F_2 x1_.1 (((F_2 x1_.1).getD [])++[x1_.2])),_,rfl,hP,((x1_.1,v8,((F_2 x1_.1).getD [])++[x1_.2])::es3),σ3,_,(Zm rfl (Zm rfl (Zm rfl (Zm rfl (Zm rfl rfl))))),(hS32.sublist (ms':=(smap b2 (asl ((x1_.1,v8,((F_2 x1_.1).getD [])++[x1_.2])::es3))::blk b3 335 [(.map (some b2))]::vec v6 9 1 ((cpt r1_).length) ((cpt r1_).flatMap Qg)::vec v4 9 1 ((srt nodes_p).length) ((srt nodes_p).flatMap Qg)::Gt 9 1 Qg ((x1_.1,v8,((F_2 x1_.1).getD [])++[x1_.2])::es3))) (.cons _ (List.Sublist.refl _))),hsub3,hF3⟩
     ·
      refine z3c (cs:=[(.string x1_.2)]) (e:=9) hS25 (fun _=>by kernel_rfl) ?_
      intro b5 w14 hS26
      refine wpList_nil ?_
      refine⟨rfl,(hS26.sublist (.cons _ (.cons_cons _ (.cons _ (.cons_cons _ (.cons_cons _ (.cons_cons _ (List.nil_sublist _)))))))),?_⟩
      refine d1 6 1023 (by kernel_rfl) rfl ?_
      obtain⟨v7,hv1⟩: ∃v,(asl es2 x1_.1).getD (.slice none 0 0)=v:=⟨_,rfl⟩
      refine j68 (i:=2) (v:=v7) hS26 rfl rfl rfl Tryz.underlying335 Tryz.underlying9 Tryz.zeroValue55 hv1 (wpList_nil ?_)
      refine⟨rfl,(hS26.sublist (.cons _ (.cons_cons _ (.cons _ (.cons_cons _ (.cons_cons _ (.cons_cons _ (List.nil_sublist _)))))))),?_⟩
      refine d1 10 2047 (by kernel_rfl) rfl ?_
      obtain⟨es3,hS27,hL1,hl3⟩:=St.borrow (ms:=[blk b5 9 [(.string x1_.2)],blk b4 297 [(.string x1_.1),(.string x1_.2)],smap b2 (asl es2),blk b3 335 [(.map (some b2))],vec v6 9 1 ((cpt r1_).length) ((cpt r1_).flatMap Qg),vec v4 9 1 ((srt nodes_p).length) ((srt nodes_p).flatMap Qg)]) hS26 hF2 x1_.1 hv1
      obtain⟨hsm3,hP⟩:=hP
      refine w41 (Ms:=fun v8=>(vec v8 9 1 ((((F_2 x1_.1).getD [])++[x1_.2]).length) ((((F_2 x1_.1).getD [])++[x1_.2]).flatMap Qg)::blk b5 9 [(.string x1_.2)]::blk b4 297 [(.string x1_.1),(.string x1_.2)]::smap b2 (asl es2)::blk b3 335 [(.map (some b2))]::vec v6 9 1 ((cpt r1_).length) ((cpt r1_).flatMap Qg)::vec v4 9 1 ((srt nodes_p).length) ((srt nodes_p).flatMap Qg)::Gt 9 1 Qg es3)) (k':=(((F_2 x1_.1).getD [])++[x1_.2]).length) (xs':=(((F_2 x1_.1).getD [])++[x1_.2]).flatMap Qg) Tryz.underlying55 Tryz.type9 rfl rfl (bytes:=16) rfl rfl (Nat.succ_pos _) hS27 rfl (q:=0) rfl rfl rfl (q3e (hS27.get (i:=1) rfl)) (ones rfl) hsm3 (by omega) (by first|rfl|exact List.length_append.symm|simp) (by simp[Qg]) (fun _=>rfl) ?_
      intro v8 w15 ho5 hS28
      have hS29:=hS28.drop 1 (ms':=(vec v8 9 1 ((((F_2 x1_.1).getD [])++[x1_.2]).length) ((((F_2 x1_.1).getD [])++[x1_.2]).flatMap Qg)::blk b4 297 [(.string x1_.1),(.string x1_.2)]::smap b2 (asl es2)::blk b3 335 [(.map (some b2))]::vec v6 9 1 ((cpt r1_).length) ((cpt r1_).flatMap Qg)::vec v4 9 1 ((srt nodes_p).length) ((srt nodes_p).flatMap Qg)::Gt 9 1 Qg es3)) rfl
      refine wpList_nil ?_
      refine⟨rfl,(hS29.sublist (.cons _ (.cons_cons _ (.cons _ (.cons_cons _ (.cons_cons _ (.cons_cons _ (List.nil_sublist _)))))))),?_⟩
      refine d1 11 4095 (by kernel_rfl) rfl (w4y (v:=v8) (i:=2) (ms':=(vec v8 9 1 ((((F_2 x1_.1).getD [])++[x1_.2]).length) ((((F_2 x1_.1).getD [])++[x1_.2]).flatMap Qg)::blk b4 297 [(.string x1_.1),(.string x1_.2)]::smap b2 (fun k'=>if k'=x1_.1 then some v8 else asl es2 k')::blk b3 335 [(.map (some b2))]::vec v6 9 1 ((cpt r1_).length) ((cpt r1_).flatMap Qg)::vec v4 9 1 ((srt nodes_p).length) ((srt nodes_p).flatMap Qg)::Gt 9 1 Qg es3)) hS29 rfl rfl rfl rfl Tryz.underlying335 Tryz.underlying9 rfl ?_)
      intro w16 hS30
      have hS32:=St.giveback (ms:=[blk b4 297 [(.string x1_.1),(.string x1_.2)],smap b2 (fun k'=>if k'=x1_.1 then some v8 else asl es2 k'),blk b3 335 [(.map (some b2))],vec v6 9 1 ((cpt r1_).length) ((cpt r1_).flatMap Qg),vec v4 9 1 ((srt nodes_p).length) ((srt nodes_p).flatMap Qg)]) (ms':=[blk b4 297 [(.string x1_.1),(.string x1_.2)],smap b2 (asl ((x1_.1,v8,((F_2 x1_.1).getD [])++[x1_.2])::es3)),blk b3 335 [(.map (some b2))],vec v6 9 1 ((cpt r1_).length) ((cpt r1_).flatMap Qg),vec v4 9 1 ((srt nodes_p).length) ((srt nodes_p).flatMap Qg)]) (i:=1) hS30 hL1 rfl rfl
      have hF3:=ELF.put (v:=v8) hF2 hL1 hsm3
      refine wpList_nil ?_
      refine⟨rfl,(hS32.sublist (.cons_cons _ (.cons _ (.cons_cons _ (.cons_cons _ (.cons_cons _ (List.nil_sublist _))))))),z3d (J':=fun z=>St ⟨w,σ,[]⟩ z σ3 (blk b4 297 [(.string x1_.1),(.string x1_.2)]::smap b2 (asl ((x1_.1,v8,((F_2 x1_.1).getD [])++[x1_.2])::es3))::blk b3 335 [(.map (some b2))]::vec v6 9 1 ((cpt r1_).length) ((cpt r1_).flatMap Qg)::vec v4 9 1 ((srt nodes_p).length) ((srt nodes_p).flatMap Qg)::Gt 9 1 Qg ((x1_.1,v8,((F_2 x1_.1).getD [])++[x1_.2])::es3))) (fun w h=>h.sublist (.cons_cons _ (.cons _ (.cons_cons _ (.cons_cons _ (.cons_cons _ (List.nil_sublist _))))))) _ _ _ _ ?_⟩
      refine dz (by kernel_rfl) (j5u (Qp (z04 (j5t (r:=((k_3+1:Nat):Int)) rfl rfl (nw (by omega) (by omega) (by have:=hlen3;omega)) (Q5 (v:=(.int .i64 ((k_3+1:Nat):Int))) rfl (wpList_nil (Qp ?_)))))))
      exact⟨k_3+1,(put F_2 x1_.1 (((F_2 x1_.1).getD [])++[x1_.2])),_,rfl,hP,((x1_.1,v8,((F_2 x1_.1).getD [])++[x1_.2])::es3),σ3,_,(Zm rfl (Zm rfl (Zm rfl (Zm rfl (Zm rfl rfl))))),(hS32.sublist (ms':=(smap b2 (asl ((x1_.1,v8,((F_2 x1_.1).getD [])++[x1_.2])::es3))::blk b3 335 [(.map (some b2))]::vec v6 9 1 ((cpt r1_).length) ((cpt r1_).flatMap Qg)::vec v4 9 1 ((srt nodes_p).length) ((srt nodes_p).flatMap Qg)::Gt 9 1 Qg ((x1_.1,v8,((F_2 x1_.1).getD [])++[x1_.2])::es3))) (.cons _ (List.Sublist.refl _))),hsub3,hF3⟩
   ·
    replace hP:=hP.2 (by first|(rw[hb1];exact Bool.false_ne_true)|simp[hb1])
    refine Q5 (v:=(.bool true)) (congrArg Value.bool (congrArg Bool.not hb1)) (j6y rfl rfl (j6y rfl rfl (j6y rfl rfl (j6y rfl rfl (j6y rfl rfl (w0w (v:=(.bool true)) rfl rfl (wpList_nil (Qp (if_t rfl (Qt (Qv (v:=(.slice none 0 0)) rfl (Qv (v:=(.int .i64 (11:Int))) rfl (wpList_nil (Qp (wp_ret (Gi (z2m (Gi (Gi (z2m (Gi (ret2 rfl (show ev _ _ _=(.slice none 0 0) from rfl) (show ev _ _ _=(.int .i64 (11:Int)) from rfl) ?_))))))))))))))))))))))
    have hS33:=hS21.addNil 9 1
    exact⟨[],(11:Int),(.slice none 0 0),rfl,(St.back (hS33.keep 1 (ms':=[vec (.slice none 0 0) 9 1 0 []]) rfl) (Sub.refl _)),(by simp[Sml]),hP⟩
  ·
   replace hP:=hP.2 ht2
   refine wp_exit (q76 (q76 (z3w (Qp (Qt (Qv (v:=(.slice none 0 0)) rfl (wpList_nil (Qp (Qt (w4z (fun y:Bool=>(Value.bool (y))) hS17 ?_))))))))))
   intro b6 w17 hS34
   refine j2l (cs:=[(.map none)]) hS34 Tryz.zeroValue177 rfl ?_
   intro b7 w18 hS35
   refine j2k (T:=177) (vs:=[(.map (some b6))]) (cs':=[(.map (some b6))]) (ms':=(blk b7 177 [(.map (some b6))]::emap b6 (fun y:Bool=>(Value.bool (y))) (fun _=>none)::smap b2 (asl es2)::blk b3 335 [(.map (some b2))]::vec v6 9 1 ((cpt r1_).length) ((cpt r1_).flatMap Qg)::vec v4 9 1 ((srt nodes_p).length) ((srt nodes_p).flatMap Qg)::Gt 9 1 Qg es2)) (i:=0) hS35 rfl rfl rfl Tryz.sizeOf177 rfl (ones rfl) rfl (Nat.le_of_ble_eq_true rfl) rfl rfl ?_
   intro w19 hS36
   refine wpList_nil (Qp (wp_seq (wp_block ?_)))
   obtain⟨σ6,hS37,hsub6,hr9⟩:=St.freezeL (ms:=[blk b7 177 [(.map (some b6))],emap b6 (fun y:Bool=>(Value.bool (y))) (fun _=>none),smap b2 (asl es2),blk b3 335 [(.map (some b2))],vec v6 9 1 ((cpt r1_).length) ((cpt r1_).flatMap Qg),vec v4 9 1 ((srt nodes_p).length) ((srt nodes_p).flatMap Qg)]) (ms':=[blk b7 177 [(.map (some b6))],emap b6 (fun y:Bool=>(Value.bool (y))) (fun _=>none),blk b3 335 [(.map (some b2))],vec v6 9 1 ((cpt r1_).length) ((cpt r1_).flatMap Qg),vec v4 9 1 ((srt nodes_p).length) ((srt nodes_p).flatMap Qg)]) (i:=2) hS36 hF2 Bz rfl rfl
   have hS38:=hS37.addNil 9 1
   have hS39:=hS38.front 4 rfl (ms':=[vec v6 9 1 ((cpt r1_).length) ((cpt r1_).flatMap Qg),vec (.slice none 0 0) 9 1 0 [],blk b7 177 [(.map (some b6))],emap b6 (fun y:Bool=>(Value.bool (y))) (fun _=>none),blk b3 335 [(.map (some b2))],vec v4 9 1 ((srt nodes_p).length) ((srt nodes_p).flatMap Qg)]) rfl
   have hS40:=hS39.front 4 rfl (ms':=[blk b3 335 [(.map (some b2))],vec v6 9 1 ((cpt r1_).length) ((cpt r1_).flatMap Qg),vec (.slice none 0 0) 9 1 0 [],blk b7 177 [(.map (some b6))],emap b6 (fun y:Bool=>(Value.bool (y))) (fun _=>none),vec v4 9 1 ((srt nodes_p).length) ((srt nodes_p).flatMap Qg)]) rfl
   have hS41:=hS40.front 3 rfl (ms':=[blk b7 177 [(.map (some b6))],blk b3 335 [(.map (some b2))],vec v6 9 1 ((cpt r1_).length) ((cpt r1_).flatMap Qg),vec (.slice none 0 0) 9 1 0 [],emap b6 (fun y:Bool=>(Value.bool (y))) (fun _=>none),vec v4 9 1 ((srt nodes_p).length) ((srt nodes_p).flatMap Qg)]) rfl
   have hS42:=hS41.front 4 rfl (ms':=[emap b6 (fun y:Bool=>(Value.bool (y))) (fun _=>none),blk b7 177 [(.map (some b6))],blk b3 335 [(.map (some b2))],vec v6 9 1 ((cpt r1_).length) ((cpt r1_).flatMap Qg),vec (.slice none 0 0) 9 1 0 [],vec v4 9 1 ((srt nodes_p).length) ((srt nodes_p).flatMap Qg)]) rfl
   have hS43:=hS42.front 4 rfl (ms':=[vec (.slice none 0 0) 9 1 0 [],emap b6 (fun y:Bool=>(Value.bool (y))) (fun _=>none),blk b7 177 [(.map (some b6))],blk b3 335 [(.map (some b2))],vec v6 9 1 ((cpt r1_).length) ((cpt r1_).flatMap Qg),vec v4 9 1 ((srt nodes_p).length) ((srt nodes_p).flatMap Qg)]) rfl
   have hS44:=hS43.front 5 rfl (ms':=[vec v4 9 1 ((srt nodes_p).length) ((srt nodes_p).flatMap Qg),vec (.slice none 0 0) 9 1 0 [],emap b6 (fun y:Bool=>(Value.bool (y))) (fun _=>none),blk b7 177 [(.map (some b6))],blk b3 335 [(.map (some b2))],vec v6 9 1 ((cpt r1_).length) ((cpt r1_).flatMap Qg)]) rfl
   refine w06 (fun left_3 out_3 F_4 f z=> ∃(v13:Value) (v14:Value) (σ7:Hv) (g:Fr),f=(upd (upd (upd (upd g 6 v13) 7 (.pointer (some ⟨b3,0,none⟩))) 10 v14) 11 (.pointer (some ⟨b7,0,none⟩)))/\St ⟨w,σ,[]⟩ z σ7 [vec v13 9 1 left_3.length ((left_3).flatMap Qg),vec v14 9 1 out_3.length ((out_3).flatMap Qg),emap b6 (fun y:Bool=>(Value.bool (y))) F_4,blk b7 177 [(.map (some b6))],blk b3 335 [(.map (some b2))],vec v6 9 1 ((cpt r1_).length) ((cpt r1_).flatMap Qg)]/\Sub σ6 σ7/\v13.oneCell'=true/\Sml left_3.length/\v14.oneCell'=true/\Sml out_3.length) hP ⟨v4,(.slice none 0 0),σ6,_,(Zm rfl (Zm rfl (Zm rfl (Zm rfl rfl)))),hS44,(Sub.refl _),(Gj ho1.1),(show Sml (srt nodes_p).length by rw[Jb];exact hsm1),rfl,(by simp[Sml])⟩ ?_
   clear hP
   rintro left_3 out_3 F_4 Y5 hP f w20 ⟨v13,v14,σ7,g,rfl,hS45,hsub7,ho10,hl8,ho11,hl9⟩
   refine wp_seq (Qt (Q5 (v:=v13) rfl (q9l hS45 rfl (i:=0) rfl Tryz.underlying55 ?_)))
   have hlen4:left_3.length<=9223372036854775807:=by have:=hl8;unfold Sml at this;omega
   replace hP:=hP hlen4
   refine w90 (r:=(decide ((0:Int)<((left_3.length:Nat):Int)))) rfl rfl rfl (wpList_nil (Qp ?_))
   refine if_d ((0:Int)<((left_3.length:Nat):Int)) rfl (fun ht4=> ?_) (fun ht4=> ?_)
   ·
    replace hP:=hP.1 ht4
    refine wp_skip (Qp (wp_block (Qt (Q5 (v:=v13) rfl (z05 (la:=[]) (lb:=[(.pointer (some ⟨b3,0,none⟩)),(.pointer (some ⟨b7,0,none⟩))]) rfl rfl ?_)))))
    obtain⟨Y6,hK4,hP⟩:=hP
    refine q2v (args:=[v13,(.func (.func 229) #[] #[(.pointer (some ⟨b3,0,none⟩)),(.pointer (some ⟨b7,0,none⟩))])]) rfl Tryz.call228 (Calls.mono (R:=fun e z=> ∃(r_1:Int) (σ8:Hv),e= .returned (.int .i64 r_1)/\Y6 r_1/\St ⟨w,σ,[]⟩ z σ8 [vec v13 9 1 left_3.length ((left_3).flatMap Qg),vec v14 9 1 out_3.length ((out_3).flatMap Qg),emap b6 (fun y:Bool=>(Value.bool (y))) F_4,blk b7 177 [(.map (some b6))],blk b3 335 [(.map (some b2))],vec v6 9 1 ((cpt r1_).length) ((cpt r1_).flatMap Qg)]/\Sub σ7 σ8) ?_ ?_)
    ·
     refine enter Tryz.func228 rfl rfl rfl ?_
     refine Qt (Qv (v:=(.int .i64 (0:Int))) rfl (wpList_nil (Qp (wp_seq (Qt (Q5 (v:=v13) rfl (q9l hS45 rfl (i:=0) rfl Tryz.underlying55 (Q5 (v:=(.int .i64 (0:Int))) rfl (wpList_nil (Qp (wp_block ?_)))))))))))
     refine z8h (fun k_5 f z=> ∃(σ9:Hv) (g:Fr),f=(upd (upd (upd (upd g 0 v13) 1 (.func (.func 229) #[] #[(.pointer (some ⟨b3,0,none⟩)),(.pointer (some ⟨b7,0,none⟩))])) 7 (.int .i64 ((left_3.length:Nat):Int))) 8 (.int .i64 ((k_5:Nat):Int)))/\St ⟨w,σ,[]⟩ z σ9 [vec v13 9 1 left_3.length ((left_3).flatMap Qg),vec v14 9 1 out_3.length ((out_3).flatMap Qg),emap b6 (fun y:Bool=>(Value.bool (y))) F_4,blk b7 177 [(.map (some b6))],blk b3 335 [(.map (some b2))],vec v6 9 1 ((cpt r1_).length) ((cpt r1_).flatMap Qg)]/\Sub σ7 σ9) hP ⟨σ7,_,(Zm rfl (Zm rfl (Zm rfl (Zm rfl rfl)))),hS45,(Sub.refl _)⟩ ?_
     clear hP
     rintro k_5 Y7 hP f w21 ⟨σ9,g,rfl,hS46,hsub9⟩
     refine Qt (j6z (r:=(decide (((k_5:Nat):Int)<((left_3.length:Nat):Int)))) rfl rfl rfl (wpList_nil (Qp (wp_seq ?_))))
     refine if_d (((k_5:Nat):Int)<((left_3.length:Nat):Int)) rfl (fun ht5=> ?_) (fun ht5=> ?_)
     ·
      replace hP:=hP.1 ht5
      refine wp_skip (Qp (wp_seq (wp_block (Qt (Q5 (v:=(.int .i64 ((k_5:Nat):Int))) rfl (Qv (v:=(.int .i64 ((k_5:Nat):Int))) rfl (wpList_nil (Qp (Qt (Q5 (v:=(.func (.func 229) #[] #[(.pointer (some ⟨b3,0,none⟩)),(.pointer (some ⟨b7,0,none⟩))])) rfl (Q5 (v:=v13) rfl (Q5 (v:=(.int .i64 ((k_5:Nat):Int))) rfl ?_))))))))))))
      obtain⟨x2_,hx2⟩:=getq (l:=left_3) (k:=k_5) (by have:=ht5;omega)
      replace hP:=hP x2_ hx2
      obtain⟨g1,cp1,hv2⟩:=z8i (hS46.get (i:=0) rfl) (Qj hx2)
      refine U1 (k:=k_5) (a':=⟨g1,k_5*1,none⟩) hv2 rfl rfl (Qj hx2) Tryz.underlying55 Tryz.sizeOf9 (by simp[Wh]) (q1w (v:=(.string x2_)) rfl Tryz.isAgg9 (z34 Bz (j:=0) hv2 (hS46.get (i:=0) rfl) hx2 rfl) (j62 (args:=[(.string x2_),(.pointer (some ⟨b3,0,none⟩)),(.pointer (some ⟨b7,0,none⟩))]) rfl rfl Tryz.call229 ?_))
      refine enter Tryz.func229 rfl rfl rfl ?_
      refine Qt (Qv (v:=(.bool false)) rfl (wpList_nil (Qp (Qt (q1w (v:=(.map (some b2))) rfl Tryz.isAgg335 (hS46.cell (i:=4) rfl rfl) (Q5 (v:=(.string x2_)) rfl ?_))))))
      obtain⟨v15,hl10,hz1⟩:=RMp.at (z:= .slice none 0 0) (z0:=[]) RSl.nil hr9 x2_
      obtain⟨a3,cap3,rfl⟩:=hz1.shape
      refine w42 (v:=(.slice a3 ((F_2 x2_).getD []).length cap3)) hl10 (View.of (Sub.trans hsub7 hsub9) hS46.view) rfl rfl Tryz.underlying335 Tryz.underlying9 Tryz.zeroValue55 (z05 (la:=[]) (lb:=[(.pointer (some ⟨b7,0,none⟩))]) rfl rfl (q2v (args:=[(.slice a3 ((F_2 x2_).getD []).length cap3),(.func (.func 231) #[] #[(.pointer (some ⟨b7,0,none⟩))])]) rfl Tryz.call230 ?_))
      refine enter Tryz.func230 rfl rfl rfl ?_
      refine Qt (Qv (v:=(.bool false)) rfl (wpList_nil (Qp (Qt (Q5 (v:=(.slice a3 ((F_2 x2_).getD []).length cap3)) rfl (Q5 (v:=(.func (.func 231) #[] #[(.pointer (some ⟨b7,0,none⟩))])) rfl ?_))))))
      obtain⟨Y8,hK5,hP⟩:=hP
      refine q2v (args:=[(.slice a3 ((F_2 x2_).getD []).length cap3),(.func (.func 231) #[] #[(.pointer (some ⟨b7,0,none⟩))])]) rfl Tryz.call228 (Calls.mono (R:=fun e z=> ∃(r_2:Int) (σ10:Hv),e= .returned (.int .i64 r_2)/\Y8 r_2/\St ⟨w,σ,[]⟩ z σ10 [vec v13 9 1 left_3.length ((left_3).flatMap Qg),vec v14 9 1 out_3.length ((out_3).flatMap Qg),emap b6 (fun y:Bool=>(Value.bool (y))) F_4,blk b7 177 [(.map (some b6))],blk b3 335 [(.map (some b2))],vec v6 9 1 ((cpt r1_).length) ((cpt r1_).flatMap Qg)]/\Sub σ9 σ10) ?_ ?_)
      ·
       refine enter Tryz.func228 rfl rfl rfl ?_
       refine Qt (Qv (v:=(.int .i64 (0:Int))) rfl (wpList_nil (Qp (wp_seq (Qt (Q5 (v:=(.slice a3 ((F_2 x2_).getD []).length cap3)) rfl (q4j rfl Tryz.underlying55 ?_)))))))
       have hlen6:=RSl.len63 hz1
       replace hP:=hP hlen6
       refine Q5 (v:=(.int .i64 (0:Int))) rfl (wpList_nil (Qp (wp_block ?_)))
       refine z8h (fun k_7 f z=> ∃(σ11:Hv) (g:Fr),f=(upd (upd (upd (upd g 0 (.slice a3 ((F_2 x2_).getD []).length cap3)) 1 (.func (.func 231) #[] #[(.pointer (some ⟨b7,0,none⟩))])) 7 (.int .i64 ((((F_2 x2_).getD []).length:Nat):Int))) 8 (.int .i64 ((k_7:Nat):Int)))/\St ⟨w,σ,[]⟩ z σ11 [vec v13 9 1 left_3.length ((left_3).flatMap Qg),vec v14 9 1 out_3.length ((out_3).flatMap Qg),emap b6 (fun y:Bool=>(Value.bool (y))) F_4,blk b7 177 [(.map (some b6))],blk b3 335 [(.map (some b2))],vec v6 9 1 ((cpt r1_).length) ((cpt r1_).flatMap Qg)]/\Sub σ9 σ11) hP ⟨σ9,_,(Zm rfl (Zm rfl (Zm rfl (Zm rfl rfl)))),hS46,(Sub.refl _)⟩ ?_
       clear hP
       rintro k_7 Y9 hP f w22 ⟨σ11,g,rfl,hS47,hsub11⟩
       refine Qt (j6z (r:=(decide (((k_7:Nat):Int)<((((F_2 x2_).getD []).length:Nat):Int)))) rfl rfl rfl (wpList_nil (Qp (wp_seq ?_))))
       refine if_d (((k_7:Nat):Int)<((((F_2 x2_).getD []).length:Nat):Int)) rfl (fun ht6=> ?_) (fun ht6=> ?_)
       ·
        replace hP:=hP.1 ht6
        refine wp_skip (Qp (wp_seq (wp_block (Qt (Q5 (v:=(.int .i64 ((k_7:Nat):Int))) rfl (Qv (v:=(.int .i64 ((k_7:Nat):Int))) rfl (wpList_nil (Qp (Qt (Q5 (v:=(.func (.func 231) #[] #[(.pointer (some ⟨b7,0,none⟩))])) rfl (Q5 (v:=(.slice a3 ((F_2 x2_).getD []).length cap3)) rfl (Q5 (v:=(.int .i64 ((k_7:Nat):Int))) rfl ?_))))))))))))
        obtain⟨x3_,hx3⟩:=getq (l:=((F_2 x2_).getD [])) (k:=k_7) (by have:=ht6;omega)
        replace hP:=hP x3_ hx3
        obtain⟨ad2,cs2,ha2,hl11,hr10,hR2,hlt2⟩:=RSl.at hz1 hx3
        cases hR2
        refine U1 (k:=k_7) (a':=(ad2.add (k_7*1))) (congrArg (fun z=>Value.slice z _ _) ha2) rfl rfl hlt2 Tryz.underlying55 Tryz.sizeOf9 rfl (q1w (v:=(.string x3_)) rfl Tryz.isAgg9 (hr10.cell (View.of (Sub.trans (Sub.trans hsub7 hsub9) hsub11) hS47.view) 0 rfl rfl) (j62 (args:=[(.string x3_),(.pointer (some ⟨b7,0,none⟩))]) rfl rfl Tryz.call231 ?_))
        refine enter Tryz.func231 rfl rfl rfl ?_
        refine Qt (Qv (v:=(.bool false)) rfl (wpList_nil (Qp (Qt (q1w (v:=(.map (some b6))) rfl Tryz.isAgg177 (hS47.cell (i:=3) rfl rfl) (Q5 (v:=(.string x3_)) rfl (w40 (v:=(.bool (((F_4 x3_).getD false)))) (i:=2) hS47 rfl rfl rfl Tryz.underlying177 Tryz.underlying9 Tryz.zeroValue4 (w07 (fun y:Bool=>(Value.bool (y))) _ rfl) (w0z (r:=(!((F_4 x3_).getD false))) rfl rfl (Qv (v:=(.bool (!((F_4 x3_).getD false)))) rfl (wpList_nil (Qp (wp_ret (ret1 rfl (show ev _ _ _=(.bool (!((F_4 x3_).getD false))) from rfl) ?_)))))))))))))
        refine⟨_,rfl,?_⟩
        refine wpList_nil (Qp ?_)
        refine w71 rfl (fun ht7=> ?_) (fun ht7=> ?_)
        ·
         replace hP:=hP.2 (by first|(rw[ht7];exact Bool.false_ne_true)|simp[ht7])
         refine Qt (Q5 (v:=(.int .i64 ((k_7:Nat):Int))) rfl (Qv (v:=(.int .i64 ((k_7:Nat):Int))) rfl (wpList_nil (Qp (wp_ret (z2m (Gi (Gi (z2m (Gi (ret1 rfl (show ev _ _ _=(.int .i64 ((k_7:Nat):Int)) from rfl) ?_)))))))))))
         exact⟨((k_7:Nat):Int),σ11,rfl,hP,hS47,hsub11⟩
        ·
         replace hP:=hP.1 ht7
         refine wp_skip (j5u (Qp (z04 (j5t (r:=((k_7+1:Nat):Int)) rfl rfl (nw (by omega) (by omega) (by have:=hlen6;omega)) (Q5 (v:=(.int .i64 ((k_7+1:Nat):Int))) rfl (wpList_nil (Qp ?_)))))))
         exact⟨k_7+1,_,rfl,hP,σ11,_,(Zm rfl (Zm rfl (Zm rfl (Zm rfl rfl)))),hS47,hsub11⟩
       ·
        replace hP:=hP.2 ht6
        refine wp_exit (q76 (q76 (z3w (Qp (Qt (Qv (v:=(.int .i64 (-1:Int))) rfl (wpList_nil (Qp (wp_ret (ret1 rfl (show ev _ _ _=(.int .i64 (-1:Int)) from rfl) ?_))))))))))
        exact⟨(-1:Int),σ11,rfl,hP,hS47,hsub11⟩
      ·
       rintro _ w23 ⟨r_2,σ10,rfl,hY4,hS48,hsub10⟩
       refine⟨_,rfl,?_⟩
       replace hP:=hK5 r_2 hY4
       refine w7y (r:=(decide ((0:Int)<=r_2))) rfl rfl rfl (Qv (v:=(.bool (decide ((0:Int)<=r_2)))) rfl (wpList_nil (Qp (wp_ret (ret1 rfl (show ev _ _ _=(.bool (decide ((0:Int)<=r_2))) from rfl) ?_)))))
       refine⟨_,rfl,?_⟩
       refine w0z (r:=(!decide ((0:Int)<=r_2))) rfl rfl (Qv (v:=(.bool (!decide ((0:Int)<=r_2)))) rfl (wpList_nil (Qp (wp_ret (ret1 rfl (show ev _ _ _=(.bool (!decide ((0:Int)<=r_2))) from rfl) ?_)))))
       refine⟨_,rfl,?_⟩
       refine wpList_nil (Qp ?_)
       refine w70 ((0:Int)<=r_2) rfl (fun ht8=> ?_) (fun ht8=> ?_)
       ·
        replace hP:=hP.2 ht8
        refine Qt (Q5 (v:=(.int .i64 ((k_5:Nat):Int))) rfl (Qv (v:=(.int .i64 ((k_5:Nat):Int))) rfl (wpList_nil (Qp (wp_ret (z2m (Gi (Gi (z2m (Gi (ret1 rfl (show ev _ _ _=(.int .i64 ((k_5:Nat):Int)) from rfl) ?_)))))))))))
        exact⟨((k_5:Nat):Int),σ10,rfl,hP,hS48,(Sub.trans hsub9 hsub10)⟩
       ·
        replace hP:=hP.1 ht8
        refine wp_skip (j5u (Qp (z04 (j5t (r:=((k_5+1:Nat):Int)) rfl rfl (nw (by omega) (by omega) (by have:=hlen4;omega)) (Q5 (v:=(.int .i64 ((k_5+1:Nat):Int))) rfl (wpList_nil (Qp ?_)))))))
        exact⟨k_5+1,_,rfl,hP,σ10,_,(Zm rfl (Zm rfl (Zm rfl (Zm rfl rfl)))),hS48,(Sub.trans hsub9 hsub10)⟩
     ·
      replace hP:=hP.2 ht5
      refine wp_exit (q76 (q76 (z3w (Qp (Qt (Qv (v:=(.int .i64 (-1:Int))) rfl (wpList_nil (Qp (wp_ret (ret1 rfl (show ev _ _ _=(.int .i64 (-1:Int)) from rfl) ?_))))))))))
      exact⟨(-1:Int),σ9,rfl,hP,hS46,hsub9⟩
    ·
     rintro _ w24 ⟨r_1,σ8,rfl,hY5,hS49,hsub8⟩
     refine⟨_,rfl,?_⟩
     replace hP:=hK4 r_1 hY5
     refine Qv (v:=(.int .i64 r_1)) rfl (wpList_nil (Qp (wp_seq (Qt (Q5 (v:=(.int .i64 r_1)) rfl (j6z (r:=(decide (r_1<(0:Int)))) rfl rfl rfl (wpList_nil (Qp ?_))))))))
     refine if_d (r_1<(0:Int)) rfl (fun ht9=> ?_) (fun ht9=> ?_)
     ·
      replace hP:=hP.1 ht9
      refine Qt (Qv (v:=(.slice none 0 0)) rfl (Qv (v:=(.int .i64 (12:Int))) rfl (wpList_nil (Qp (wp_ret (Gi (z2m (Gi (z2m (Gi (ret2 rfl (show ev _ _ _=(.slice none 0 0) from rfl) (show ev _ _ _=(.int .i64 (12:Int)) from rfl) ?_)))))))))))
      have hS50:=hS49.addNil 9 1
      exact⟨[],(12:Int),(.slice none 0 0),rfl,(St.back (hS50.keep 1 (ms':=[vec (.slice none 0 0) 9 1 0 []]) rfl) (Sub.refl _)),(by simp[Sml]),hP⟩
     ·
      replace hP:=hP.2 ht9
      refine wp_skip (Qp (Qt (Q5 (v:=v14) rfl (Q5 (v:=v13) rfl (Q5 (v:=(.int .i64 r_1)) rfl ?_)))))
      obtain⟨j1_,hj1,hP⟩:=hP
      obtain⟨x4_,hx4,hP⟩:=hP
      obtain⟨g2,cp2,hv3⟩:=z8i (hS49.get (i:=0) rfl) (Qj hx4)
      refine U1 (k:=j1_) (a':=⟨g2,j1_*1,none⟩) hv3 rfl hj1 (Qj hx4) Tryz.underlying55 Tryz.sizeOf9 (by simp[Wh]) (q1w (v:=(.string x4_)) rfl Tryz.isAgg9 (z34 Bz (j:=0) hv3 (hS49.get (i:=0) rfl) hx4 rfl) (z3c (cs:=[(.string x4_)]) (e:=9) hS49 (fun _=>by kernel_rfl) ?_))
      intro b8 w25 hS51
      obtain⟨hsm4,hP⟩:=hP
      refine w41 (Ms:=fun v16=>[blk b8 9 [(.string x4_)],vec v13 9 1 left_3.length ((left_3).flatMap Qg),vec v16 9 1 ((out_3++[x4_]).length) ((out_3++[x4_]).flatMap Qg),emap b6 (fun y:Bool=>(Value.bool (y))) F_4,blk b7 177 [(.map (some b6))],blk b3 335 [(.map (some b2))],vec v6 9 1 ((cpt r1_).length) ((cpt r1_).flatMap Qg)]) (k':=(out_3++[x4_]).length) (xs':=(out_3++[x4_]).flatMap Qg) Tryz.underlying55 Tryz.type9 rfl rfl (bytes:=16) rfl rfl (Nat.succ_pos _) hS51 rfl (q:=2) rfl rfl rfl (q3e (hS51.get (i:=0) rfl)) (ones rfl) hsm4 (by omega) (by first|rfl|exact List.length_append.symm|simp) (by simp[Qg]) (fun _=>rfl) ?_
      intro v16 w26 ho12 hS52
      have hS53:=hS52.drop 0 (ms':=[vec v13 9 1 left_3.length ((left_3).flatMap Qg),vec v16 9 1 ((out_3++[x4_]).length) ((out_3++[x4_]).flatMap Qg),emap b6 (fun y:Bool=>(Value.bool (y))) F_4,blk b7 177 [(.map (some b6))],blk b3 335 [(.map (some b2))],vec v6 9 1 ((cpt r1_).length) ((cpt r1_).flatMap Qg)]) rfl
      refine Qv (v:=v16) rfl (wpList_nil (Qp (wp_seq (dr (fun z=>St ⟨w,σ,[]⟩ z σ8 [vec v13 9 1 left_3.length ((left_3).flatMap Qg),vec v16 9 1 ((out_3++[x4_]).length) ((out_3++[x4_]).flatMap Qg),blk b7 177 [(.map (some b6))],blk b3 335 [(.map (some b2))],vec v6 9 1 ((cpt r1_).length) ((cpt r1_).flatMap Qg)]) (by kernel_rfl) rfl ?_))))
      have hS54:=hS53.drew
      refine dt 0 1 (v:=(.map (some b6))) (by kernel_rfl) rfl rfl (fun _ _ _ h=>h) (hS54.sublist (.cons_cons _ (.cons_cons _ (.cons _ (List.Sublist.refl _))))) (fun _ hJ _ hK=>q1w (v:=(.map (some b6))) rfl Tryz.isAgg177 (hJ.cell (i:=2) rfl rfl) ⟨rfl,hK⟩) (dt 1 3 (v:=v13) (by kernel_rfl) rfl rfl (fun _ _ _ h=>h) (hS54.sublist (.cons_cons _ (.cons_cons _ (.cons _ (List.Sublist.refl _))))) (fun _ _ _ hK=>Q5 (v:=v13) rfl ⟨rfl,hK⟩) (dt 2 7 (v:=(.int .i64 r_1)) (by kernel_rfl) rfl rfl (fun _ _ _ h=>h) (hS54.sublist (.cons_cons _ (.cons_cons _ (.cons _ (List.Sublist.refl _))))) (fun _ _ _ hK=>Q5 (v:=(.int .i64 r_1)) rfl ⟨rfl,hK⟩) ?_))
      obtain⟨j2_,hj2,hP⟩:=hP
      obtain⟨x5_,hx5,hP⟩:=hP
      obtain⟨g3,cp3,hv4⟩:=z8i (hS54.get (i:=0) rfl) (Qj hx5)
      refine dt 3 15 (v:=(.pointer (some ⟨g3,j2_*1,none⟩))) (by kernel_rfl) rfl rfl (fun _ _ _ h=>h) (hS54.sublist (.cons_cons _ (.cons_cons _ (.cons _ (List.Sublist.refl _))))) (fun _ _ _ hK=>U1 (k:=j2_) (a':=⟨g3,j2_*1,none⟩) hv4 rfl hj2 (Qj hx5) Tryz.underlying55 Tryz.sizeOf9 (by simp[Wh]) ⟨rfl,hK⟩) (dt 4 31 (v:=(.string x5_)) (by kernel_rfl) rfl rfl (fun _ _ _ h=>h) (hS54.sublist (.cons_cons _ (.cons_cons _ (.cons _ (List.Sublist.refl _))))) (fun _ hJ _ hK=>q1w (v:=(.string x5_)) rfl Tryz.isAgg9 (z34 Bz (j:=0) hv4 (hJ.get (i:=0) rfl) hx5 rfl) ⟨rfl,hK⟩) (d1 5 63 (by kernel_rfl) rfl (w75 (y0:=true) (i:=2) (ms':=[vec v13 9 1 left_3.length ((left_3).flatMap Qg),vec v16 9 1 ((out_3++[x4_]).length) ((out_3++[x4_]).flatMap Qg),emap b6 (fun y:Bool=>(Value.bool (y))) (put F_4 x5_ true),blk b7 177 [(.map (some b6))],blk b3 335 [(.map (some b2))],vec v6 9 1 ((cpt r1_).length) ((cpt r1_).flatMap Qg)]) hS54 rfl rfl rfl rfl Tryz.underlying177 Tryz.underlying9 rfl ?_)))
      intro w27 hS55
      refine wpList_nil ?_
      refine⟨rfl,(hS55.sublist (.cons_cons _ (.cons_cons _ (.cons _ (List.Sublist.refl _))))),z3d (J':=fun z=>St ⟨w,σ,[]⟩ z σ8 [vec v13 9 1 left_3.length ((left_3).flatMap Qg),vec v16 9 1 ((out_3++[x4_]).length) ((out_3++[x4_]).flatMap Qg),emap b6 (fun y:Bool=>(Value.bool (y))) (put F_4 x5_ true),blk b7 177 [(.map (some b6))],blk b3 335 [(.map (some b2))],vec v6 9 1 ((cpt r1_).length) ((cpt r1_).flatMap Qg)]) (fun w h=>h.sublist (.cons_cons _ (.cons_cons _ (.cons _ (List.Sublist.refl _))))) _ _ _ _ ?_⟩
      refine dz (by kernel_rfl) (Qp (z04 (Q5 (v:=v13) rfl (Q5 (v:=(.int .i64 r_1)) rfl (Q5 (v:=(.int .i64 r_1)) rfl ?_)))))
      obtain⟨hi1,hP⟩:=hP
      refine j5t (r:=(r_1+(1:Int))) rfl rfl (nwi rfl hi1) ?_
      obtain⟨j3_,hj3,hP⟩:=hP
      obtain⟨hd1,hP⟩:=hP
      obtain⟨hd2,hP⟩:=hP
      obtain⟨hsm5,hP⟩:=hP
      have hd3:r_1=((j3_:Nat):Int)/\(r_1+(1:Int))=((j3_+1:Nat):Int):=⟨by omega,by omega⟩
      refine q2v (args:=[v13,(.int .i64 ((j3_:Nat):Int)),(.int .i64 ((j3_+1:Nat):Int))]) (by rw[←hd3.1,←hd3.2];rfl) Tryz.call232 (Calls.mono (j5w (i:=j3_) (j:=(j3_+1)) Tryz.slices_Delete_string hS55.view (hS55.get (i:=0) rfl) (fun b hb=>hS55.off _ (List.mem_of_getElem? (i:=0) rfl) b hb) (by omega) hd2 hd1) ?_)
      rintro _ w28 ⟨v17,rfl,hf2,hg7,ho13⟩
      refine⟨_,rfl,?_⟩
      have ho14:=Gj ho13
      have hS56:=hS55.growV (i:=0) (o':=vec v17 9 1 ((left_3.take j3_++left_3.drop (j3_+1)).length) ((left_3.take j3_++left_3.drop (j3_+1)).flatMap Qg)) rfl hg7 hf2 ho13 (ms':=[vec v17 9 1 ((left_3.take j3_++left_3.drop (j3_+1)).length) ((left_3.take j3_++left_3.drop (j3_+1)).flatMap Qg),vec v16 9 1 ((out_3++[x4_]).length) ((out_3++[x4_]).flatMap Qg),emap b6 (fun y:Bool=>(Value.bool (y))) (put F_4 x5_ true),blk b7 177 [(.map (some b6))],blk b3 335 [(.map (some b2))],vec v6 9 1 ((cpt r1_).length) ((cpt r1_).flatMap Qg)]) rfl
      refine Qv (v:=v17) rfl (wpList_nil (j5u (Qp ?_)))
      exact⟨left_3.take j3_++left_3.drop (j3_+1),out_3++[x4_],put F_4 x5_ true,_,rfl,hP,v17,v16,σ8,_,(Zm rfl (Zm rfl (Zm rfl (Zm rfl rfl)))),hS56,(Sub.trans hsub7 hsub8),ho14,hsm5,ho12,hsm4⟩
   ·
    replace hP:=hP.2 ht4
    refine wp_exit (q76 (q76 (z3w (Qp (Qt (Q5 (v:=v14) rfl (Qv (v:=v14) rfl (Qv (v:=(.int .i64 (0:Int))) rfl (wpList_nil (Qp (wp_ret (ret2 rfl (show ev _ _ _=v14 from rfl) (show ev _ _ _=(.int .i64 (0:Int)) from rfl) ?_))))))))))))
    have hS57:=hS45.front 1 rfl (ms':=[vec v14 9 1 out_3.length ((out_3).flatMap Qg),vec v13 9 1 left_3.length ((left_3).flatMap Qg),emap b6 (fun y:Bool=>(Value.bool (y))) F_4,blk b7 177 [(.map (some b6))],blk b3 335 [(.map (some b2))],vec v6 9 1 ((cpt r1_).length) ((cpt r1_).flatMap Qg)]) rfl
    exact⟨out_3,(0:Int),v14,rfl,(St.back (hS57.keep 1 (ms':=[vec v14 9 1 out_3.length ((out_3).flatMap Qg)]) rfl) (Sub.refl _)),hl9,hP⟩
end Go.Proofs.YtjepffgpbidclaaGreatDoor
end
noncomputable section
set_option maxRecDepth 100000
open Go Go.RowKit Go.Fl Go.Fl.Lk Go.Fx
namespace Go.En
theorem z3p{σ:Hv}{w:World}{g:Nat}{T:C}{n:Nat}{l:List (car T)}(hV:View σ w)(hs:SRep D (fun _=>none) σ (.pointer (some ⟨g,0,none⟩)) (.fap T n l)){i j:Nat}{x:car T}{s:FV Sg}(hx:l[i]? =some x)(hj:(D.shape T x)[j]? =some s)(hz:j<D.size T):
  ∃v,w.cell? ⟨g,i*D.size T+j,none⟩=some v/\RepF D σ v s:=by
 generalize hq:Value.pointer (some (⟨g,0,none⟩:Addr))=q at hs
 cases hs with
 |fap ad cs T' N l' hN h hl hr=>
  cases hq
  have hrow:=hr i x hx
  have hlen:=okP.ok.len T x
  have hjl:j<((cs.drop (i*D.size T)).take (D.size T)).length:=by rw[hrow.1,hlen];exact hz
  obtain⟨v,hv⟩: ∃v,((cs.drop (i*D.size T)).take (D.size T))[j]? =some v:=⟨_,List.getElem?_eq_getElem hjl⟩
  refine⟨v,?_,hrow.2 j v s hv hj⟩
  rw[List.getElem?_take,if_pos hz,List.getElem?_drop] at hv
  have:=hV.cell (h _ v hv)
  rw[Wh,Nat.zero_add] at this
  exact this
theorem w2l: ∀c,c<256->j4y[c]? =some ((Go.Lib.firstT c:Nat):Int):=by decide
theorem w8y: ∀i,i<16->(z4q[i]?).map (fun a=>(a.lo,a.hi))=some (((Go.Lib.accLo i:Nat):Int),((Go.Lib.accHi i:Nat):Int)):=by decide
theorem tabs{σ:Hv}{w:World}(hV:View σ w)(hG:Glb D σ):Go.Lib.Utf8Tabs (Proofs.Tryz.lays196_ren.g 3) (Proofs.Tryz.lays196_ren.g 4) w:=by
 refine⟨fun c hc=> ?_,fun i hi=> ?_⟩
 ·have h:=hG.known (Proofs.Tryz.lays196_ren.g 3)
  obtain⟨v,h1,h2⟩:=z3p (T:= .u8) (n:=256) (l:=j4y) hV h (i:=c) (j:=0) (s:= .int .u8 ((Go.Lib.firstT c:Nat):Int)) (w2l c hc) rfl (by decide)
  cases h2
  simpa [show D.size C.u8=1 from rfl] using h1
 ·have h:=hG.known (Proofs.Tryz.lays196_ren.g 4)
  have ha:=w8y i hi
  obtain⟨a,e1,e2⟩:=Option.map_eq_some_iff.1 ha
  obtain⟨v,h1,h2⟩:=z3p (T:= .acc) (n:=16) (l:=z4q) hV h (i:=i) (j:=0) (s:= .int .u8 a.lo) e1 rfl (by decide)
  obtain⟨v',h1',h2'⟩:=z3p (T:= .acc) (n:=16) (l:=z4q) hV h (i:=i) (j:=1) (s:= .int .u8 a.hi) e1 rfl (by decide)
  cases h2;cases h2'
  simp only[Prod.mk.injEq] at e2
  rw[e2.1] at h1;rw[e2.2] at h1'
  refine⟨by rw[Nat.mul_comm];simpa [show D.size C.acc=2 from rfl] using h1,by rw[Nat.mul_comm];simpa [show D.size C.acc=2 from rfl] using h1'⟩
theorem j3e{w w':World}(h:Below w.heap.size w w'):Keeps [] w w':=⟨h.os,h.tape,h.output,h.size,fun k hk _=>h.block k hk⟩
theorem q4d{σ:Hv}{w w1:World}{args:List (Tr Sg)}{vals:List Value}{K:List (Tr Sg)->List (Tr Sg)->Prop}{rets outs:List (Tr Sg)}{rv:List Value}(hS:St ⟨w,σ,feet []⟩ w σ [])(hK:K rets outs)(hb:Below w.heap.size w w1)(hL:LayL D σ rets rv [])(hT:LayT D σ args outs vals [] []):
  Back D σ w args vals [] K (.returned (retV rv)) w1:=by
 have hk:=j3e hb
 refine⟨rets,outs,rv,σ,[],[],rfl,hK,hL,hT,?_⟩
 refine⟨hk,fun b o hbo=> ?_,Sub.refl _,fun _ _ _=>rfl,by simp,by simp,by simp,by simp⟩
 have h1:=hS.view b o hbo
 have hlt:b<w.heap.size:=by
  rcases Nat.lt_or_ge b w.heap.size with h|h
  ·exact h
  ·rw[Array.getElem?_eq_none h] at h1;cases h1
 rw[hk.block b hlt (by simp)];exact h1
theorem q91:q4a Proofs.Tryz.prog D 262 (conV ([.v]:LP) ([.str]:LV) ([.bool]:LV) ([.same]:LV) (fun a K=>Wn a.1 (fun q0=>K (q0,()) ((),())))):=by
 intro args K hm w σ vals ins hG hL hS
 obtain⟨a,ha,hm⟩:=Qh hm
 have hargs:=J1 ha
 subst hargs
 obtain⟨s,_⟩:=a
 cases hL with
 |cons hp hr=>
 cases hr
 cases hp with
 |f hf=>
 cases hf
 have hm:s.size<=9223372036854775807/\K [.f (.bool (Go.Lib.validD s.data.toList))] [.same]:=hm
 refine Calls.mono (Go.Proofs.Any.utf8_ValidString Proofs.Tryz.lays196 s w hm.1 (tabs hS.view hG)) ?_
 rintro e w' ⟨rfl,hb⟩
 exact q4d (rv:=[.bool (Go.Lib.validD s.data.toList)]) hS hm.2 hb (.cons (ms:=[]) (.f (.bool _)) .nil) (.skip (a0:=[]) .nil)
theorem q92:q4a Proofs.Tryz.prog D 188 (conV ([.v,.v]:LP) ([.str,.str]:LV) ([.bool]:LV) ([.same,.same]:LV) (fun a K=>Rb a.1 a.2.1 (fun q0=>K (q0,()) ((),(),())))):=by
 intro args K hm w σ vals ins hG hL hS
 obtain⟨a,ha,hm⟩:=Qh hm
 have hargs:=J1 ha
 subst hargs
 obtain⟨s,t,_⟩:=a
 cases hL with
 |cons hp hr=>
 cases hr with
 |cons hq hr=>
 cases hr
 cases hp with
 |f hf=>
 cases hf
 cases hq with
 |f hf=>
 cases hf
 have hm:s.size<4294967281/\K [.f (.bool (Go.Lib.contains s.data.toList t.data.toList))] [.same,.same]:=hm
 obtain⟨n,hn⟩:=hG.free 2 .i64 rfl
 refine Calls.mono (Proofs.Tryz.strings_Contains s t n w hm.1 (hS.view.cell hn)) ?_
 rintro e w' ⟨rfl,rfl⟩
 exact q4d (rv:=[.bool (Go.Lib.contains s.data.toList t.data.toList)]) hS hm.2 (Below.refl _ _) (.cons (ms:=[]) (.f (.bool _)) .nil) (.skip (a0:=[]) (.skip (a0:=[]) .nil))
theorem z6s:q4a Proofs.Tryz.prog D 265 (conV ([.v]:LP) ([.str]:LV) ([.int .i64,.ifc]:LV) ([.same]:LV) (fun a K=>Bq a.1 (fun q0 q1=>K (q0,q1,()) ((),())))):=by
 intro args K hm w σ vals ins hG hL hS
 obtain⟨a,ha,hm⟩:=Qh hm
 have hargs:=J1 ha
 subst hargs
 obtain⟨s,_⟩:=a
 cases hL with
 |cons hp hr=>
 cases hr
 cases hp with
 |f hf=>
 cases hf
 have hm:s.size<=281474976710656/\w2k s (fun n b=>K [.f (.int .i64 n),.f (.ifc b)] [.same]):=hm
 obtain⟨hsz,hm⟩:=hm
 have err: ∀g:Nat,D.glob g= .fptr [.ifc false] 0-> ∃ev,w.cell? ⟨g,0,none⟩=some ev/\(ev= .nilIface∨ ∃te pe,ev= .iface te pe):=by
  intro g hg
  have h:=hG.known g
  rw[hg] at h
  generalize hq:Value.pointer (some (⟨g,0,none⟩:Addr))=q at h
  cases h with
  |fptr ad cs l off hv hr=>
  cases hq
  obtain⟨v,hvl⟩: ∃v,cs=[v]:=List.length_eq_one_iff.1 hr.1
  subst hvl
  have hc:=hS.view.cell (hv 0 v rfl)
  have hR:=hr.2 0 v _ rfl rfl
  refine⟨v,?_,?_⟩
  ·rw[Wh] at hc;exact hc
  ·cases hR with
   |ifcS t p=>exact .inr ⟨t,p,rfl⟩
 unfold w2k at hm
 split at hm
 ·rename_i v hv
  refine Calls.mono (Proofs.Tryz.strconv_Atoi_ok s (by omega) v hv w) ?_
  rintro e w' ⟨rfl,hw⟩
  have hb:Below w.heap.size w w':=by
   rcases hw with rfl|⟨t,rfl⟩
   ·exact Below.refl _ _
   ·exact Go.Lib.bytesWorld_below _ _ _
  exact q4d (rv:=[.int .i64 v,.nilIface]) hS hm hb (.cons (ms:=[]) (.f (.int _ _)) (.cons (ms:=[]) (.f .ifcN) .nil)) (.skip (a0:=[]) .nil)
 ·rename_i hv
  obtain⟨ev,h1,h2⟩:=err 6 rfl
  refine Calls.mono (Proofs.Tryz.strconv_Atoi_range s hsz hv ev w h1 h2) ?_
  rintro e w' ⟨N,rfl,_,_,hb⟩
  exact q4d (rv:=[.int .i64 _,.iface _ _]) hS hm hb (.cons (ms:=[]) (.f (.int _ _)) (.cons (ms:=[]) (.f (.ifcS _ _)) .nil)) (.skip (a0:=[]) .nil)
 ·rename_i hv
  obtain⟨ev,h1,h2⟩:=err 5 rfl
  refine Calls.mono (Proofs.Tryz.strconv_Atoi_syntax s hsz hv ev w h1 h2) ?_
  rintro e w' ⟨N,rfl,_,_,hb⟩
  exact q4d (rv:=[.int .i64 _,.iface _ _]) hS hm hb (.cons (ms:=[]) (.f (.int _ _)) (.cons (ms:=[]) (.f (.ifcS _ _)) .nil)) (.skip (a0:=[]) .nil)
theorem q7q(l:List ByteArray):l.flatMap Qg=l.map Value.string:=by
 induction l with
 |nil=>rfl
 |cons a l ih=>rw[List.flatMap_cons,List.map_cons,ih];rfl
theorem w8z(l:List ByteArray):(cpt l).length<=l.length:=by
 unfold cpt Go.Lib.compact
 rw[List.length_map]
 have h: ∀(d:Array (List UInt8)) (m:Nat),(Go.Lib.compactUpTo d m).length<=m:=by
  intro d m
  unfold Go.Lib.compactUpTo
  rw[List.length_map]
  exact Nat.le_trans (List.length_filter_le _ _) (by simp)
 simpa using h _ _
theorem j85{σ:Hv}{xs:List Value}{l:List ByteArray}(h:Els D σ C.str xs l):xs=l.flatMap Qg:=by
 have h1:xs.length=l.length:=by rw[h.1];exact Nat.mul_one _
 rw[q7q]
 refine List.ext_getElem? fun i=> ?_
 rw[List.getElem?_map]
 rcases Nat.lt_or_ge i l.length with hi|hi
 ·obtain⟨v,hv⟩: ∃v,xs[i]? =some v:=⟨_,List.getElem?_eq_getElem (by omega)⟩
  obtain⟨x,hx⟩: ∃x,l[i]? =some x:=⟨_,List.getElem?_eq_getElem hi⟩
  have hR:=(h.2 i x hx).2 0 v (.str x) (by rw[show D.size C.str=1 from rfl,Nat.mul_one,List.getElem?_take,if_pos (by decide),List.getElem?_drop];exact hv) rfl
  rw[hv,hx]
  cases hR
  rfl
 ·rw[List.getElem?_eq_none (by omega),List.getElem?_eq_none hi];rfl
theorem z44(σ:Hv)(l:List ByteArray):Els D σ C.str (l.flatMap Qg) l:=by
 rw[q7q]
 refine⟨by rw[List.length_map];exact (Nat.mul_one _).symm,fun i x hx=> ?_⟩
 rw[show D.size C.str=1 from rfl,Nat.mul_one]
 have hx:l[i]? =some x:=hx
 have e:((l.map Value.string).drop i).take 1=[.string x]:=by
  rw[←List.map_drop,List.drop_eq_getElem_cons (List.getElem?_eq_some_iff.1 hx).1,(List.getElem?_eq_some_iff.1 hx).2];rfl
 rw[e]
 refine⟨rfl,fun j v s hj hs=> ?_⟩
 cases j with
 |zero=>cases hj;cases hs;exact .str x
 |succ j=>cases hj
theorem q09:q4a Proofs.Tryz.prog D 93 (conV ([.own 9 C.str]:LP) ([.vec 9 C.str]:LV) ([]:LV) ([.vec 9 C.str]:LV) (fun a K=>Z0 a.1 (fun q0=>K () (q0,())))):=by
 intro args K hm w σ vals ins hG hL hS
 obtain⟨a,ha,hm⟩:=Qh hm
 have hargs:=J1 ha
 subst hargs
 obtain⟨s,_⟩:=a
 cases hL with
 |cons hp hr=>
 cases hr
 cases hp with
 |vec hE hl h1=>
 have hx:=j85 hE
 subst hx
 have hm:K [] [.vec 9 C.str (srt s)]:=hm
 refine Calls.mono (j38 Proofs.Tryz.slices_Sort_string Proofs.Tryz.slices_Sort_string_none hS.view (hS.get (i:=0) rfl) rfl (fun b hb=>hS.off _ (List.mem_of_getElem? (i:=0) rfl) b hb) (by omega)) ?_
 rintro _ w1 ⟨rfl,hg,ho⟩
 have hS1:=hS.growV (i:=0) (o':=vec _ 9 1 s.length ((srt s).flatMap Qg)) rfl hg rfl ho (ms':=[vec _ 9 1 s.length ((srt s).flatMap Qg)]) rfl
 refine⟨[],_,[],σ,[],[vec _ 9 1 (srt s).length ((srt s).flatMap Qg)],rfl,hm,.nil,.keep (.vec (z44 σ _) (Nat.le_trans (Nat.le_of_eq (Jb _)) hl) h1) .nil,?_⟩
 have e:(srt s).length=s.length:=Jb _
 rw[e];exact hS1
theorem Bg:q4a Proofs.Tryz.prog D 94 (conV ([.own 9 C.str]:LP) ([.vec 9 C.str]:LV) ([.vec 9 C.str]:LV) ([.same]:LV) (fun a K=>Jd a.1 (fun q0=>K (q0,()) ((),())))):=by
 intro args K hm w σ vals ins hG hL hS
 obtain⟨a,ha,hm⟩:=Qh hm
 have hargs:=J1 ha
 subst hargs
 obtain⟨s,_⟩:=a
 cases hL with
 |cons hp hr=>
 cases hr
 cases hp with
 |vec hE hl h1=>
 have hx:=j85 hE
 subst hx
 have hm:K [.vec 9 C.str (cpt s)] [.same]:=hm
 refine Calls.mono (z33 Proofs.Tryz.slices_Compact_string Proofs.Tryz.slices_Compact_string_empty hS.view (hS.get (i:=0) rfl) rfl (fun b hb=>hS.off _ (List.mem_of_getElem? (i:=0) rfl) b hb) (by omega)) ?_
 rintro _ w1 ⟨v1,rfl,hf,hg,ho⟩
 have hlc:(cpt s).length<=140737488355328:=Nat.le_trans (w8z _) hl
 have hS1:=hS.growV (i:=0) (o':=vec v1 9 1 (cpt s).length ((cpt s).flatMap Qg)) rfl hg hf ho (ms':=[vec v1 9 1 (cpt s).length ((cpt s).flatMap Qg)]) rfl
 exact⟨[.vec 9 C.str (cpt s)],[.same],[v1],σ,[vec v1 9 1 (cpt s).length ((cpt s).flatMap Qg)],[],rfl,hm,.cons (.vec (z44 σ _) hlc (Gj ho)) .nil,.skip .nil,hS1⟩
theorem w6h{σ:Hv}{v:Value}{l:List ByteArray}(h:RepF D σ v (.sl C.str l)):RSl 1 (REnc Qg) σ v l:=by
 obtain⟨a,cap,e1,e2,e3,e4⟩:=h.toRSl okP.ok
 refine⟨a,cap,e1,e2,e3,fun i x hx=> ?_⟩
 obtain⟨ad,cs,f1,f2,f3,f4⟩:=e4 i x hx
 refine⟨ad,cs,f1,f2,f3,?_⟩
 obtain⟨u,rfl⟩: ∃u,cs=[u]:=List.length_eq_one_iff.1 f2
 have g1:=f4.2 0 u (.str x) rfl rfl
 cases g1
 rfl
theorem w2m{σ:Hv}{v:Value}{l:List Edg}(h:RepF D σ v (.sl C.edge l)):RSl 2 (REnc w77) σ v (l.map fun e=>(e.1,e.2)):=by
 obtain⟨a,cap,e1,e2,e3,e4⟩:=h.toRSl okP.ok
 have hl:(l.map fun e=>(e.1,e.2)).length=l.length:=List.length_map ..
 refine⟨a,cap,by rw[hl];exact e1,by rw[hl];exact e2,by rw[hl];exact e3,fun i x hx=> ?_⟩
 rw[List.getElem?_map] at hx
 obtain⟨y,hy,rfl⟩:=Option.map_eq_some_iff.1 hx
 obtain⟨ad,cs,f1,f2,f3,f4⟩:=e4 i y hy
 refine⟨ad,cs,f1,f2,f3,?_⟩
 obtain⟨u,v,rfl⟩: ∃u v,cs=[u,v]:=by
  match cs,f2 with
  |[u,v],_=>exact⟨u,v,rfl⟩
 have g1:=f4.2 0 u (.str y.src) rfl rfl
 have g2:=f4.2 1 v (.str y.dst) rfl rfl
 cases g1;cases g2
 rfl
theorem z81:q4a Proofs.Tryz.prog D 191 (conV ([.sl C.str,.sl C.edge]:LP) ([.sl C.str,.sl C.edge]:LV) ([.vec 9 C.str,.int .i64]:LV) ([.same,.same]:LV) (fun a K=>P_graph_Order a.1 a.2.1 (fun q0 q1=>K (q0,q1,()) ((),(),())))):=by
 intro args K hm w σ vals ins hG hL hS
 obtain⟨a,ha,hm⟩:=Qh hm
 have hargs:=J1 ha
 subst hargs
 obtain⟨s,t,_⟩:=a
 cases hL with
 | @cons _ _ v1 _ _ _ hp hr=>
 cases hr with
 | @cons _ _ v2 _ _ _ hq hr=>
 cases hr
 cases hp with
 |f hf1=>
 cases hq with
 |f hf2=>
 have hm:Go.Fl.P_graph_Order s (t.map fun e=>(e.1,e.2)) (fun l n=>K [.vec 9 C.str l,.f (.int .i64 n)] [.same,.same]):=hm
 refine Calls.mono (Go.Proofs.YtjepffgpbidclaaGreatDoor.w_graph_Order s (t.map fun e=>(e.1,e.2)) v1 v2 hS.view (w6h hf1) (w2m hf2) hm) ?_
 rintro e w1 ⟨l,n,v,rfl,hS1,hsm,hK⟩
 have hl:l.length<=140737488355328:=by unfold Sml at hsm;omega
 exact⟨[.vec 9 C.str l,.f (.int .i64 n)],[.same,.same],[v,.int .i64 n],σ,[vec v 9 1 l.length (l.flatMap Qg)],[],rfl,hK,.cons (.vec (z44 σ _) hl (Gj (hS1.get (i:=0) rfl))) (.cons (ms:=[]) (.f (.int _ _)) .nil),.skip (a0:=[]) (.skip (a0:=[]) .nil),hS1⟩
theorem z45:q4a Proofs.Tryz.prog D 245 (conV ([.v,.v]:LP) ([.str,.str]:LV) ([.vec 9 C.str]:LV) ([.same,.same]:LV) (fun a K=>q18 a.1 a.2.1 (fun q0=>K (q0,()) ((),(),())))):=by
 intro args K hm w σ vals ins hG hL hS
 obtain⟨a,ha,hm⟩:=Qh hm
 have hargs:=J1 ha
 subst hargs
 obtain⟨s,t,_⟩:=a
 cases hL with
 |cons hp hr=>
 cases hr with
 |cons hq hr=>
 cases hr
 cases hp with
 |f hf=>
 cases hf
 cases hq with
 |f hf=>
 cases hf
 have hm:t.size=1/\s.size<4294967281/\K [.vec 9 C.str (Hq s t)] [.same,.same]:=hm
 obtain⟨h1,hsz,hm⟩:=hm
 obtain⟨n,hn⟩:=hG.free 2 .i64 rfl
 have hlen:(Hq s t).length=Go.Lib.countB s t+1:=Go.Lib.splitB_all t (by omega) 0 _ s rfl
 have hcnt:=Go.Lib.countB_le t (by omega) s.size s (Nat.le_refl _)
 refine Calls.mono (Proofs.Tryz.strings_Split s t n w hsz (hS.view.cell hn) (by omega)) ?_
 rintro e w' ⟨rfl,rfl⟩
 have ho:(vec (.slice (some ⟨w.heap.size,0,none⟩) (Hq s t).length (Hq s t).length) 9 1 (Hq s t).length ((Hq s t).flatMap Qg)).ok (w.alloc (.cells ((Hq s t).map Value.string).toArray 9)):=by
  refine⟨by rw[q7q];simp,.inr ⟨w.heap.size,_,_,rfl,Nat.zero_le _,heap_alloc_new _ _,Nat.le_refl _,by unfold maxLen;omega,by simp,?_⟩⟩
  rw[q7q,Nat.mul_one]
  exact List.take_of_length_le (by rw[List.length_map];exact Nat.le_refl _)
 have hS1:=hS.add (Jp w _) ho (by rintro k ⟨⟩;exact Nat.le_refl _)
 have hl:(Hq s t).length<=140737488355328:=by omega
 have hr:=(⟨[.vec 9 C.str (Hq s t)],[.same,.same],[_],σ,[_],[],rfl,hm,.cons (.vec (z44 σ _) hl (Gj ho)) .nil,.skip (a0:=[]) (.skip (a0:=[]) .nil),hS1⟩:Back D σ w [.f (.str s),.f (.str t)] [.string s,.string t] [] K (.returned (retV [.slice (some ⟨w.heap.size,0,none⟩) (Hq s t).length (Hq s t).length])) (w.alloc (.cells ((Hq s t).map Value.string).toArray 9)))
 rw[hlen] at hr
 exact hr
theorem v0u: ∀c,c<256->j4z[c]? =some (if Go.Lib.isSp (UInt8.ofNat c) then (1:Int) else 0):=by decide
theorem j86: ∀(ws:Bool) (l:List UInt8),Go.Lib.cntF ws l<=l.length
 |_,[]=>by simp[Go.Lib.cntF]
 |ws,b::l=>by
  have:=j86 (Go.Lib.isSp b) l
  simp only[Go.Lib.cntF,List.length_cons]
  split<;>omega
theorem z2q:q4a Proofs.Tryz.prog D 85 (conV ([.v]:LP) ([.str]:LV) ([.vec 9 C.str]:LV) ([.same]:LV) (fun a K=>q0h a.1 (fun q0=>K (q0,()) ((),())))):=by
 intro args K hm w σ vals ins hG hL hS
 obtain⟨a,ha,hm⟩:=Qh hm
 have hargs:=J1 ha
 subst hargs
 obtain⟨s,_⟩:=a
 cases hL with
 |cons hp hr=>
 cases hr
 cases hp with
 |f hf=>
 cases hf
 have hm:s.size<4294967281/\j82 s/\K [.vec 9 C.str (Vc s)] [.same]:=hm
 obtain⟨hsz,hasc,hm⟩:=hm
 have hT: ∀c:Nat,c<256->w.cell? ⟨Proofs.Tryz.lays157_ren.g 0,c,none⟩=some (.int .u8 (if Go.Lib.isSp (UInt8.ofNat c) then 1 else 0)):=fun c hc=>by
  have h:=hG.known (Proofs.Tryz.lays157_ren.g 0)
  obtain⟨v,h1,h2⟩:=z3p (T:= .u8) (n:=256) (l:=j4z) hS.view h (i:=c) (j:=0) (s:= .int .u8 (if Go.Lib.isSp (UInt8.ofNat c) then 1 else 0)) (v0u c hc) rfl (by decide)
  cases h2
  simpa [show D.size C.u8=1 from rfl] using h1
 have hlen:(Vc s).length=(Go.Lib.fields s.data.toList).length:=by unfold Vc;rw[List.length_map]
 have hcnt:(Go.Lib.fields s.data.toList).length<=s.size:=by rw[Go.Lib.fields_length];exact Nat.le_trans (j86 _ _) (Nat.le_of_eq rfl)
 refine Calls.mono (Go.Proofs.Any.strings_Fields_core Proofs.Tryz.lays157 (by kernel_rfl) s w hsz hasc hT) ?_
 rintro e w' ⟨rfl,rfl⟩
 rw[show (Go.Lib.fields s.data.toList).map (fun l=>Value.string ⟨l.toArray⟩)=(Vc s).map Value.string by unfold Vc;rw[List.map_map];rfl,←hlen]
 rw[←hlen] at hcnt
 have ho:(vec (.slice (some ⟨w.heap.size,0,none⟩) (Vc s).length (Vc s).length) 9 1 (Vc s).length ((Vc s).flatMap Qg)).ok (w.alloc (.cells ((Vc s).map Value.string).toArray 9)):=by
  refine⟨by rw[q7q];simp,.inr ⟨w.heap.size,_,_,rfl,Nat.zero_le _,heap_alloc_new _ _,Nat.le_refl _,by unfold maxLen;omega,by simp,?_⟩⟩
  rw[q7q,Nat.mul_one]
  exact List.take_of_length_le (by rw[List.length_map];exact Nat.le_refl _)
 have hS1:=hS.add (Jp w _) ho (by rintro k ⟨⟩;exact Nat.le_refl _)
 exact (⟨[.vec 9 C.str (Vc s)],[.same],[_],σ,[_],[],rfl,hm,.cons (.vec (z44 σ _) (by omega) (Gj ho)) .nil,.skip (a0:=[]) .nil,hS1⟩:Back D σ w [.f (.str s)] [.string s] [] K (.returned (retV [.slice (some ⟨w.heap.size,0,none⟩) (Vc s).length (Vc s).length])) (w.alloc (.cells ((Vc s).map Value.string).toArray 9)))
end Go.En
end
noncomputable section
set_option maxRecDepth 100000
open Go Go.RowKit Go.Fl Go.Fl.Lk Go.Fx
namespace Go.En
def q46(X:Uk):Con Sg:=conS [] [.vec 9 C.str] fun _ K=>X (fun q0=>K (q0,()))
theorem q85:MT 19 (q46 q14):=mS (l:=[]) trivial []
def Ha(X:Jq):Con Sg:=conS [.int .u8,.int .u8,.int .u16,.int .u16,.int .u16] [.el C.env] fun a K=>X a.1 a.2.1 a.2.2.1 a.2.2.2.1 a.2.2.2.2.1 (fun q0=>K (q0,()))
theorem z2r{Za:Uk}(h:AL [(19,q46 Za)]):MT 28 (Ha (q0d Za)):=mS h [(13,⟨bl 68702731295,[4,1,0],[(2,(42,8))],[sI 15,(.cell 2 5,.own 84 C.flag)]⟩),(21,⟨bl 273606445743135,[6,2],[(7,(84,13))],[sI 17,(.cell 7 2,.own 65 C.val)]⟩),(31,⟨bl 1099494915103,[6,4,1,0],[(2,(42,8))],[sI 18,(.cell 2 6,.own 91 C.layer)]⟩),(45,⟨bl 324518398916143177040605671652383,[8,6,4,1,0],[(2,(42,8))],[sI 22,(.cell 2 7,.own 97 C.exper)]⟩)]
theorem q5w:MT 28 (Ha Vw):=z2r ⟨q85,trivial⟩
def z47(X:q4c):Con Sg:=conS [.str] [.el C.subj] fun a K=>X a.1 (fun q0=>K (q0,()))
theorem j1m:MT 23 (z47 q6g):=mS (l:=[]) trivial []
def q2i(X:W0):Con Sg:=conS [.el C.subj,.str] [.int .i64] fun a K=>X a.1 a.2.1 (fun q0=>K (q0,()))
theorem q6p:MT 99 (q2i Ul):=mS (l:=[]) trivial [(135000005,⟨bl 195,[1],[],[sI 8]⟩)]
def Rt(X:Wj):Con Sg:=conS [.el C.val] [.el C.val] fun a K=>X a.1 (fun q0=>K (q0,()))
theorem q47:MT 122 (Rt Wl):=mS (l:=[]) trivial []
def Bh(X:W2):Con Sg:=conS [.el C.attr] [.el C.attr] fun a K=>X a.1 (fun q0=>K (q0,()))
theorem z1v{Zl:Wj}(h:AL [(122,Rt Zl)]):MT 137 (Bh (Bb Zl)):=mS h []
theorem z1w:MT 137 (Bh U4):=z1v ⟨q47,trivial⟩
def q2j(X:Um):Con Sg:=conS [.el C.ctx] [.el C.ctx] fun a K=>X a.1 (fun q0=>K (q0,()))
theorem z48{Ge:W2}(h:AL [(137,Bh Ge)]):MT 100 (q2j (q15 Ge)):=mS h [(137000007,⟨bl 7955,[],[],[(.slot 5,.own 244 C.attr),sI 13]⟩)]
theorem z5a:MT 100 (q2j H1):=z48 ⟨z1w,trivial⟩
def Gz(X:Jg):Con Sg:=conS [.el C.subj,.str] [.el C.ctx,.bool] fun a K=>X a.1 a.2.1 (fun q0 q1=>K (q0,q1,()))
theorem z6t{Z5:W0}{R2:Um}(h:AL [(99,q2i Z5),(100,q2j R2)]):MT 67 (Gz (q3g Z5 R2)):=mS h []
theorem q3t:MT 67 (Gz V4):=z6t ⟨q6p,z5a,trivial⟩
def q8d(X:Bn):Con Sg:=conS [.sl C.bytes] [.vec 5 C.u8] fun a K=>X a.1 (fun q0=>K (q0,()))
theorem z6u:MT 112 (q8d Bo):=mS (l:=[]) trivial [(7,⟨bl 389,[],[],[(.slot 3,.own 5 C.u8),sI 9]⟩),(13,⟨bl 8101,[],[],[(.slot 3,.own 5 C.u8),sI 6]⟩)]
def q2k(X:Vd):Con Sg:=conS [.int .u64,.int .i64] [.int .u64] fun a K=>X a.1 a.2.1 (fun q0=>K (q0,()))
theorem q86:MT 192 (q2k Ve):=mS (l:=[]) trivial []
def Ww(X:Zq):Con Sg:=conV [.ptr 253 [.v,.v,.v,.v],.v] [.ptr 253 [.int .u64,.int .u64,.int .u64,.int .u64],.int .i64] [] [.ptr 253 [.int .u64,.int .u64,.int .u64,.int .u64],.same] fun a K=>X a.1.1 a.1.2.1 a.1.2.2.1 a.1.2.2.2.1 a.2.1 (fun q0 q1 q2 q3=>K () ((q0,q1,q2,q3,()),(),()))
theorem q7x{Zf:Vd}(h:AL [(192,q2k Zf)]):MT 148 (Ww (Gk Zf)):=mP (rk:=[]) h [(3,⟨[0,1,4],[],[(0,(253,4))],[sI 5,(.cell 0 0,.int IntKind.u64),(.cell 0 1,.int IntKind.u64),(.cell 0 2,.int IntKind.u64),(.cell 0 3,.int IntKind.u64)]⟩)]
theorem q0r:MT 148 (Ww Zh):=q7x ⟨q86,trivial⟩
def Ru(X:Wm):Con Sg:=conV [.ptr 253 [.v,.v,.v,.v],.v] [.ptr 253 [.int .u64,.int .u64,.int .u64,.int .u64],.int .u64] [] [.ptr 253 [.int .u64,.int .u64,.int .u64,.int .u64],.same] fun a K=>X a.1.1 a.1.2.1 a.1.2.2.1 a.1.2.2.2.1 a.2.1 (fun q0 q1 q2 q3=>K () ((q0,q1,q2,q3,()),(),()))
theorem q93{Q6:Zq}(h:AL [(148,Ww Q6)]):MT 147 (Ru (H2 Q6)):=mP (rk:=[]) h []
theorem q94:MT 147 (Ru Ub):=q93 ⟨q0r,trivial⟩
end Go.En
end
noncomputable section
set_option maxRecDepth 100000
open Go Go.RowKit Go.Fl Go.Fl.Lk Go.Fx
namespace Go.En
def q6q(X:B1):Con Sg:=conS [.int .u64,.int .u64,.sl C.u8] [.int .u64] fun a K=>X a.1 a.2.1 a.2.2.1 (fun q0=>K (q0,()))
theorem j1n{Ws:Wm}{Q6:Zq}(h:AL [(147,Ru Ws),(148,Ww Q6)]):MT 111 (q6q (q6h Ws Q6)):=mS h [(9,⟨bl 67101127,[],[(0,(253,4))],[sI 9,(.cell 0 0,.int IntKind.u64),(.cell 0 1,.int IntKind.u64),(.cell 0 2,.int IntKind.u64),(.cell 0 3,.int IntKind.u64)]⟩),(17,⟨bl 2147476423,[0],[],[(.slot 10,.int IntKind.u64),sI 33]⟩),(29,⟨bl 15762600843272903,[0],[],[(.slot 8,.int IntKind.u64),sI 54]⟩)]
theorem j1o:MT 111 (q6q q2y):=j1n ⟨q94,q0r,trivial⟩
def q48(X:H3):Con Sg:=conS [.int .u64,.sl C.bytes] [.int .u64] fun a K=>X a.1 a.2.1 (fun q0=>K (q0,()))
theorem z82{Bu:Bn}{q29:B1}(h:AL [(112,q8d Bu),(111,q6q q29)]):MT 80 (q48 (q4r Bu q29)):=mS h []
theorem z83:MT 80 (q48 q0x):=z82 ⟨z6u,j1o,trivial⟩
def Bi(X:J2):Con Sg:=conS [.str,.str] [.int .i64] fun a K=>X a.1 a.2.1 (fun q0=>K (q0,()))
theorem j3f{q1h:H3}(h:AL [(80,q48 q1h)]):MT 35 (Bi (q8w q1h)):=mS h []
theorem q49:MT 35 (Bi Vf):=j3f ⟨z83,trivial⟩
def q6r(X:H4):Con Sg:=conS [.sl C.forced,.str] [.el C.forced,.bool] fun a K=>X a.1 a.2.1 (fun q0 q1=>K (q0,q1,()))
theorem z5b:MT 68 (q6r H5):=mS (l:=[]) trivial [(5,⟨bl 787,[],[(0,(142,3))],[sI 10,(.cell 0 0,.str),(.cell 0 1,.str),(.cell 0 2,.int .i64)]⟩)]
def q95(X:q0y):Con Sg:=conS [.el C.env,.el C.forced] [.bool] fun a K=>X a.1 a.2.1 (fun q0=>K (q0,()))
theorem z84:MT 69 (q95 q0z):=mSg 8 (l:=[]) trivial [(46000005,⟨bl 195,[1],[],[sI 8]⟩),(139000005,⟨bl 195,[],[],[sI 8]⟩)]
def q5a(X:H6):Con Sg:=conS [.el C.env,.el C.subj] [.bool] fun a K=>X a.1 a.2.1 (fun q0=>K (q0,()))
theorem z86{Zb:Jg}{Q0:J2}(h:AL [(67,Gz Zb),(35,Bi Q0)]):MT 70 (q5a (q4s Zb Q0)):=mS h []
theorem z87:MT 70 (q5a q00):=z86 ⟨q3t,q49,trivial⟩
def q1a(X:U5):Con Sg:=conS [.int .i64] [.bool] fun a K=>X a.1 (fun q0=>K (q0,()))
theorem q96:MT 182 (q1a Vg):=mS (l:=[]) trivial []
def Jr(X:Q4):Con Sg:=conS [.sl C.str,.sl C.str] [.bool] fun a K=>X a.1 a.2.1 (fun q0=>K (q0,()))
theorem V2:MT 216 (Jr Zg):=mS (l:=[]) trivial [(9,⟨bl 8131,[],[],[sI 13]⟩)]
def q24(X:B2):Con Sg:=conS [.el C.val,.el C.val] [.bool] fun a K=>X a.1 a.2.1 (fun q0=>K (q0,()))
theorem j1p{Qq:Q4}(h:AL [(216,Jr Qq)]):MT 280 (q24 (q6i Qq)):=mS h []
theorem j1q:MT 280 (q24 Hr):=j1p ⟨V2,trivial⟩
def q5b(X:Un):Con Sg:=conV [.el C.ex,.el C.ex] [.el C.ex,.el C.ex] [.bool] [.same,.same] fun a K=>X a.1 a.2.1 (fun q0=>K (q0,()) ((),(),()))
def z2g:PT:=Q3 ([(280000009,⟨bl 130055,[],[],[sI 17]⟩),(282000009,⟨bl 130055,[],[],[sI 17]⟩)]:LS)
theorem z88(q3a:B2)(X:Un)(a:Ex)(b:Ex)(K:Bool->Prop):q8x q3a X a b K=fnV (((WL [(280,q24 q3a)]).with 267 (q5b X)).pl z2g) 4 267 ([.el C.ex,.el C.ex]:LP) ([.v]:LP) ([.el C.ex,.el C.ex]:LV) ([.bool]:LV) ([.same,.same]:LV) (a,b,()) (fun r _=>K r.1):=by kernel_rfl
theorem j3g:MT 267 (q5b Hi):=by
 show MT _ (conV ([.el C.ex,.el C.ex]:LP) ([.el C.ex,.el C.ex]:LV) ([.bool]:LV) ([.same,.same]:LV) fun a K=>Hi a.1 a.2.1 (fun q0=>K (q0,()) ((),(),())))
 refine mR (l:=[(280,q24 Hr)]) (u:=4) (rk:=[.v]) (p:=z2g) ⟨j1q,trivial⟩ (by kernel_rfl) fun a K h X hX=> ?_
 exact h (fun a b K=>X (a,b,()) fun r _=>K r.1) (fun a b K hs=>hX (a,b,()) (fun r _=>K r.1) (Eq.mp (z88 Hr (fun a b K=>X (a,b,()) fun r _=>K r.1) a b K) hs))
def q3u(X:J0):Con Sg:=conV [.own 95 C.ex,.el C.ex] [.vec 95 C.ex,.el C.ex] [.vec 95 C.ex] [.same,.same] fun a K=>X a.1 a.2.1 (fun q0=>K (q0,()) ((),(),()))
def q6s:PT:=Q3 ([(6,⟨[1,3,4],[1],[],[(.slot 0,.own 95 C.ex)]⟩),(9,⟨bl 234881050,[1],[],[(.slot 0,.own 95 C.ex),sI 28]⟩),(180000005,⟨bl 195,[0],[],[sI 8]⟩)]:LS)
theorem z2s(Jv:U5)(q2t:Un)(X:J0)(l:List (Ex))(e:Ex)(K:List (Ex)->Prop):q3h Jv q2t X l e K=fnV (((WL [(182,q1a Jv),(267,q5b q2t)]).with 248 (q3u X)).pl q6s) 4 248 ([.own 95 C.ex,.el C.ex]:LP) ([.own 95 C.ex]:LP) ([.vec 95 C.ex,.el C.ex]:LV) ([.vec 95 C.ex]:LV) ([.same,.same]:LV) (l,e,()) (fun r _=>K r.1):=by kernel_rfl
theorem z6v:MT 248 (q3u Bp):=by
 show MT _ (conV ([.own 95 C.ex,.el C.ex]:LP) ([.vec 95 C.ex,.el C.ex]:LV) ([.vec 95 C.ex]:LV) ([.same,.same]:LV) fun a K=>Bp a.1 a.2.1 (fun q0=>K (q0,()) ((),(),())))
 refine mR (l:=[(182,q1a Vg),(267,q5b Hi)]) (u:=4) (rk:=[.own 95 C.ex]) (p:=q6s) ⟨q96,j3g,trivial⟩ (by kernel_rfl) fun a K h X hX=> ?_
 exact h (fun l e K=>X (l,e,()) fun r _=>K r.1) (fun l e K hs=>hX (l,e,()) (fun r _=>K r.1) (Eq.mp (z2s Vg Hi (fun l e K=>X (l,e,()) fun r _=>K r.1) l e K) hs))
def q6t(X:W9):Con Sg:=conV [.el C.ex] [.el C.ex] [.el C.ex] [.same] fun a K=>X a.1 (fun q0=>K (q0,()) ((),()))
def q97:PT:=Q3 ([(269000007,⟨bl 7955,[],[],[(.slot 5,.own 65 C.val),sI 13]⟩),(248000007,⟨bl 7955,[],[],[(.slot 5,.own 95 C.ex),sI 13]⟩)]:LS)
theorem z6w(Zl:Wj)(X:W9)(e:Ex)(K:Ex->Prop):q6j Zl X e K=fnV (((WL [(122,Rt Zl)]).with 249 (q6t X)).pl q97) 4 249 ([.el C.ex]:LP) ([.el C.ex]:LP) ([.el C.ex]:LV) ([.el C.ex]:LV) ([.same]:LV) (e,()) (fun r _=>K r.1):=by kernel_rfl
theorem j1r:MT 249 (q6t q2z):=by
 show MT _ (conV ([.el C.ex]:LP) ([.el C.ex]:LV) ([.el C.ex]:LV) ([.same]:LV) fun a K=>q2z a.1 (fun q0=>K (q0,()) ((),())))
 refine mR (l:=[(122,Rt Wl)]) (u:=4) (rk:=[.el C.ex]) (p:=q97) ⟨q47,trivial⟩ (by kernel_rfl) fun _ K h X hX=> ?_
 exact h (fun e K=>X (e,()) fun r _=>K r.1) (fun e K hs=>hX (e,()) (fun r _=>K r.1) (Eq.mp (z6w Wl (fun e K=>X (e,()) fun r _=>K r.1) e K) hs))
end Go.En
end
noncomputable section
set_option maxRecDepth 100000
open Go Go.RowKit Go.Fl Go.Fl.Lk Go.Fx
namespace Go.En
def q3v(X:Gw):Con Sg:=conS [.el C.ex] [.vec 95 C.ex] fun a K=>X a.1 (fun q0=>K (q0,()))
theorem z6x{Bv:J0}{q3b:W9}(h:AL [(248,q3u Bv),(249,q6t q3b)]):MT 225 (q3v (q3i Bv q3b)):=mS h [(248000007,⟨bl 7955,[1],[],[(.slot 5,.own 95 C.ex),sI 13]⟩)]
theorem z6y:MT 225 (q3v q3j):=z6x ⟨z6v,j1r,trivial⟩
def Ju(X:Zi):Con Sg:=conV [.own 9 C.str] [.vec 9 C.str] [] [.vec 9 C.str] fun a K=>X a.1 (fun q0=>K () (q0,()))
theorem Uf:MT 93 (Ju Z0):=⟨entB (by kernel_rfl),q09⟩
def W6(X:Jc):Con Sg:=conV [.own 9 C.str] [.vec 9 C.str] [.vec 9 C.str] [.same] fun a K=>X a.1 (fun q0=>K (q0,()) ((),()))
theorem Bj:MT 94 (W6 Jd):=⟨entB (by kernel_rfl),Bg⟩
def q0k(X:Vx):Con Sg:=conS [.el C.ex] [.sl C.str] fun a K=>X a.1 (fun q0=>K (q0,()))
theorem z2t{Bw:Gw}{Qs:Zi}{Zo:Jc}(h:AL [(225,q3v Bw),(93,Ju Qs),(94,W6 Zo)]):MT 190 (q0k (q0e Bw Qs Zo)):=mS h [(7,⟨bl 455,[1,0],[],[(.slot 3,.own 9 C.str),sI 9]⟩)]
theorem z2u:MT 190 (q0k G5):=z2t ⟨z6y,Uf,Bj,trivial⟩
def q98(X:q4t):Con Sg:=conV [.sl C.str,.sl C.edge] [.sl C.str,.sl C.edge] [.vec 9 C.str,.int .i64] [.same,.same] fun a K=>X a.1 a.2.1 (fun q0 q1=>K (q0,q1,()) ((),(),()))
theorem z89:MT 191 (q98 P_graph_Order):=⟨entB (by kernel_rfl),z81⟩
def q2l(X:Uo):Con Sg:=conS [.sl C.seg] [.vec 9 C.str,.int .i64] fun a K=>X a.1 (fun q0 q1=>K (q0,q1,()))
theorem z5c{Hc:Vx}{q1i:q4t}(h:AL [(190,q0k Hc),(191,q98 q1i)]):MT 144 (q2l (q16 Hc q1i)):=mS h [(9,⟨bl 3085,[],[],[(.slot 4,.own 9 C.str),(.slot 5,.own 297 C.edge),sI 12]⟩),(17,⟨bl 33488029,[6,5,3],[],[(.slot 5,.own 297 C.edge),sI 25]⟩)]
theorem z5d:MT 144 (q2l H7):=z5c ⟨z2u,z89,trivial⟩
def q0l(X:Vy):Con Sg:=conS [.el C.subj,.str,.str] [.el C.val,.bool] fun a K=>X a.1 a.2.1 a.2.2.1 (fun q0 q1=>K (q0,q1,()))
theorem z2v{Z5:W0}{Zl:Wj}(h:AL [(99,q2i Z5),(122,Rt Zl)]):MT 181 (q0l (q0f Z5 Zl)):=mS h [(17,⟨bl 1912468303,[2,0],[(1,(65,4))],[sI 31,(.cell 1 0,.int .i64),(.cell 1 1,.int .i64),(.cell 1 2,.str),(.cell 1 3,.sl C.str)]⟩)]
theorem z2w:MT 181 (q0l G6):=z2v ⟨q6p,q47,trivial⟩
def q5c(X:H8):Con Sg:=conS [.el C.val,.el C.val] [.bool] fun a K=>X a.1 a.2.1 (fun q0=>K (q0,()))
theorem z9a{Qq:Q4}(h:AL [(216,Jr Qq)]):MT 185 (q5c (q4u Qq)):=mS h []
theorem z9b:MT 185 (q5c H9):=z9a ⟨V2,trivial⟩
def Vq(X:Zn):Con Sg:=conS [.str,.str] [.bool] fun a K=>X a.1 a.2.1 (fun q0=>K (q0,()))
theorem Rv:MT 217 (Vq Z1):=mS (l:=[]) trivial []
def Hm(X:J3):Con Sg:=conS [.str,.str] [.bool] fun a K=>X a.1 a.2.1 (fun q0=>K (q0,()))
theorem q87{Q2:Zn}(h:AL [(217,Vq Q2)]):MT 186 (Hm (Hj Q2)):=mS h []
theorem q88:MT 186 (Hm Vh):=q87 ⟨Rv,trivial⟩
def Rw(X:Jt):Con Sg:=conS [.str,.str] [.bool] fun a K=>X a.1 a.2.1 (fun q0=>K (q0,()))
theorem q5d:MT 218 (Rw Vi):=mS (l:=[]) trivial []
def Hn(X:J4):Con Sg:=conS [.str,.str] [.bool] fun a K=>X a.1 a.2.1 (fun q0=>K (q0,()))
theorem q89{Jw:Jt}(h:AL [(218,Rw Jw)]):MT 187 (Hn (Hk Jw)):=mS h []
theorem q9a:MT 187 (Hn Vj):=q89 ⟨q5d,trivial⟩
end Go.En
end
noncomputable section
set_option maxRecDepth 100000
open Go Go.RowKit Go.Fl Go.Fl.Lk Go.Fx
namespace Go.En
def q25(X:Ra):Con Sg:=conV [.v,.v] [.str,.str] [.bool] [.same,.same] fun a K=>X a.1 a.2.1 (fun q0=>K (q0,()) ((),(),()))
theorem q99:MT 188 (q25 Rb):=⟨entB (by kernel_rfl),q92⟩
def z0a(X:q01):Con Sg:=conS [.el C.val] [.bool] fun a K=>X a.1 (fun q0=>K (q0,()))
theorem z9c:MT 242 (z0a q02):=mS (l:=[]) trivial [(8,⟨bl 31,[0],[],[sB 5]⟩),(14,⟨bl 63,[0],[],[sB 17]⟩)]
def q26(X:Uc):Con Sg:=conV [.v] [.str] [.bool] [.same] fun a K=>X a.1 (fun q0=>K (q0,()) ((),()))
theorem z0b:MT 262 (q26 Wn):=⟨entB (by kernel_rfl),q91⟩
def q6u(X:B3):Con Sg:=conS [.str] [.bool] fun a K=>X a.1 (fun q0=>K (q0,()))
theorem j1s{Jo:Uc}(h:AL [(262,q26 Jo)]):MT 243 (q6u (q6k Jo)):=mS h [(9,⟨bl 32737,[],[],[(.obj 0,.siter)]⟩)]
theorem j1t:MT 243 (q6u q20):=j1s ⟨z0b,trivial⟩
def q6v(X:q17):Con Sg:=conV [.v,.v] [.str,.str] [.vec 9 C.str] [.same,.same] fun a K=>X a.1 a.2.1 (fun q0=>K (q0,()) ((),(),()))
theorem z5e:MT 245 (q6v q18):=⟨entB (by kernel_rfl),z45⟩
def Vr(X:Z2):Con Sg:=conS [.str,.str] [.str,.bool] fun a K=>X a.1 a.2.1 (fun q0 q1=>K (q0,q1,()))
theorem q5e{Q2:Zn}(h:AL [(217,Vq Q2)]):MT 276 (Vr (Vk Q2)):=mS h []
theorem q5f:MT 276 (Vr Vl):=q5e ⟨Rv,trivial⟩
def Ho(X:J5):Con Sg:=conS [.str,.str] [.str,.bool] fun a K=>X a.1 a.2.1 (fun q0 q1=>K (q0,q1,()))
theorem q9b{Jx:Z2}(h:AL [(276,Vr Jx)]):MT 264 (Ho (Hl Jx)):=mS h []
theorem q9c:MT 264 (Ho Vm):=q9b ⟨q5f,trivial⟩
def q8e(X:q3k):Con Sg:=conV [.v] [.str] [.int .i64,.ifc] [.same] fun a K=>X a.1 (fun q0 q1=>K (q0,q1,()) ((),()))
theorem z6z:MT 265 (q8e Bq):=⟨entB (by kernel_rfl),z6s⟩
def Rx(X:Wo):Con Sg:=conS [.str] [.int .i64,.int .i64] fun a K=>X a.1 (fun q0 q1=>K (q0,q1,()))
theorem z0c{Vt:J5}{G3:q3k}(h:AL [(264,Ho Vt),(265,q8e G3)]):MT 246 (Rx (Rc Vt G3)):=mS h [(11,⟨bl 4294966321,[],[],[(.obj 0,.siter)]⟩)]
theorem z0d:MT 246 (Rx Ud):=z0c ⟨q9c,z6z,trivial⟩
def q1b(X:Vn):Con Sg:=conS [.str] [.el C.a3,.bool] fun a K=>X a.1 (fun q0 q1=>K (q0,q1,()))
theorem z9d{R3:q17}{Ug:Wo}(h:AL [(245,q6v R3),(246,Rx Ug)]):MT 223 (q1b (q4v R3 Ug)):=mS h [(13,⟨bl 228405,[2],[(1,(325,3)),(0,(325,3))],[sI 18,(.cell 1 0,.int .i64),(.cell 1 1,.int .i64),(.cell 1 2,.int .i64),(.cell 0 0,.int .i64),(.cell 0 1,.int .i64),(.cell 0 2,.int .i64)]⟩)]
theorem z0e:MT 223 (q1b Rd):=z9d ⟨z5e,z0d,trivial⟩
def q5g(X:Re):Con Sg:=conS [.el C.val] [.int .i64] fun a K=>X a.1 (fun q0=>K (q0,()))
theorem z9e{q1j:q01}{B6:B3}{Jk:Vn}(h:AL [(242,z0a q1j),(243,q6u B6),(223,q1b Jk)]):MT 220 (q5g (q4w q1j B6 Jk)):=mS h [(47,⟨bl 73643289922748022531,[0],[],[sI 66]⟩),(59,⟨bl 132521265739157328625411,[0],[],[sI 77]⟩)]
theorem z9f:MT 220 (q5g q03):=z9e ⟨z9c,j1t,z0e,trivial⟩
def q2m(X:Up):Con Sg:=conS [.el C.val,.el C.val] [.int .i64,.int .i64] fun a K=>X a.1 a.2.1 (fun q0 q1=>K (q0,q1,()))
theorem z5f{R4:Re}{Jk:Vn}(h:AL [(220,q5g R4),(223,q1b Jk)]):MT 189 (q2m (q19 R4 Jk)):=mS h [(225000005,⟨bl 1539,[],[],[sI 11]⟩)]
theorem z5g:MT 189 (q2m Uq):=z5f ⟨z9f,z0e,trivial⟩
end Go.En
end
noncomputable section
set_option maxRecDepth 100000
open Go Go.RowKit Go.Fl Go.Fl.Lk Go.Fx
namespace Go.En
def q1c(X:Rf):Con Sg:=conS [.el C.subj,.el C.ex] [.bool] fun a K=>X a.1 a.2.1 (fun q0=>K (q0,()))
theorem z9g{Hd:Vy}{Jv:U5}{Gf:H8}{Vu:J3}{Vv:J4}{Uh:Ra}{U0:Up}(h:AL [(181,q0l Hd),(182,q1a Jv),(185,q5c Gf),(186,Hm Vu),(187,Hn Vv),(188,q25 Uh),(189,q2m U0)]):MT 143 (q1c (q4x Hd Jv Gf Vu Vv Uh U0)):=mS h [(216000005,⟨bl 195,[2],[],[sI 8]⟩),(181000005,⟨bl 195,[],[],[sI 8]⟩)]
theorem z9h:MT 143 (q1c U6):=z9g ⟨z2w,q96,z9b,q88,q9a,q99,z5g,trivial⟩
def q1d(X:Jh):Con Sg:=conV [.el C.subj,.sl C.str,.el C.ex] [.el C.subj,.sl C.str,.el C.ex] [.bool] [.same,.same,.same] fun a K=>X a.1 a.2.1 a.2.2.1 (fun q0=>K (q0,()) ((),(),(),()))
def q8f:PT:=Q3 ([(180000005,⟨bl 195,[1,0],[],[sI 8]⟩),(181000005,⟨bl 195,[],[],[sI 8]⟩)]:LS)
theorem z5h(q1k:Rf)(X:Jh)(s:Subj)(in_:List (ByteArray))(e:Ex)(K:Bool->Prop):q4y q1k X s in_ e K=fnV (((WL [(143,q1c q1k)]).with 105 (q1d X)).pl q8f) 4 105 ([.el C.subj,.sl C.str,.el C.ex]:LP) ([.v]:LP) ([.el C.subj,.sl C.str,.el C.ex]:LV) ([.bool]:LV) ([.same,.same,.same]:LV) (s,in_,e,()) (fun r _=>K r.1):=by kernel_rfl
theorem z0f:MT 105 (q1d Rg):=by
 show MT _ (conV ([.el C.subj,.sl C.str,.el C.ex]:LP) ([.el C.subj,.sl C.str,.el C.ex]:LV) ([.bool]:LV) ([.same,.same,.same]:LV) fun a K=>Rg a.1 a.2.1 a.2.2.1 (fun q0=>K (q0,()) ((),(),(),())))
 refine mR (l:=[(143,q1c U6)]) (u:=4) (rk:=[.v]) (p:=q8f) ⟨z9h,trivial⟩ (by kernel_rfl) fun a K h X hX=> ?_
 exact h (fun s in_ e K=>X (s,in_,e,()) fun r _=>K r.1) (fun s in_ e K hs=>hX (s,in_,e,()) (fun r _=>K r.1) (Eq.mp (z5h U6 (fun s in_ e K=>X (s,in_,e,()) fun r _=>K r.1) s in_ e K) hs))
def Ry(X:Wp):Con Sg:=conS [.el C.seg,.el C.subj,.sl C.str] [.bool] fun a K=>X a.1 a.2.1 a.2.2.1 (fun q0=>K (q0,()))
theorem z0g{Zb:Jg}{Zt:Jh}(h:AL [(67,Gz Zb),(105,q1d Zt)]):MT 145 (Ry (Rh Zb Zt)):=mS h [(181000005,⟨bl 195,[],[],[sI 8]⟩)]
theorem z0h:MT 145 (Ry Ue):=z0g ⟨q3t,z0f,trivial⟩
def Bk(X:W4):Con Sg:=conS [.sl C.seg,.el C.subj] [.vec 9 C.str] fun a K=>X a.1 a.2.1 (fun q0=>K (q0,()))
theorem z1x{R5:Uo}{Ui:Wp}{Qs:Zi}(h:AL [(144,q2l R5),(145,Ry Ui),(93,Ju Qs)]):MT 106 (Bk (Bc R5 Ui Qs)):=mS h [(13,⟨bl 8380667,[1,0],[],[sI 23,(.obj 2,.map C.str C.seg)]⟩),(25,⟨bl 12918448379,[2,1,0],[],[(.slot 10,.own 9 C.str),sI 34]⟩)]
theorem z1y:MT 106 (Bk U7):=z1x ⟨z5d,z0h,Uf,trivial⟩
def Bl(X:W5):Con Sg:=conS [.el C.env,.el C.subj,.str] [.bool] fun a K=>X a.1 a.2.1 a.2.2.1 (fun q0=>K (q0,()))
theorem z1z{Gg:W4}{Zt:Jh}(h:AL [(106,Bk Gg),(105,q1d Zt)]):MT 72 (Bl (Bd Gg Zt)):=mS h [(5,⟨bl 3615,[1,0],[],[sI 12]⟩)]
theorem z10:MT 72 (Bl U8):=z1z ⟨z1y,z0f,trivial⟩
def q5h(X:U9):Con Sg:=conS [.sl C.range,.int .i64] [.int .i64] fun a K=>X a.1 a.2.1 (fun q0=>K (q0,()))
theorem z0i:MT 49 (q5h Ri):=mS (l:=[]) trivial [(5,⟨bl 387,[],[],[sI 9]⟩)]
def Bt(X:Wu):Con Sg:=conS [.el C.env,.el C.subj,.sl C.forced,.str] [.el C.asg,.int .i64] fun a K=>X a.1 a.2.1 a.2.2.1 a.2.2.2.1 (fun q0 q1=>K (q0,q1,()))
theorem z60{Zb:Jg}{R6:H4}{Q0:J2}{Zu:U9}{Gh:W5}{q1l:H6}{q1m:q0y}(h:AL [(67,Gz Zb),(68,q6r R6),(35,Bi Q0),(49,q5h Zu),(72,Bl Gh),(70,q5a q1l),(69,q95 q1m)]):MT 29 (Bt (q3l Zb R6 Q0 Zu Gh q1l q1m)):=mS h [(4,⟨bl 959,[3,2,1,0],[],[sI 10]⟩),(18,⟨bl 2198939402175,[9,5,3,2,1,0],[(7,(105,5))],[(.cell 7 2,.int .i64)]⟩),(22,⟨bl 17735122472271807,[12,7,9,5,3,2,1,0],[],[sB 64]⟩),(30,⟨bl 18464479196181823423,[12,7,9,5,3,2,1,0],[],[sB 87]⟩),(41,⟨bl 73193204841212587949592543167,[12,9,5,3,2,1,0],[(7,(105,5))],[sI 96,(.cell 7 1,.str),(.cell 7 3,.int .i64)]⟩),(46,⟨bl 1261615642555177651852752060351,[19,7],[],[sB 19]⟩),(48,⟨bl 1261615642555177651852752584639,[19,7],[],[sB 122]⟩),(87000005,⟨bl 195,[],[],[sI 8]⟩),(66000005,⟨bl 195,[],[],[sI 8]⟩)]
theorem q8g:MT 29 (Bt Gx):=z60 ⟨q3t,z5b,q49,z0i,z10,z87,z84,trivial⟩
def q5x(X:q0g):Con Sg:=conV [.v] [.str] [.vec 9 C.str] [.same] fun a K=>X a.1 (fun q0=>K (q0,()) ((),()))
theorem z2x:MT 85 (q5x q0h):=⟨entB (by kernel_rfl),z2q⟩
def Hs(X:Je):Con Sg:=conS [.str] [.bool] fun a K=>X a.1 (fun q0=>K (q0,()))
theorem j6g{He:q0g}(h:AL [(85,q5x He)]):MT 43 (Hs (z1n He)):=mS h [(9,⟨bl 261889,[],[],[(.obj 0,.siter)]⟩),(21,⟨bl 3377699721576193,[3,0],[],[sI 52]⟩)]
theorem q1v:MT 43 (Hs Ga):=j6g ⟨z2x,trivial⟩
def q5i(X:Rj):Con Sg:=conS [.el C.register,.el C.slot] [.bool] fun a K=>X a.1 a.2.1 (fun q0=>K (q0,()))
theorem z9i{Qr:Je}(h:AL [(43,Hs Qr)]):MT 77 (q5i (q4z Qr)):=mS h [(16,⟨bl 140737488355327,[1,0],[],[sB 50]⟩)]
theorem z9j:MT 77 (q5i q04):=z9i ⟨q1v,trivial⟩
def Wr(X:Ze):Con Sg:=conV [.map C.str C.str,.v] [.map C.str C.str,.str] [.str] [.map C.str C.str,.same] fun a K=>X a.1 a.2.1 (fun q0 q1=>K (q0,()) (q1,(),()))
theorem Ux:MT 110 (Wr Zz):=mP (rk:=[.v]) (l:=[]) trivial [(3,⟨[0],[0],[],[(.slot 1,.str)]⟩)]
def Uy(X:Jm):Con Sg:=conV [.map C.str C.str,.v,.v] [.map C.str C.str,.str,.str] [.bool] [.map C.str C.str,.same,.same] fun a K=>X a.1 a.2.1 a.2.2.1 (fun q0 q1=>K (q0,()) (q1,(),(),()))
theorem q6w{Qk:Ze}(h:AL [(110,Wr Qk)]):MT 146 (Uy (Ur Qk)):=mP (rk:=[.v]) h []
theorem q6x:MT 146 (Uy Wq):=q6w ⟨Ux,trivial⟩
end Go.En
end
noncomputable section
set_option maxRecDepth 100000
open Go Go.RowKit Go.Fl Go.Fl.Lk Go.Fx
namespace Go.En
def q1e(X:Vo):Con Sg:=conS [.sl C.link] [.map C.str C.str] fun a K=>X a.1 (fun q0=>K (q0,()))
theorem z9k{Wt:Jm}(h:AL [(146,Uy Wt)]):MT 109 (q1e (q40 Wt)):=mS h [(7,⟨bl 461,[],[],[sI 9,(.obj 0,.map C.str C.str)]⟩)]
theorem z0j:MT 109 (q1e Rk):=z9k ⟨q6x,trivial⟩
def J8(X:Q9):Con Sg:=conS [.sl C.link,.str] [.str] fun a K=>X a.1 a.2.1 (fun q0=>K (q0,()))
theorem z5i{Jy:Vo}{Qk:Ze}(h:AL [(109,q1e Jy),(110,Wr Qk)]):MT 76 (J8 (q2a Jy Qk)):=mS h []
theorem Uz:MT 76 (J8 Jn):=z5i ⟨z0j,Ux,trivial⟩
def G0(X:Ji):Con Sg:=conS [.el C.register] [.bool] fun a K=>X a.1 (fun q0=>K (q0,()))
theorem z61{Qr:Je}{q1n:Rj}{Qi:Q9}(h:AL [(43,Hs Qr),(77,q5i q1n),(76,J8 Qi)]):MT 31 (G0 (q3m Qr q1n Qi)):=mS h [(11,⟨bl 34359734275,[0],[],[sI 3,sI 35]⟩),(27,⟨bl 33056565380224955445251,[0],[],[sI 3,sI 75]⟩),(43,⟨bl 74276548750483785590388027659,[0],[],[sI 96,(.obj 5,.map C.place C.bool)]⟩)]
theorem q3w:MT 31 (G0 V5):=z61 ⟨q1v,z9j,Uz,trivial⟩
def G1(X:Jj):Con Sg:=conS [.el C.register,.int .i64] [.int .i64] fun a K=>X a.1 a.2.1 (fun q0=>K (q0,()))
theorem z62{Zc:Ji}(h:AL [(31,G0 Zc)]):MT 74 (G1 (q3n Zc)):=mS h []
theorem q3x:MT 74 (G1 V6):=z62 ⟨q3w,trivial⟩
def Zj(X:Qn):Con Sg:=conS [.sl C.link] [.vec 58 C.link] fun a K=>X a.1 (fun q0=>K (q0,()))
theorem Z3:MT 107 (Zj Qy):=mS (l:=[]) trivial []
def Zk(X:Qo):Con Sg:=conS [.sl C.slot] [.vec 30 C.slot] fun a K=>X a.1 (fun q0=>K (q0,()))
theorem Z4:MT 108 (Zk Qz):=mS (l:=[]) trivial []
def q0m(X:Vz):Con Sg:=conS [.el C.register,.str,.str] [.int .i64] fun a K=>X a.1 a.2.1 a.2.2.1 (fun q0=>K (q0,()))
theorem z2y{Qi:Q9}(h:AL [(76,J8 Qi)]):MT 64 (q0m (q0i Qi)):=mS h [(98000005,⟨bl 195,[2,0,1],[],[sI 8]⟩)]
theorem z2z:MT 64 (q0m G7):=z2y ⟨Uz,trivial⟩
def Rz(X:J6):Con Sg:=conS [.el C.register,.str,.el C.asg,.int .i64,.int .i64] [.el C.register,.el C.slot,.int .i64] fun a K=>X a.1 a.2.1 a.2.2.1 a.2.2.2.1 a.2.2.2.2.1 (fun q0 q1 q2=>K (q0,q1,q2,()))
theorem z5j{Zd:Jj}{Qr:Je}{Qc:Qn}{Qd:Qo}{Hf:Vz}{Qi:Q9}(h:AL [(74,G1 Zd),(43,Hs Qr),(107,Zj Qc),(108,Zk Qd),(64,q0m Hf),(76,J8 Qi)]):MT 30 (Rz (q2b Zd Qr Qc Qd Hf Qi)):=mS h [(35,⟨bl 629028281880802687600182947007,[12,5,4,7,6,1,0],[(3,(30,7)),(2,(28,3))],[sI 99,(.cell 3 0,.str),(.cell 3 1,.str),(.cell 3 2,.str),(.cell 3 3,.int .i64),(.cell 3 4,.int .i64),(.cell 3 5,.int .i64),(.cell 3 6,.int .i64),(.cell 2 0,.int .i64),(.cell 2 1,.own 58 C.link),(.cell 2 2,.own 30 C.slot)]⟩)]
theorem q6y:MT 30 (Rz Us):=z5j ⟨q3x,q1v,Z3,Z4,z2z,Uz,trivial⟩
def q0n(X:Wf):Con Sg:=conS [.sl C.link,.int .i64] [.sl C.link] fun a K=>X a.1 a.2.1 (fun q0=>K (q0,()))
theorem q5y:MT 34 (q0n V0):=mS (l:=[]) trivial [(7,⟨bl 787,[],[],[(.slot 5,.own 58 C.link),sI 10]⟩)]
def q9d(X:q2c):Con Sg:=conS [.el C.register,.str,.str,.int .i64] [.el C.slot,.bool] fun a K=>X a.1 a.2.1 a.2.2.1 a.2.2.2.1 (fun q0 q1=>K (q0,q1,()))
theorem j3h{Zv:Wf}{Qi:Q9}(h:AL [(34,q0n Zv),(76,J8 Qi)]):MT 57 (q9d (q8y Zv Qi)):=mS h [(9,⟨bl 16764191,[0],[(1,(30,7))],[sI 24,(.cell 1 0,.str),(.cell 1 1,.str),(.cell 1 2,.str),(.cell 1 3,.int .i64),(.cell 1 4,.int .i64),(.cell 1 5,.int .i64),(.cell 1 6,.int .i64)]⟩)]
theorem j3i:MT 57 (q9d q41):=j3h ⟨q5y,Uz,trivial⟩
def q9e(X:q2d):Con Sg:=conS [.el C.register,.str,.str,.int .i64] [.el C.slot,.bool] fun a K=>X a.1 a.2.1 a.2.2.1 a.2.2.2.1 (fun q0 q1=>K (q0,q1,()))
theorem j3j{Zc:Ji}{q5o:q2c}(h:AL [(31,G0 Zc),(57,q9d q5o)]):MT 21 (q9e (q8z Zc q5o)):=mS h []
theorem j3k:MT 21 (q9e q42):=j3j ⟨q3w,j3i,trivial⟩
def q5j(X:Gb):Con Sg:=conS [.el C.env,.str] [.el C.layer,.bool] fun a K=>X a.1 a.2.1 (fun q0 q1=>K (q0,q1,()))
theorem z0k:MT 32 (q5j Rl):=mS (l:=[]) trivial [(5,⟨bl 1815,[0],[(1,(91,6))],[sI 11,(.cell 1 0,.str),(.cell 1 1,.str),(.cell 1 2,.str),(.cell 1 3,.int .i64),(.cell 1 4,.int .i64),(.cell 1 5,.sl C.cool)]⟩)]
end Go.En
end
