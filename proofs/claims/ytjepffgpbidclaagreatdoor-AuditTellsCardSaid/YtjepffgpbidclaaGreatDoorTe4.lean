/- For every input AuditTells returns true and leaves its arguments as they were. This is part 4 of 11. Conditions: those in the statements. -/
import Derived.Test.YtjepffgpbidclaaGreatDoorProg
import Derived.Test.YtjepffgpbidclaaGreatDoorTe3
import Derived.Lib.ValidU
import Derived.Lib.ItoaNum
import Derived.KernelRfl
import Derived.Conc.MuLone
import Derived.Shelf.Small.Bits
import Derived.Shelf.Utf8.RuneCount
import Derived.Shelf.Strconv.Atoi
import Derived.Shelf.Strconv.Itoa0
import Derived.Shelf.Strconv.Itoa1
import Derived.Shelf.LaysM
import Derived.Shelf.Strconv.Itoa2
import Derived.Shelf.Strconv.Itoa3
import Derived.Shelf.Strconv.AtoiErrFast
import Derived.Shelf.Strconv.ParseIntEmpty
import Derived.Shelf.Strconv.AtoiFail
import Derived.Shelf.Strconv.Clone
import Derived.Shelf.Strconv.SyntaxError
import Derived.Shelf.LaysC
import Derived.Shelf.Strconv.ToError
import Derived.Shelf.Strconv.Lower
import Derived.Shelf.Strconv.ParseUint10
import Derived.Shelf.Strconv.ParseUint10Empty
import Derived.Shelf.Strconv.ParseUint10Any
import Derived.Shelf.Strconv.ParseInt10
import Derived.Shelf.Strconv.AtoiLong
import Derived.Shelf.Strconv.AtoiInnerAll
import Derived.Shelf.Strconv.RangeError
import Derived.Shelf.Strconv.ToErrorRange
import Derived.Shelf.Strconv.AtoiAll
import Derived.Shelf.Strconv.ErrVarAll
import Derived.Shelf.Strings.Search1
import Derived.Shelf.Strings.Search2
import Derived.Shelf.Strings.Search3
import Derived.Shelf.Strings.Count
import Derived.Shelf.Strings.Shaped
import Derived.Shelf.Sort.Plain
import Derived.Shelf.Strings.Split
import Derived.Shelf.Strings.Fields
import Derived.Shelf.Strings.SplitShaped
import Derived.Shelf.Unicode.Latin
import Derived.Shelf.Unicode.Decode
import Derived.Shelf.Strings.RuneCount
import Derived.Shelf.Strings.Explode
import Derived.Shelf.Unicode.DecodeSlow
import Derived.Shelf.Unicode.DecodeAny
import Derived.Shelf.Unicode.Is16White
import Derived.Shelf.Unicode.IsSpaceAny
import Derived.Shelf.Unicode.Is16Any
import Derived.Shelf.Unicode.Is32Any
import Derived.Shelf.Unicode.ExclAny
import Derived.Ground.Names2Prog
import Derived.Shelf.Slices.Clone
import Derived.Shelf.Slices.CompactS
import Derived.Shelf.Slices.SearchI
import Derived.Shelf.Slices.Delete
import Derived.Shelf.Slices.Cells
import Derived.Shelf.Slices.In.SortNone
import Derived.Shelf.Slices.Empties
import Derived.Ground.SlgnProg
import Derived.Shelf.SlicesE.Clone
import Derived.Ground.NamesProg
import Derived.Shelf.Unicode.ValidAny
import Derived.Shelf.SlIter.Sorted
import Derived.Ground.GgzProg
import Derived.Shelf.SlIter.Collect
import Derived.WalkKit
import Derived.OwnWalkIn
import Derived.TacticsInMore
import Derived.LoopNIn
import Derived.LoopIn
import Derived.RangeFuncLeaves
noncomputable section
set_option maxRecDepth 100000
open Go Go.RowKit Go.Fl Go.Fl.Lk Go.Fx
namespace Go.En
abbrev Two(p:Prop):Prop:=p/\p
abbrev Hr:Type:=(List (ByteArray)->Prop)->Prop
def q22:Hr:=fun K=>K [B8 [104,111,109,101],B8 [115,104,111,112]]
abbrev Wm:Type:=Int->Int->Int->Int->Int->(Envt->Prop)->Prop
def q4v(Za:Hr):Wm:=fun salt hold cut one two K=>(26:Int)≠(0:Int)/\(↑((B8 [115]).size+(bsOf [Go.IntKind.u8.wrap ((97:Int)+salt.tmod (26:Int))]).size):Int)<=(9223372036854775807:Int)/\InI hold/\(50:Int)≠(0:Int)/\InI (hold.tmod (50:Int)*(20:Int))/\Lp2 (fun Qa Jm j8k=>[B8 [102,97,115,116,45,102,108,97,103],B8 [115,104,111,112,45,102,108,97,103],B8 [115,108,111,119,45,102,108,97,103],B8 [116,111,112,45,102,108,97,103]].length<=(9223372036854775807:Nat)->Cnd (Qa<(↑[B8 [102,97,115,116,45,102,108,97,103],B8 [115,104,111,112,45,102,108,97,103],B8 [115,108,111,119,45,102,108,97,103],B8 [116,111,112,45,102,108,97,103]].length:Int)) (((0:Int)<=Qa/\Qa<(↑[B8 [102,97,115,116,45,102,108,97,103],B8 [115,104,111,112,45,102,108,97,103],B8 [115,108,111,119,45,102,108,97,103],B8 [116,111,112,45,102,108,97,103]].length:Int))/\ ∀y2,[B8 [102,97,115,116,45,102,108,97,103],B8 [115,104,111,112,45,102,108,97,103],B8 [115,108,111,119,45,102,108,97,103],B8 [116,111,112,45,102,108,97,103]][Qa.toNat]? =some y2->Lp2 (fun Qg Up v07=>Cnd (Qg<=3) (InI (Qg*10)/\Sml (Up++[Val.mk (2:Int) (Qg*10) (B8 []) []]).length/\InI (Qg+1)/\v07 (Qg+1) (Up++[Val.mk (2:Int) (Qg*10) (B8 []) []])) (Sml (Jm++[Flg.mk y2 (2:Int) Up true (3:Int) [] [] [] (Srv.mk (3:Int) (B8 []) (B8 []) (B8 []) [])]).length/\InI (Qa+1)/\j8k (Qa+1) (Jm++[Flg.mk y2 (2:Int) Up true (3:Int) [] [] [] (Srv.mk (3:Int) (B8 []) (B8 []) (B8 []) [])]))) (1:Int) []) (Lp2 (fun Qh Ut w3z=>Cnd (Qh<2) (Za fun Qd=>At Qd Qh fun y4=>Za fun Zc=>At Zc Qh fun y7=>(↑((B8 [115]++bsOf [Go.IntKind.u8.wrap ((97:Int)+salt.tmod (26:Int))]).size+y7.size):Int)<=(9223372036854775807:Int)/\Sml (Ut++[Lay_.mk y4 (B8 [117,115,101,114]) (B8 [115]++bsOf [Go.IntKind.u8.wrap ((97:Int)+salt.tmod (26:Int))]++y7) (hold.tmod (50:Int)*(20:Int)) (0:Int) []]).length/\InI (Qh+1)/\w3z (Qh+1) (Ut++[Lay_.mk y4 (B8 [117,115,101,114]) (B8 [115]++bsOf [Go.IntKind.u8.wrap ((97:Int)+salt.tmod (26:Int))]++y7) (hold.tmod (50:Int)*(20:Int)) (0:Int) []])) (InI one/\(9998:Int)≠(0:Int)/\InI ((1:Int)+one.tmod (9998:Int))/\InI ((1:Int)+one.tmod (9998:Int)+(1:Int))/\InI two/\InI ((9999:Int) - ((1:Int)+one.tmod (9998:Int)))/\(9999:Int) - ((1:Int)+one.tmod (9998:Int))≠(0:Int)/\InI ((1:Int)+one.tmod (9998:Int)+(1:Int)+two.tmod ((9999:Int) - ((1:Int)+one.tmod (9998:Int))))/\InI (hold.tmod (50:Int)*(20:Int)+(1:Int))/\InI cut/\InI ((10000:Int) - hold.tmod (50:Int)*(20:Int))/\InI ((10000:Int) - hold.tmod (50:Int)*(20:Int) - (1:Int))/\(10000:Int) - hold.tmod (50:Int)*(20:Int) - (1:Int)≠(0:Int)/\InI (hold.tmod (50:Int)*(20:Int)+(1:Int)+cut.tmod ((10000:Int) - hold.tmod (50:Int)*(20:Int) - (1:Int)))/\Lp2 (fun Qd Uq j4z=>Cnd (Qd<4) ((2:Int)≠(0:Int)/\((0:Int)<=Qd/\Qd<(↑[B8 [102,97,115,116,45,102,108,97,103],B8 [115,104,111,112,45,102,108,97,103],B8 [115,108,111,119,45,102,108,97,103],B8 [116,111,112,45,102,108,97,103]].length:Int))/\ ∀y4,[B8 [102,97,115,116,45,102,108,97,103],B8 [115,104,111,112,45,102,108,97,103],B8 [115,108,111,119,45,102,108,97,103],B8 [116,111,112,45,102,108,97,103]][Qd.toNat]? =some y4->(((0:Int)<=Qd/\Qd<(↑[B8 [98,108,117,101],B8 [102,97,115,116],B8 [103,114,101,101,110],B8 [115,108,111,119]].length:Int))/\ ∀y6,[B8 [98,108,117,101],B8 [102,97,115,116],B8 [103,114,101,101,110],B8 [115,108,111,119]][Qd.toNat]? =some y6->(Za fun Re=>((0:Int)<=Qd.tmod (2:Int)/\Qd.tmod (2:Int)<(↑Re.length:Int))/\ ∀y9,Re[(Qd.tmod (2:Int)).toNat]? =some y9->(↑((B8 [115]++bsOf [Go.IntKind.u8.wrap ((97:Int)+salt.tmod (26:Int))]).size+(bsOf [Go.IntKind.u8.wrap ((48:Int)+Go.IntKind.u8.wrap Qd)]).size):Int)<=(9223372036854775807:Int)/\Cnd ((2:Int)<=Qd) (Sml (Uq++[Exper.mk y6 y9 y4 (B8 [115]++bsOf [Go.IntKind.u8.wrap ((97:Int)+salt.tmod (26:Int))]++bsOf [Go.IntKind.u8.wrap ((48:Int)+Go.IntKind.u8.wrap Qd)]) (2:Int) [Spn.mk (hold.tmod (50:Int)*(20:Int)+(1:Int)+cut.tmod ((10000:Int) - hold.tmod (50:Int)*(20:Int) - (1:Int))) (10000:Int)] [Rng.mk (0:Int) ((1:Int)+one.tmod (9998:Int)) (1:Int),Rng.mk ((1:Int)+one.tmod (9998:Int)) ((1:Int)+one.tmod (9998:Int)+(1:Int)+two.tmod ((9999:Int) - ((1:Int)+one.tmod (9998:Int)))) (2:Int),Rng.mk ((1:Int)+one.tmod (9998:Int)+(1:Int)+two.tmod ((9999:Int) - ((1:Int)+one.tmod (9998:Int)))) (10000:Int) (3:Int)] (Ex.mk (1:Int) (B8 []) (B8 []) [] [])]).length/\InI (Qd+1)/\j4z (Qd+1) (Uq++[Exper.mk y6 y9 y4 (B8 [115]++bsOf [Go.IntKind.u8.wrap ((97:Int)+salt.tmod (26:Int))]++bsOf [Go.IntKind.u8.wrap ((48:Int)+Go.IntKind.u8.wrap Qd)]) (2:Int) [Spn.mk (hold.tmod (50:Int)*(20:Int)+(1:Int)+cut.tmod ((10000:Int) - hold.tmod (50:Int)*(20:Int) - (1:Int))) (10000:Int)] [Rng.mk (0:Int) ((1:Int)+one.tmod (9998:Int)) (1:Int),Rng.mk ((1:Int)+one.tmod (9998:Int)) ((1:Int)+one.tmod (9998:Int)+(1:Int)+two.tmod ((9999:Int) - ((1:Int)+one.tmod (9998:Int)))) (2:Int),Rng.mk ((1:Int)+one.tmod (9998:Int)+(1:Int)+two.tmod ((9999:Int) - ((1:Int)+one.tmod (9998:Int)))) (10000:Int) (3:Int)] (Ex.mk (1:Int) (B8 []) (B8 []) [] [])])) (Sml (Uq++[Exper.mk y6 y9 y4 (B8 [115]++bsOf [Go.IntKind.u8.wrap ((97:Int)+salt.tmod (26:Int))]++bsOf [Go.IntKind.u8.wrap ((48:Int)+Go.IntKind.u8.wrap Qd)]) (2:Int) [Spn.mk (hold.tmod (50:Int)*(20:Int)) (hold.tmod (50:Int)*(20:Int)+(1:Int)+cut.tmod ((10000:Int) - hold.tmod (50:Int)*(20:Int) - (1:Int)))] [Rng.mk (0:Int) ((1:Int)+one.tmod (9998:Int)) (1:Int),Rng.mk ((1:Int)+one.tmod (9998:Int)) ((1:Int)+one.tmod (9998:Int)+(1:Int)+two.tmod ((9999:Int) - ((1:Int)+one.tmod (9998:Int)))) (2:Int),Rng.mk ((1:Int)+one.tmod (9998:Int)+(1:Int)+two.tmod ((9999:Int) - ((1:Int)+one.tmod (9998:Int)))) (10000:Int) (3:Int)] (Ex.mk (1:Int) (B8 []) (B8 []) [] [])]).length/\InI (Qd+1)/\j4z (Qd+1) (Uq++[Exper.mk y6 y9 y4 (B8 [115]++bsOf [Go.IntKind.u8.wrap ((97:Int)+salt.tmod (26:Int))]++bsOf [Go.IntKind.u8.wrap ((48:Int)+Go.IntKind.u8.wrap Qd)]) (2:Int) [Spn.mk (hold.tmod (50:Int)*(20:Int)) (hold.tmod (50:Int)*(20:Int)+(1:Int)+cut.tmod ((10000:Int) - hold.tmod (50:Int)*(20:Int) - (1:Int)))] [Rng.mk (0:Int) ((1:Int)+one.tmod (9998:Int)) (1:Int),Rng.mk ((1:Int)+one.tmod (9998:Int)) ((1:Int)+one.tmod (9998:Int)+(1:Int)+two.tmod ((9999:Int) - ((1:Int)+one.tmod (9998:Int)))) (2:Int),Rng.mk ((1:Int)+one.tmod (9998:Int)+(1:Int)+two.tmod ((9999:Int) - ((1:Int)+one.tmod (9998:Int)))) (10000:Int) (3:Int)] (Ex.mk (1:Int) (B8 []) (B8 []) [] [])])))/\(↑((B8 [115]++bsOf [Go.IntKind.u8.wrap ((97:Int)+salt.tmod (26:Int))]).size+(bsOf [Go.IntKind.u8.wrap ((48:Int)+Go.IntKind.u8.wrap Qd)]).size):Int)<=(9223372036854775807:Int)/\Za fun Re=>((0:Int)<=Qd.tmod (2:Int)/\Qd.tmod (2:Int)<(↑Re.length:Int))/\ ∀y9,Re[(Qd.tmod (2:Int)).toNat]? =some y9->Cnd ((2:Int)<=Qd) (Sml (Uq++[Exper.mk y6 y9 y4 (B8 [115]++bsOf [Go.IntKind.u8.wrap ((97:Int)+salt.tmod (26:Int))]++bsOf [Go.IntKind.u8.wrap ((48:Int)+Go.IntKind.u8.wrap Qd)]) (2:Int) [Spn.mk (hold.tmod (50:Int)*(20:Int)+(1:Int)+cut.tmod ((10000:Int) - hold.tmod (50:Int)*(20:Int) - (1:Int))) (10000:Int)] [Rng.mk (0:Int) ((1:Int)+one.tmod (9998:Int)) (1:Int),Rng.mk ((1:Int)+one.tmod (9998:Int)) ((1:Int)+one.tmod (9998:Int)+(1:Int)+two.tmod ((9999:Int) - ((1:Int)+one.tmod (9998:Int)))) (2:Int),Rng.mk ((1:Int)+one.tmod (9998:Int)+(1:Int)+two.tmod ((9999:Int) - ((1:Int)+one.tmod (9998:Int)))) (10000:Int) (3:Int)] (Ex.mk (1:Int) (B8 []) (B8 []) [] [])]).length/\InI (Qd+1)/\j4z (Qd+1) (Uq++[Exper.mk y6 y9 y4 (B8 [115]++bsOf [Go.IntKind.u8.wrap ((97:Int)+salt.tmod (26:Int))]++bsOf [Go.IntKind.u8.wrap ((48:Int)+Go.IntKind.u8.wrap Qd)]) (2:Int) [Spn.mk (hold.tmod (50:Int)*(20:Int)+(1:Int)+cut.tmod ((10000:Int) - hold.tmod (50:Int)*(20:Int) - (1:Int))) (10000:Int)] [Rng.mk (0:Int) ((1:Int)+one.tmod (9998:Int)) (1:Int),Rng.mk ((1:Int)+one.tmod (9998:Int)) ((1:Int)+one.tmod (9998:Int)+(1:Int)+two.tmod ((9999:Int) - ((1:Int)+one.tmod (9998:Int)))) (2:Int),Rng.mk ((1:Int)+one.tmod (9998:Int)+(1:Int)+two.tmod ((9999:Int) - ((1:Int)+one.tmod (9998:Int)))) (10000:Int) (3:Int)] (Ex.mk (1:Int) (B8 []) (B8 []) [] [])])) (Sml (Uq++[Exper.mk y6 y9 y4 (B8 [115]++bsOf [Go.IntKind.u8.wrap ((97:Int)+salt.tmod (26:Int))]++bsOf [Go.IntKind.u8.wrap ((48:Int)+Go.IntKind.u8.wrap Qd)]) (2:Int) [Spn.mk (hold.tmod (50:Int)*(20:Int)) (hold.tmod (50:Int)*(20:Int)+(1:Int)+cut.tmod ((10000:Int) - hold.tmod (50:Int)*(20:Int) - (1:Int)))] [Rng.mk (0:Int) ((1:Int)+one.tmod (9998:Int)) (1:Int),Rng.mk ((1:Int)+one.tmod (9998:Int)) ((1:Int)+one.tmod (9998:Int)+(1:Int)+two.tmod ((9999:Int) - ((1:Int)+one.tmod (9998:Int)))) (2:Int),Rng.mk ((1:Int)+one.tmod (9998:Int)+(1:Int)+two.tmod ((9999:Int) - ((1:Int)+one.tmod (9998:Int)))) (10000:Int) (3:Int)] (Ex.mk (1:Int) (B8 []) (B8 []) [] [])]).length/\InI (Qd+1)/\j4z (Qd+1) (Uq++[Exper.mk y6 y9 y4 (B8 [115]++bsOf [Go.IntKind.u8.wrap ((97:Int)+salt.tmod (26:Int))]++bsOf [Go.IntKind.u8.wrap ((48:Int)+Go.IntKind.u8.wrap Qd)]) (2:Int) [Spn.mk (hold.tmod (50:Int)*(20:Int)) (hold.tmod (50:Int)*(20:Int)+(1:Int)+cut.tmod ((10000:Int) - hold.tmod (50:Int)*(20:Int) - (1:Int)))] [Rng.mk (0:Int) ((1:Int)+one.tmod (9998:Int)) (1:Int),Rng.mk ((1:Int)+one.tmod (9998:Int)) ((1:Int)+one.tmod (9998:Int)+(1:Int)+two.tmod ((9999:Int) - ((1:Int)+one.tmod (9998:Int)))) (2:Int),Rng.mk ((1:Int)+one.tmod (9998:Int)+(1:Int)+two.tmod ((9999:Int) - ((1:Int)+one.tmod (9998:Int)))) (10000:Int) (3:Int)] (Ex.mk (1:Int) (B8 []) (B8 []) [] [])])))/\(Za fun Zc=>((0:Int)<=Qd.tmod (2:Int)/\Qd.tmod (2:Int)<(↑Zc.length:Int))/\ ∀y7,Zc[(Qd.tmod (2:Int)).toNat]? =some y7->(((0:Int)<=Qd/\Qd<(↑[B8 [98,108,117,101],B8 [102,97,115,116],B8 [103,114,101,101,110],B8 [115,108,111,119]].length:Int))/\ ∀y9,[B8 [98,108,117,101],B8 [102,97,115,116],B8 [103,114,101,101,110],B8 [115,108,111,119]][Qd.toNat]? =some y9->(↑((B8 [115]++bsOf [Go.IntKind.u8.wrap ((97:Int)+salt.tmod (26:Int))]).size+(bsOf [Go.IntKind.u8.wrap ((48:Int)+Go.IntKind.u8.wrap Qd)]).size):Int)<=(9223372036854775807:Int)/\Cnd ((2:Int)<=Qd) (Sml (Uq++[Exper.mk y9 y7 y4 (B8 [115]++bsOf [Go.IntKind.u8.wrap ((97:Int)+salt.tmod (26:Int))]++bsOf [Go.IntKind.u8.wrap ((48:Int)+Go.IntKind.u8.wrap Qd)]) (2:Int) [Spn.mk (hold.tmod (50:Int)*(20:Int)+(1:Int)+cut.tmod ((10000:Int) - hold.tmod (50:Int)*(20:Int) - (1:Int))) (10000:Int)] [Rng.mk (0:Int) ((1:Int)+one.tmod (9998:Int)) (1:Int),Rng.mk ((1:Int)+one.tmod (9998:Int)) ((1:Int)+one.tmod (9998:Int)+(1:Int)+two.tmod ((9999:Int) - ((1:Int)+one.tmod (9998:Int)))) (2:Int),Rng.mk ((1:Int)+one.tmod (9998:Int)+(1:Int)+two.tmod ((9999:Int) - ((1:Int)+one.tmod (9998:Int)))) (10000:Int) (3:Int)] (Ex.mk (1:Int) (B8 []) (B8 []) [] [])]).length/\InI (Qd+1)/\j4z (Qd+1) (Uq++[Exper.mk y9 y7 y4 (B8 [115]++bsOf [Go.IntKind.u8.wrap ((97:Int)+salt.tmod (26:Int))]++bsOf [Go.IntKind.u8.wrap ((48:Int)+Go.IntKind.u8.wrap Qd)]) (2:Int) [Spn.mk (hold.tmod (50:Int)*(20:Int)+(1:Int)+cut.tmod ((10000:Int) - hold.tmod (50:Int)*(20:Int) - (1:Int))) (10000:Int)] [Rng.mk (0:Int) ((1:Int)+one.tmod (9998:Int)) (1:Int),Rng.mk ((1:Int)+one.tmod (9998:Int)) ((1:Int)+one.tmod (9998:Int)+(1:Int)+two.tmod ((9999:Int) - ((1:Int)+one.tmod (9998:Int)))) (2:Int),Rng.mk ((1:Int)+one.tmod (9998:Int)+(1:Int)+two.tmod ((9999:Int) - ((1:Int)+one.tmod (9998:Int)))) (10000:Int) (3:Int)] (Ex.mk (1:Int) (B8 []) (B8 []) [] [])])) (Sml (Uq++[Exper.mk y9 y7 y4 (B8 [115]++bsOf [Go.IntKind.u8.wrap ((97:Int)+salt.tmod (26:Int))]++bsOf [Go.IntKind.u8.wrap ((48:Int)+Go.IntKind.u8.wrap Qd)]) (2:Int) [Spn.mk (hold.tmod (50:Int)*(20:Int)) (hold.tmod (50:Int)*(20:Int)+(1:Int)+cut.tmod ((10000:Int) - hold.tmod (50:Int)*(20:Int) - (1:Int)))] [Rng.mk (0:Int) ((1:Int)+one.tmod (9998:Int)) (1:Int),Rng.mk ((1:Int)+one.tmod (9998:Int)) ((1:Int)+one.tmod (9998:Int)+(1:Int)+two.tmod ((9999:Int) - ((1:Int)+one.tmod (9998:Int)))) (2:Int),Rng.mk ((1:Int)+one.tmod (9998:Int)+(1:Int)+two.tmod ((9999:Int) - ((1:Int)+one.tmod (9998:Int)))) (10000:Int) (3:Int)] (Ex.mk (1:Int) (B8 []) (B8 []) [] [])]).length/\InI (Qd+1)/\j4z (Qd+1) (Uq++[Exper.mk y9 y7 y4 (B8 [115]++bsOf [Go.IntKind.u8.wrap ((97:Int)+salt.tmod (26:Int))]++bsOf [Go.IntKind.u8.wrap ((48:Int)+Go.IntKind.u8.wrap Qd)]) (2:Int) [Spn.mk (hold.tmod (50:Int)*(20:Int)) (hold.tmod (50:Int)*(20:Int)+(1:Int)+cut.tmod ((10000:Int) - hold.tmod (50:Int)*(20:Int) - (1:Int)))] [Rng.mk (0:Int) ((1:Int)+one.tmod (9998:Int)) (1:Int),Rng.mk ((1:Int)+one.tmod (9998:Int)) ((1:Int)+one.tmod (9998:Int)+(1:Int)+two.tmod ((9999:Int) - ((1:Int)+one.tmod (9998:Int)))) (2:Int),Rng.mk ((1:Int)+one.tmod (9998:Int)+(1:Int)+two.tmod ((9999:Int) - ((1:Int)+one.tmod (9998:Int)))) (10000:Int) (3:Int)] (Ex.mk (1:Int) (B8 []) (B8 []) [] [])])))/\(↑((B8 [115]++bsOf [Go.IntKind.u8.wrap ((97:Int)+salt.tmod (26:Int))]).size+(bsOf [Go.IntKind.u8.wrap ((48:Int)+Go.IntKind.u8.wrap Qd)]).size):Int)<=(9223372036854775807:Int)/\((0:Int)<=Qd/\Qd<(↑[B8 [98,108,117,101],B8 [102,97,115,116],B8 [103,114,101,101,110],B8 [115,108,111,119]].length:Int))/\ ∀y9,[B8 [98,108,117,101],B8 [102,97,115,116],B8 [103,114,101,101,110],B8 [115,108,111,119]][Qd.toNat]? =some y9->Cnd ((2:Int)<=Qd) (Sml (Uq++[Exper.mk y9 y7 y4 (B8 [115]++bsOf [Go.IntKind.u8.wrap ((97:Int)+salt.tmod (26:Int))]++bsOf [Go.IntKind.u8.wrap ((48:Int)+Go.IntKind.u8.wrap Qd)]) (2:Int) [Spn.mk (hold.tmod (50:Int)*(20:Int)+(1:Int)+cut.tmod ((10000:Int) - hold.tmod (50:Int)*(20:Int) - (1:Int))) (10000:Int)] [Rng.mk (0:Int) ((1:Int)+one.tmod (9998:Int)) (1:Int),Rng.mk ((1:Int)+one.tmod (9998:Int)) ((1:Int)+one.tmod (9998:Int)+(1:Int)+two.tmod ((9999:Int) - ((1:Int)+one.tmod (9998:Int)))) (2:Int),Rng.mk ((1:Int)+one.tmod (9998:Int)+(1:Int)+two.tmod ((9999:Int) - ((1:Int)+one.tmod (9998:Int)))) (10000:Int) (3:Int)] (Ex.mk (1:Int) (B8 []) (B8 []) [] [])]).length/\InI (Qd+1)/\j4z (Qd+1) (Uq++[Exper.mk y9 y7 y4 (B8 [115]++bsOf [Go.IntKind.u8.wrap ((97:Int)+salt.tmod (26:Int))]++bsOf [Go.IntKind.u8.wrap ((48:Int)+Go.IntKind.u8.wrap Qd)]) (2:Int) [Spn.mk (hold.tmod (50:Int)*(20:Int)+(1:Int)+cut.tmod ((10000:Int) - hold.tmod (50:Int)*(20:Int) - (1:Int))) (10000:Int)] [Rng.mk (0:Int) ((1:Int)+one.tmod (9998:Int)) (1:Int),Rng.mk ((1:Int)+one.tmod (9998:Int)) ((1:Int)+one.tmod (9998:Int)+(1:Int)+two.tmod ((9999:Int) - ((1:Int)+one.tmod (9998:Int)))) (2:Int),Rng.mk ((1:Int)+one.tmod (9998:Int)+(1:Int)+two.tmod ((9999:Int) - ((1:Int)+one.tmod (9998:Int)))) (10000:Int) (3:Int)] (Ex.mk (1:Int) (B8 []) (B8 []) [] [])])) (Sml (Uq++[Exper.mk y9 y7 y4 (B8 [115]++bsOf [Go.IntKind.u8.wrap ((97:Int)+salt.tmod (26:Int))]++bsOf [Go.IntKind.u8.wrap ((48:Int)+Go.IntKind.u8.wrap Qd)]) (2:Int) [Spn.mk (hold.tmod (50:Int)*(20:Int)) (hold.tmod (50:Int)*(20:Int)+(1:Int)+cut.tmod ((10000:Int) - hold.tmod (50:Int)*(20:Int) - (1:Int)))] [Rng.mk (0:Int) ((1:Int)+one.tmod (9998:Int)) (1:Int),Rng.mk ((1:Int)+one.tmod (9998:Int)) ((1:Int)+one.tmod (9998:Int)+(1:Int)+two.tmod ((9999:Int) - ((1:Int)+one.tmod (9998:Int)))) (2:Int),Rng.mk ((1:Int)+one.tmod (9998:Int)+(1:Int)+two.tmod ((9999:Int) - ((1:Int)+one.tmod (9998:Int)))) (10000:Int) (3:Int)] (Ex.mk (1:Int) (B8 []) (B8 []) [] [])]).length/\InI (Qd+1)/\j4z (Qd+1) (Uq++[Exper.mk y9 y7 y4 (B8 [115]++bsOf [Go.IntKind.u8.wrap ((97:Int)+salt.tmod (26:Int))]++bsOf [Go.IntKind.u8.wrap ((48:Int)+Go.IntKind.u8.wrap Qd)]) (2:Int) [Spn.mk (hold.tmod (50:Int)*(20:Int)) (hold.tmod (50:Int)*(20:Int)+(1:Int)+cut.tmod ((10000:Int) - hold.tmod (50:Int)*(20:Int) - (1:Int)))] [Rng.mk (0:Int) ((1:Int)+one.tmod (9998:Int)) (1:Int),Rng.mk ((1:Int)+one.tmod (9998:Int)) ((1:Int)+one.tmod (9998:Int)+(1:Int)+two.tmod ((9999:Int) - ((1:Int)+one.tmod (9998:Int)))) (2:Int),Rng.mk ((1:Int)+one.tmod (9998:Int)+(1:Int)+two.tmod ((9999:Int) - ((1:Int)+one.tmod (9998:Int)))) (10000:Int) (3:Int)] (Ex.mk (1:Int) (B8 []) (B8 []) [] [])])))/\(↑((B8 [115]++bsOf [Go.IntKind.u8.wrap ((97:Int)+salt.tmod (26:Int))]).size+(bsOf [Go.IntKind.u8.wrap ((48:Int)+Go.IntKind.u8.wrap Qd)]).size):Int)<=(9223372036854775807:Int)/\(((0:Int)<=Qd/\Qd<(↑[B8 [98,108,117,101],B8 [102,97,115,116],B8 [103,114,101,101,110],B8 [115,108,111,119]].length:Int))/\ ∀y6,[B8 [98,108,117,101],B8 [102,97,115,116],B8 [103,114,101,101,110],B8 [115,108,111,119]][Qd.toNat]? =some y6->Za fun Re=>((0:Int)<=Qd.tmod (2:Int)/\Qd.tmod (2:Int)<(↑Re.length:Int))/\ ∀y9,Re[(Qd.tmod (2:Int)).toNat]? =some y9->Cnd ((2:Int)<=Qd) (Sml (Uq++[Exper.mk y6 y9 y4 (B8 [115]++bsOf [Go.IntKind.u8.wrap ((97:Int)+salt.tmod (26:Int))]++bsOf [Go.IntKind.u8.wrap ((48:Int)+Go.IntKind.u8.wrap Qd)]) (2:Int) [Spn.mk (hold.tmod (50:Int)*(20:Int)+(1:Int)+cut.tmod ((10000:Int) - hold.tmod (50:Int)*(20:Int) - (1:Int))) (10000:Int)] [Rng.mk (0:Int) ((1:Int)+one.tmod (9998:Int)) (1:Int),Rng.mk ((1:Int)+one.tmod (9998:Int)) ((1:Int)+one.tmod (9998:Int)+(1:Int)+two.tmod ((9999:Int) - ((1:Int)+one.tmod (9998:Int)))) (2:Int),Rng.mk ((1:Int)+one.tmod (9998:Int)+(1:Int)+two.tmod ((9999:Int) - ((1:Int)+one.tmod (9998:Int)))) (10000:Int) (3:Int)] (Ex.mk (1:Int) (B8 []) (B8 []) [] [])]).length/\InI (Qd+1)/\j4z (Qd+1) (Uq++[Exper.mk y6 y9 y4 (B8 [115]++bsOf [Go.IntKind.u8.wrap ((97:Int)+salt.tmod (26:Int))]++bsOf [Go.IntKind.u8.wrap ((48:Int)+Go.IntKind.u8.wrap Qd)]) (2:Int) [Spn.mk (hold.tmod (50:Int)*(20:Int)+(1:Int)+cut.tmod ((10000:Int) - hold.tmod (50:Int)*(20:Int) - (1:Int))) (10000:Int)] [Rng.mk (0:Int) ((1:Int)+one.tmod (9998:Int)) (1:Int),Rng.mk ((1:Int)+one.tmod (9998:Int)) ((1:Int)+one.tmod (9998:Int)+(1:Int)+two.tmod ((9999:Int) - ((1:Int)+one.tmod (9998:Int)))) (2:Int),Rng.mk ((1:Int)+one.tmod (9998:Int)+(1:Int)+two.tmod ((9999:Int) - ((1:Int)+one.tmod (9998:Int)))) (10000:Int) (3:Int)] (Ex.mk (1:Int) (B8 []) (B8 []) [] [])])) (Sml (Uq++[Exper.mk y6 y9 y4 (B8 [115]++bsOf [Go.IntKind.u8.wrap ((97:Int)+salt.tmod (26:Int))]++bsOf [Go.IntKind.u8.wrap ((48:Int)+Go.IntKind.u8.wrap Qd)]) (2:Int) [Spn.mk (hold.tmod (50:Int)*(20:Int)) (hold.tmod (50:Int)*(20:Int)+(1:Int)+cut.tmod ((10000:Int) - hold.tmod (50:Int)*(20:Int) - (1:Int)))] [Rng.mk (0:Int) ((1:Int)+one.tmod (9998:Int)) (1:Int),Rng.mk ((1:Int)+one.tmod (9998:Int)) ((1:Int)+one.tmod (9998:Int)+(1:Int)+two.tmod ((9999:Int) - ((1:Int)+one.tmod (9998:Int)))) (2:Int),Rng.mk ((1:Int)+one.tmod (9998:Int)+(1:Int)+two.tmod ((9999:Int) - ((1:Int)+one.tmod (9998:Int)))) (10000:Int) (3:Int)] (Ex.mk (1:Int) (B8 []) (B8 []) [] [])]).length/\InI (Qd+1)/\j4z (Qd+1) (Uq++[Exper.mk y6 y9 y4 (B8 [115]++bsOf [Go.IntKind.u8.wrap ((97:Int)+salt.tmod (26:Int))]++bsOf [Go.IntKind.u8.wrap ((48:Int)+Go.IntKind.u8.wrap Qd)]) (2:Int) [Spn.mk (hold.tmod (50:Int)*(20:Int)) (hold.tmod (50:Int)*(20:Int)+(1:Int)+cut.tmod ((10000:Int) - hold.tmod (50:Int)*(20:Int) - (1:Int)))] [Rng.mk (0:Int) ((1:Int)+one.tmod (9998:Int)) (1:Int),Rng.mk ((1:Int)+one.tmod (9998:Int)) ((1:Int)+one.tmod (9998:Int)+(1:Int)+two.tmod ((9999:Int) - ((1:Int)+one.tmod (9998:Int)))) (2:Int),Rng.mk ((1:Int)+one.tmod (9998:Int)+(1:Int)+two.tmod ((9999:Int) - ((1:Int)+one.tmod (9998:Int)))) (10000:Int) (3:Int)] (Ex.mk (1:Int) (B8 []) (B8 []) [] [])])))/\Za fun Zc=>((0:Int)<=Qd.tmod (2:Int)/\Qd.tmod (2:Int)<(↑Zc.length:Int))/\ ∀y7,Zc[(Qd.tmod (2:Int)).toNat]? =some y7->((0:Int)<=Qd/\Qd<(↑[B8 [98,108,117,101],B8 [102,97,115,116],B8 [103,114,101,101,110],B8 [115,108,111,119]].length:Int))/\ ∀y9,[B8 [98,108,117,101],B8 [102,97,115,116],B8 [103,114,101,101,110],B8 [115,108,111,119]][Qd.toNat]? =some y9->Cnd ((2:Int)<=Qd) (Sml (Uq++[Exper.mk y9 y7 y4 (B8 [115]++bsOf [Go.IntKind.u8.wrap ((97:Int)+salt.tmod (26:Int))]++bsOf [Go.IntKind.u8.wrap ((48:Int)+Go.IntKind.u8.wrap Qd)]) (2:Int) [Spn.mk (hold.tmod (50:Int)*(20:Int)+(1:Int)+cut.tmod ((10000:Int) - hold.tmod (50:Int)*(20:Int) - (1:Int))) (10000:Int)] [Rng.mk (0:Int) ((1:Int)+one.tmod (9998:Int)) (1:Int),Rng.mk ((1:Int)+one.tmod (9998:Int)) ((1:Int)+one.tmod (9998:Int)+(1:Int)+two.tmod ((9999:Int) - ((1:Int)+one.tmod (9998:Int)))) (2:Int),Rng.mk ((1:Int)+one.tmod (9998:Int)+(1:Int)+two.tmod ((9999:Int) - ((1:Int)+one.tmod (9998:Int)))) (10000:Int) (3:Int)] (Ex.mk (1:Int) (B8 []) (B8 []) [] [])]).length/\InI (Qd+1)/\j4z (Qd+1) (Uq++[Exper.mk y9 y7 y4 (B8 [115]++bsOf [Go.IntKind.u8.wrap ((97:Int)+salt.tmod (26:Int))]++bsOf [Go.IntKind.u8.wrap ((48:Int)+Go.IntKind.u8.wrap Qd)]) (2:Int) [Spn.mk (hold.tmod (50:Int)*(20:Int)+(1:Int)+cut.tmod ((10000:Int) - hold.tmod (50:Int)*(20:Int) - (1:Int))) (10000:Int)] [Rng.mk (0:Int) ((1:Int)+one.tmod (9998:Int)) (1:Int),Rng.mk ((1:Int)+one.tmod (9998:Int)) ((1:Int)+one.tmod (9998:Int)+(1:Int)+two.tmod ((9999:Int) - ((1:Int)+one.tmod (9998:Int)))) (2:Int),Rng.mk ((1:Int)+one.tmod (9998:Int)+(1:Int)+two.tmod ((9999:Int) - ((1:Int)+one.tmod (9998:Int)))) (10000:Int) (3:Int)] (Ex.mk (1:Int) (B8 []) (B8 []) [] [])])) (Sml (Uq++[Exper.mk y9 y7 y4 (B8 [115]++bsOf [Go.IntKind.u8.wrap ((97:Int)+salt.tmod (26:Int))]++bsOf [Go.IntKind.u8.wrap ((48:Int)+Go.IntKind.u8.wrap Qd)]) (2:Int) [Spn.mk (hold.tmod (50:Int)*(20:Int)) (hold.tmod (50:Int)*(20:Int)+(1:Int)+cut.tmod ((10000:Int) - hold.tmod (50:Int)*(20:Int) - (1:Int)))] [Rng.mk (0:Int) ((1:Int)+one.tmod (9998:Int)) (1:Int),Rng.mk ((1:Int)+one.tmod (9998:Int)) ((1:Int)+one.tmod (9998:Int)+(1:Int)+two.tmod ((9999:Int) - ((1:Int)+one.tmod (9998:Int)))) (2:Int),Rng.mk ((1:Int)+one.tmod (9998:Int)+(1:Int)+two.tmod ((9999:Int) - ((1:Int)+one.tmod (9998:Int)))) (10000:Int) (3:Int)] (Ex.mk (1:Int) (B8 []) (B8 []) [] [])]).length/\InI (Qd+1)/\j4z (Qd+1) (Uq++[Exper.mk y9 y7 y4 (B8 [115]++bsOf [Go.IntKind.u8.wrap ((97:Int)+salt.tmod (26:Int))]++bsOf [Go.IntKind.u8.wrap ((48:Int)+Go.IntKind.u8.wrap Qd)]) (2:Int) [Spn.mk (hold.tmod (50:Int)*(20:Int)) (hold.tmod (50:Int)*(20:Int)+(1:Int)+cut.tmod ((10000:Int) - hold.tmod (50:Int)*(20:Int) - (1:Int)))] [Rng.mk (0:Int) ((1:Int)+one.tmod (9998:Int)) (1:Int),Rng.mk ((1:Int)+one.tmod (9998:Int)) ((1:Int)+one.tmod (9998:Int)+(1:Int)+two.tmod ((9999:Int) - ((1:Int)+one.tmod (9998:Int)))) (2:Int),Rng.mk ((1:Int)+one.tmod (9998:Int)+(1:Int)+two.tmod ((9999:Int) - ((1:Int)+one.tmod (9998:Int)))) (10000:Int) (3:Int)] (Ex.mk (1:Int) (B8 []) (B8 []) [] [])]))) (K (Envt.mk (Sett.mk (B8 []) (B8 []) (0:Int)) [] [] Jm Ut Uq))) (0:Int) [])) (0:Int) [])) (0:Int) []
def Gs:Wm:=q4v q22
abbrev q38:Type:=ByteArray->(Subj->Prop)->Prop
def q7d:q38:=fun id K=>K (Subj.mk [Ctxt.mk (B8 [117,115,101,114]) id []])
abbrev Ui:Type:=Subj->ByteArray->(Int->Prop)->Prop
def Hs:Ui:=fun s kind K=>Fits s.1->Lp1 (fun Qk q6h=>CAt s.1 Qk (fun y2=>Cnd (y2.1=kind) (K Qk) (InI (Qk+1)/\q6h (Qk+1))) (K (-1:Int))) (0:Int)
abbrev Vr:Type:=Val->(Val->Prop)->Prop
def Jo:Vr:=fun v K=> ∀n0,(n0=true->v.4=[])->Cnd (n0=true) (K (Val.mk v.1 v.2 v.3 [])) (Sml ([]++v.4).length/\K (Val.mk v.1 v.2 v.3 ([]++v.4)))
abbrev Uj:Type:=Attr->(Attr->Prop)->Prop
def q23(Z3:Vr):Uj:=fun a K=>Z3 (Val.mk a.2.1 a.2.2 a.2.3 a.2.4) fun Qa=>K (Attr.mk a.1 Qa)
def Ri:Uj:=q23 Jo
abbrev Ht:Type:=Ctxt->(Ctxt->Prop)->Prop
def q7e(Ru:Uj):Ht:=fun c K=>Fits c.3->((0:Int)<=(0:Int)/\(0:Int)<=(↑c.3.length:Int)/\Sml (↑c.3.length:Int).toNat)/\(Fits c.3->Lp2 (fun Qh Ut w3z=>CAt c.3 Ut (fun y3=>Ru (Attr.mk y3.1 (Val.mk y3.2.1 y3.2.2 y3.2.3 y3.2.4)) fun Qr=>Sml (Qh++[Attr.mk Qr.1 (Val.mk Qr.2.1 Qr.2.2 Qr.2.3 Qr.2.4)]).length/\InI (Ut+1)/\w3z (Qh++[Attr.mk Qr.1 (Val.mk Qr.2.1 Qr.2.2 Qr.2.3 Qr.2.4)]) (Ut+1)) (K (Ctxt.mk c.1 c.2 Qh))) (List.replicate (Int.toNat (0:Int)) (Attr.mk (B8 []) (Val.mk (0:Int) (0:Int) (B8 []) []))) (0:Int))
def q07:Ht:=q7e Ri
abbrev Zu:Type:=Subj->ByteArray->(Ctxt->Bool->Prop)->Prop
def q9x(Jv:Ui)(q2p:Ht):Zu:=fun s kind K=>Jv (Subj.mk s.1) kind fun Qa=>Cnd (Qa<0) (K (Ctxt.mk (B8 []) (B8 []) []) false) (At s.1 Qa fun y1=>q2p y1 fun Qd=>K Qd true)
def Wz:Zu:=q9x Hs q07
abbrev q3m:Type:=List (List Int)->(List (Int)->Prop)->Prop
def q3n:q3m:=fun fields K=>Fits fields->Lp2 (fun Qk Hq w60=>CAt fields Hq (fun y2=>Lp2 (fun Qg Up v07=>Cnd ((0:Int)<=Up) (Fits y2->InI ((8:Int)*Up)/\(0:Int)<=(8:Int)*Up/\Sml (Qg++[Go.IntKind.u8.wrap ((Go.IntKind.u64.wrap (↑y2.length:Int)).fdiv ((2:Int) ^ Min.min ((8:Int)*Up).toNat (64:Nat)))]).length/\InI (Up - 1)/\v07 (Qg++[Go.IntKind.u8.wrap ((Go.IntKind.u64.wrap (↑y2.length:Int)).fdiv ((2:Int) ^ Min.min ((8:Int)*Up).toNat (64:Nat)))]) (Up - 1)) (Sml (Qg++y2).length/\InI (Hq+1)/\w60 (Qg++y2) (Hq+1))) Qk (7:Int)) (K Qk)) [] (0:Int)
abbrev Ux:Type:=Int->Int->(Int->Prop)->Prop
def Uy:Ux:=fun x k K=>(0:Int)<=Go.IntKind.u64.wrap (↑(BitVec.ofInt (64:Nat) (Go.IntKind.u64.wrap k) &&& BitVec.ofInt (64:Nat) (63:Int)).toNat:Int)/\(0:Int)<=Go.IntKind.u64.wrap ((64:Int) - Go.IntKind.u64.wrap (↑(BitVec.ofInt (64:Nat) (Go.IntKind.u64.wrap k) &&& BitVec.ofInt (64:Nat) (63:Int)).toNat:Int))/\K (Go.IntKind.u64.wrap (↑(BitVec.ofInt (64:Nat) (Go.IntKind.u64.wrap (x*2 ^ Min.min (Go.IntKind.u64.wrap (↑(BitVec.ofInt (64:Nat) (Go.IntKind.u64.wrap k) &&& BitVec.ofInt (64:Nat) (63:Int)).toNat:Int)).toNat (64:Nat)))|||BitVec.ofInt (64:Nat) (x.fdiv ((2:Int) ^ Min.min (Go.IntKind.u64.wrap ((64:Int) - Go.IntKind.u64.wrap (↑(BitVec.ofInt (64:Nat) (Go.IntKind.u64.wrap k) &&& BitVec.ofInt (64:Nat) (63:Int)).toNat:Int))).toNat (64:Nat)))).toNat:Int))
abbrev Z6:Type:=Int->Int->Int->Int->Int->(Int->Int->Int->Int->Prop)->Prop
def R1(Zs:Ux):Z6:=fun v0 v1 v2 v3 n K=>Lp5 (fun Qa Jm z4b z7x j8p y48=>Cnd (Qa<n) (Zs z4b (13:Int) fun Qk=>Zs (Go.IntKind.u64.wrap (Jm+z4b)) (32:Int) fun Qh=>Zs j8p (16:Int) fun Qd=>Zs (Go.IntKind.u64.wrap (↑(BitVec.ofInt (64:Nat) Qd ^^^ BitVec.ofInt (64:Nat) (Go.IntKind.u64.wrap (z7x+j8p))).toNat:Int)) (21:Int) fun Qg=>Zs (Go.IntKind.u64.wrap (↑(BitVec.ofInt (64:Nat) Qk ^^^ BitVec.ofInt (64:Nat) (Go.IntKind.u64.wrap (Jm+z4b))).toNat:Int)) (17:Int) fun Qr=>Zs (Go.IntKind.u64.wrap (Go.IntKind.u64.wrap (z7x+j8p)+Go.IntKind.u64.wrap (↑(BitVec.ofInt (64:Nat) Qk ^^^ BitVec.ofInt (64:Nat) (Go.IntKind.u64.wrap (Jm+z4b))).toNat:Int))) (32:Int) fun Zc=>InI (Qa+1)/\y48 (Qa+1) (Go.IntKind.u64.wrap (Qh+Go.IntKind.u64.wrap (↑(BitVec.ofInt (64:Nat) Qd ^^^ BitVec.ofInt (64:Nat) (Go.IntKind.u64.wrap (z7x+j8p))).toNat:Int))) (Go.IntKind.u64.wrap (↑(BitVec.ofInt (64:Nat) Qr ^^^ BitVec.ofInt (64:Nat) (Go.IntKind.u64.wrap (Go.IntKind.u64.wrap (z7x+j8p)+Go.IntKind.u64.wrap (↑(BitVec.ofInt (64:Nat) Qk ^^^ BitVec.ofInt (64:Nat) (Go.IntKind.u64.wrap (Jm+z4b))).toNat:Int)))).toNat:Int)) Zc (Go.IntKind.u64.wrap (↑(BitVec.ofInt (64:Nat) Qg ^^^ BitVec.ofInt (64:Nat) (Go.IntKind.u64.wrap (Qh+Go.IntKind.u64.wrap (↑(BitVec.ofInt (64:Nat) Qd ^^^ BitVec.ofInt (64:Nat) (Go.IntKind.u64.wrap (z7x+j8p))).toNat:Int)))).toNat:Int))) (K Jm z4b z7x j8p)) (0:Int) v0 v1 v2 v3
def Zv:Z6:=R1 Uy
abbrev Vs:Type:=Int->Int->Int->Int->Int->(Int->Int->Int->Int->Prop)->Prop
def q08(Zk:Z6):Vs:=fun v0 v1 v2 v3 m K=>Zk v0 v1 v2 (Go.IntKind.u64.wrap (↑(BitVec.ofInt (64:Nat) v3 ^^^ BitVec.ofInt (64:Nat) m).toNat:Int)) (2:Int) fun Qa Jm z4b z7x=>K (Go.IntKind.u64.wrap (↑(BitVec.ofInt (64:Nat) Qa ^^^ BitVec.ofInt (64:Nat) m).toNat:Int)) Jm z4b z7x
def Hh:Vs:=q08 Zv
abbrev q39:Type:=Int->Int->List (Int)->(Int->Prop)->Prop
def z4k(V3:Vs)(Zk:Z6):q39:=fun k0 k1 b K=>Fits b->(0:Int)<=(56:Int)/\Lp5 (fun Qk Hq j3g v72 y49 y8o=>InI (Qk+8)/\(Fits b->Cnd (Qk+8<=(↑b.length:Int)) (Lp2 (fun Qd Uq j4z=>Cnd (Uq<8) (InI (Qk+Uq)/\At b (Qk+Uq) fun y4=>InI ((8:Int)*Uq)/\(0:Int)<=(8:Int)*Uq/\InI (Uq+1)/\j4z (Go.IntKind.u64.wrap (↑(BitVec.ofInt (64:Nat) Qd|||BitVec.ofInt (64:Nat) (Go.IntKind.u64.wrap (Go.IntKind.u64.wrap y4*2 ^ Min.min ((8:Int)*Uq).toNat (64:Nat)))).toNat:Int)) (Uq+1)) (V3 Hq j3g v72 y49 Qd fun Qg Up y8p y8q=>InI (Qk+8)/\y8o (Qk+8) Qg Up y8p y8q)) (0:Int) (0:Int)) (Fits b->(8:Int)≠(0:Int)/\Lp2 (fun Qg Up v07=>Cnd (Up<(↑b.length:Int).tmod (8:Int)) (Fits b->Fits b->(8:Int)≠(0:Int)/\InI ((↑b.length:Int) - (↑b.length:Int).tmod (8:Int))/\InI ((↑b.length:Int) - (↑b.length:Int).tmod (8:Int)+Up)/\((0:Int)<=(↑b.length:Int) - (↑b.length:Int).tmod (8:Int)+Up/\(↑b.length:Int) - (↑b.length:Int).tmod (8:Int)+Up<(↑b.length:Int))/\ ∀y7,b[((↑b.length:Int) - (↑b.length:Int).tmod (8:Int)+Up).toNat]? =some y7->InI ((8:Int)*Up)/\(0:Int)<=(8:Int)*Up/\InI (Up+1)/\v07 (Go.IntKind.u64.wrap (↑(BitVec.ofInt (64:Nat) Qg|||BitVec.ofInt (64:Nat) (Go.IntKind.u64.wrap (Go.IntKind.u64.wrap y7*2 ^ Min.min ((8:Int)*Up).toNat (64:Nat)))).toNat:Int)) (Up+1)) (V3 Hq j3g v72 y49 Qg fun Qr q20 v3j y8r=>Zk Qr q20 (Go.IntKind.u64.wrap (↑(BitVec.ofInt (64:Nat) v3j ^^^ BitVec.ofInt (64:Nat) (255:Int)).toNat:Int)) y8r (4:Int) fun Zc q4m w9b w9c=>K (Go.IntKind.u64.wrap (↑(BitVec.ofInt (64:Nat) (Go.IntKind.u64.wrap (↑(BitVec.ofInt (64:Nat) (Go.IntKind.u64.wrap (↑(BitVec.ofInt (64:Nat) Zc ^^^ BitVec.ofInt (64:Nat) q4m).toNat:Int)) ^^^ BitVec.ofInt (64:Nat) w9b).toNat:Int)) ^^^ BitVec.ofInt (64:Nat) w9c).toNat:Int)))) (Go.IntKind.u64.wrap (Go.IntKind.u64.wrap (↑b.length:Int)*2 ^ Min.min (Int.toNat (56:Int)) (64:Nat))) (0:Int)))) (0:Int) (Go.IntKind.u64.wrap (↑(BitVec.ofInt (64:Nat) k0 ^^^ BitVec.ofInt (64:Nat) (8317987319222330741:Int)).toNat:Int)) (Go.IntKind.u64.wrap (↑(BitVec.ofInt (64:Nat) k1 ^^^ BitVec.ofInt (64:Nat) (7237128888997146477:Int)).toNat:Int)) (Go.IntKind.u64.wrap (↑(BitVec.ofInt (64:Nat) k0 ^^^ BitVec.ofInt (64:Nat) (7816392313619706465:Int)).toNat:Int)) (Go.IntKind.u64.wrap (↑(BitVec.ofInt (64:Nat) k1 ^^^ BitVec.ofInt (64:Nat) (8387220255154660723:Int)).toNat:Int))
def q8s:q39:=z4k Hh Zv
abbrev q09:Type:=Int->List (List Int)->(Int->Prop)->Prop
def z1o(q3y:q3m)(q9j:q39):q09:=fun domain fields K=>q3y fields fun Qa=>q9j domain (0:Int) Qa fun Qk=>K Qk
def q5m:q09:=z1o q3n q8s
abbrev Ji:Type:=ByteArray->ByteArray->(Int->Prop)->Prop
def z72(q6i:q09):Ji:=fun salt key K=>Sml salt.size/\Sml key.size/\q6i (1:Int) [List.map (fun b=>(↑b.toNat:Int)) (salt,key,()).1.data.toList,List.map (fun b=>(↑b.toNat:Int)) (salt,key,()).2.1.data.toList] fun Qa=>(10000:Int)≠(0:Int)/\InI (Qa.tmod (10000:Int))/\K (Qa.tmod (10000:Int))
def W7:Ji:=z72 q5m
abbrev q1a:Type:=List (Frc)->ByteArray->(Frc->Bool->Prop)->Prop
def q1b:q1a:=fun l layer K=>Fits l->Lp4 (fun Qk Hq j3g v72 y9e=>CAt l Qk (fun y2=>Cnd (y2.1=layer) (K y2 true) (InI (Qk+1)/\y9e (Qk+1) Hq j3g v72)) (K (Frc.mk (B8 []) (B8 []) (0:Int)) false)) (0:Int) (B8 []) (B8 []) (0:Int)
abbrev q5n:Type:=Envt->Frc->(Bool->Prop)->Prop
def q5o:q5n:=fun v f K=>Fits v.6->Lp1 (fun Qk q6h=>CAt v.6 Qk (fun y2=>Cnd (y2.1=f.2) (Cnd (y2.2=f.1) (Cnd (y2.5=2) (Fits y2.7->Lp1 (fun Qr j32=>CAt y2.7 Qr (fun y6=>Cnd (y6.3=f.3) (Cnd ((0:Int)<=Qr) (K (decide ((0:Int)<=Qk))) (InI (Qk+1)/\q6h (Qk+1))) (InI (Qr+1)/\j32 (Qr+1))) (Cnd ((0:Int)<=(-1:Int)) (K (decide ((0:Int)<=Qk))) (InI (Qk+1)/\q6h (Qk+1)))) (0:Int)) (InI (Qk+1)/\q6h (Qk+1))) (InI (Qk+1)/\q6h (Qk+1))) (InI (Qk+1)/\q6h (Qk+1))) (K (decide ((0:Int)<=(-1:Int))))) (0:Int)
abbrev q1c:Type:=Envt->Subj->(Bool->Prop)->Prop
def z1p(Qt:Zu)(Qq:Ji):q1c:=fun v s K=>Cnd (v.1.3<=0) (K false) (Qt (Subj.mk s.1) v.1.2 fun Qa Jm=>Cnd (Jm=true) (Qq v.1.1 Qa.2 fun Qk=>K (decide (Qk<v.1.3))) (K false))
def q5p:q1c:=z1p Wz W7
abbrev q1d:Type:=Int->(Bool->Prop)->Prop
def Uz:q1d:=fun op K=>Cnd ((6:Int)<=op) (K (decide (op<=15))) (K false)
abbrev Zb:Type:=List (ByteArray)->List (ByteArray)->(Bool->Prop)->Prop
def Zt:Zb:=fun s1 s2 K=>Fits s1->Fits s2->Cnd ((↑s1.length:Int)=(↑s2.length:Int)) (Fits s1->Lp1 (fun Qd z7h=>CAt s1 Qd (fun y4=>At s2 Qd fun y6=>Cnd (y4=y6) (InI (Qd+1)/\z7h (Qd+1)) (K false)) (K true)) (0:Int)) (K false)
abbrev q8t:Type:=Val->Val->(Bool->Prop)->Prop
def z4l(Qx:Zb):q8t:=fun a b K=>Cnd (a.1=b.1) (Cnd (a.2=b.2) (Cnd (a.3=b.3) (Qx a.4 b.4 fun Qa=>K Qa) (K false)) (K false)) (K false)
def q0t:q8t:=z4l Zt
abbrev q24:Type:=Ex->Ex->(Bool->Prop)->Prop
def z73(w61:q8t)(X:q24):q24:=fun a b K=>Cnd (a.1=b.1) (Cnd (a.2=b.2) (Cnd (a.3=b.3) (Fits a.4->Fits b.4->Cnd ((↑a.4.length:Int)=(↑b.4.length:Int)) (Fits a.4->Lp1 (fun Qd z7h=>CAt a.4 Qd (fun y4=>At b.4 Qd fun y6=>w61 y4 y6 fun Re=>Cnd (Re=true) (InI (Qd+1)/\z7h (Qd+1)) (K false)) (Fits a.5->Fits b.5->Cnd ((↑a.5.length:Int)=(↑b.5.length:Int)) (Fits a.5->Lp1 (fun Qp j33=>CAt a.5 Qp (fun y8=>At b.5 Qp fun y10=>X (Ex.mk y8.1 y8.2 y8.3 y8.4 y8.5) (Ex.mk y10.1 y10.2 y10.3 y10.4 y10.5) fun Jd=>Cnd (Jd=true) (InI (Qp+1)/\j33 (Qp+1)) (K false)) (K true)) (0:Int)) (K false))) (0:Int)) (K false)) (K false)) (K false)) (K false)
def q0e:q24:=fun a b K=> ∀X:q24,(∀a b K,z73 q0t X a b K->X a b K)->X a b K
abbrev V5:Type:=List (Ex)->Ex->(List (Ex)->Prop)->Prop
def q9y(Rv:q1d)(j8l:q24)(X:V5):V5:=fun l e K=>Jn1 (fun Qa=>Fits e.5->Lp2 (fun Qh Ut w3z=>CAt e.5 Ut (fun y3=>X Qh (Ex.mk y3.1 y3.2 y3.3 y3.4 y3.5) fun Qr=>InI (Ut+1)/\w3z Qr (Ut+1)) (K Qh)) Qa (0:Int)) fun q00=>Rv e.1 fun Qk=>Cnd (Qk=true) (Fits l->Lp1 (fun Qd z7h=>CAt l Qd (fun y4=>j8l (Ex.mk y4.1 y4.2 y4.3 y4.4 y4.5) (Ex.mk e.1 e.2 e.3 e.4 e.5) fun Zc=>Cnd (Zc=true) (Cnd ((0:Int)<=Qd) (q00 l) (Sml (l++[Ex.mk e.1 e.2 e.3 e.4 e.5]).length/\q00 (l++[Ex.mk e.1 e.2 e.3 e.4 e.5]))) (InI (Qd+1)/\z7h (Qd+1))) (Cnd ((0:Int)<=(-1:Int)) (q00 l) (Sml (l++[Ex.mk e.1 e.2 e.3 e.4 e.5]).length/\q00 (l++[Ex.mk e.1 e.2 e.3 e.4 e.5])))) (0:Int)) (Cnd (e.1=5) (Fits l->Lp1 (fun Qd z7h=>CAt l Qd (fun y4=>j8l (Ex.mk y4.1 y4.2 y4.3 y4.4 y4.5) (Ex.mk e.1 e.2 e.3 e.4 e.5) fun Zc=>Cnd (Zc=true) (Cnd ((0:Int)<=Qd) (q00 l) (Sml (l++[Ex.mk e.1 e.2 e.3 e.4 e.5]).length/\q00 (l++[Ex.mk e.1 e.2 e.3 e.4 e.5]))) (InI (Qd+1)/\z7h (Qd+1))) (Cnd ((0:Int)<=(-1:Int)) (q00 l) (Sml (l++[Ex.mk e.1 e.2 e.3 e.4 e.5]).length/\q00 (l++[Ex.mk e.1 e.2 e.3 e.4 e.5])))) (0:Int)) (q00 l))
def q3o:V5:=fun l e K=> ∀X:V5,(∀l e K,q9y Uz q0e X l e K->X l e K)->X l e K
abbrev Hu:Type:=Ex->(Ex->Prop)->Prop
def z4m(Z3:Vr)(X:Hu):Hu:=fun e K=>Fits e.4->((0:Int)<=(0:Int)/\(0:Int)<=(↑e.4.length:Int)/\Sml (↑e.4.length:Int).toNat)/\(Fits e.4->Lp2 (fun Qh Ut w3z=>CAt e.4 Ut (fun y3=>Z3 y3 fun Qr=>Sml (Qh++[Qr]).length/\InI (Ut+1)/\w3z (Qh++[Qr]) (Ut+1)) (Fits e.5->((0:Int)<=(0:Int)/\(0:Int)<=(↑e.5.length:Int)/\Sml (↑e.5.length:Int).toNat)/\(Fits e.5->Lp2 (fun Qr q20 v3k=>CAt e.5 q20 (fun y6=>X (Ex.mk y6.1 y6.2 y6.3 y6.4 y6.5) fun Re=>Sml (Qr++[Ex.mk Re.1 Re.2 Re.3 Re.4 Re.5]).length/\InI (q20+1)/\v3k (Qr++[Ex.mk Re.1 Re.2 Re.3 Re.4 Re.5]) (q20+1)) (K (Ex.mk e.1 e.2 e.3 Qh Qr))) (List.replicate (Int.toNat (0:Int)) (Ex.mk (0:Int) (B8 []) (B8 []) [] [])) (0:Int)))) (List.replicate (Int.toNat (0:Int)) (Val.mk (0:Int) (0:Int) (B8 []) [])) (0:Int))
def q8u:Hu:=fun e K=> ∀X:Hu,(∀e K,z4m Jo X e K->X e K)->X e K
abbrev Bd:Type:=Ex->(List (Ex)->Prop)->Prop
def q9z(q3z:V5)(q9k:Hu):Bd:=fun e K=>q3z [] (Ex.mk e.1 e.2 e.3 e.4 e.5) fun Qa=>Fits Qa->((0:Int)<=(0:Int)/\(0:Int)<=(↑Qa.length:Int)/\Sml (↑Qa.length:Int).toNat)/\(Fits Qa->Lp2 (fun Qd Uq j4z=>CAt Qa Uq (fun y4=>q9k (Ex.mk y4.1 y4.2 y4.3 y4.4 y4.5) fun Zc=>Sml (Qd++[Ex.mk Zc.1 Zc.2 Zc.3 Zc.4 Zc.5]).length/\InI (Uq+1)/\j4z (Qd++[Ex.mk Zc.1 Zc.2 Zc.3 Zc.4 Zc.5]) (Uq+1)) (K Qd)) (List.replicate (Int.toNat (0:Int)) (Ex.mk (0:Int) (B8 []) (B8 []) [] [])) (0:Int))
def q90:Bd:=q9z q3o q8u
abbrev Q7:Type:=List (ByteArray)->(List (ByteArray)->Prop)->Prop
def Zh(x:List (ByteArray))(K:List (ByteArray)->Prop):Prop:=K (srt x)
abbrev Zn:Type:=List (ByteArray)->(List (ByteArray)->Prop)->Prop
def Zo(s:List (ByteArray))(K:List (ByteArray)->Prop):Prop:=K (cpt s)
abbrev Gt:Type:=Ex->(List (ByteArray)->Prop)->Prop
def q4w(q30:Bd)(Ql:Q7)(Qs:Zn):Gt:=fun e K=>q30 (Ex.mk e.1 e.2 e.3 e.4 e.5) fun Qa=>Fits Qa->Lp2 (fun Qh Ut w3z=>CAt Qa Ut (fun y3=>Cnd (y3.1=5) (Sml (Qh++[y3.3]).length/\InI (Ut+1)/\w3z (Qh++[y3.3]) (Ut+1)) (InI (Ut+1)/\w3z Qh (Ut+1))) (Ql Qh fun Qd=>Qs Qd fun Qg=>K Qg)) [] (0:Int)
def Br:Gt:=q4w q90 Zh Zo
abbrev z1q:Type:=List (ByteArray)->List (Edg)->(List (ByteArray)->Int->Prop)->Prop
def P_graph_Order(nodes:List (ByteArray))(edges:List (Edg))(K:List (ByteArray)->Int->Prop):Prop:=Go.Fl.P_graph_Order nodes (edges.map fun e=>(e.1,e.2)) K
abbrev Hw:Type:=List (Seg)->(List (ByteArray)->Int->Prop)->Prop
def q7f(B5:Gt)(q6j:z1q):Hw:=fun l K=>Fits l->Lp3 (fun Qk Hq j3g y0m=>CAt l j3g (fun y2=>Sml (Qk++[y2.1]).length/\B5 (Ex.mk y2.5.1 y2.5.2 y2.5.3 y2.5.4 y2.5.5) fun Qg=>Fits Qg->Lp2 (fun Zc q4m w9d=>CAt Qg q4m (fun y7=>Sml (Zc++[Edg.mk y2.1 y7]).length/\InI (q4m+1)/\w9d (Zc++[Edg.mk y2.1 y7]) (q4m+1)) (InI (j3g+1)/\y0m (Qk++[y2.1]) Zc (j3g+1))) Hq (0:Int)) (q6j Qk Hq fun Qh Ut=>K Qh Ut)) [] [] (0:Int)
def q1e:Hw:=q7f Br P_graph_Order
abbrev Wn:Type:=Subj->ByteArray->ByteArray->(Val->Bool->Prop)->Prop
def q4x(Jv:Ui)(Z3:Vr):Wn:=fun s kind name K=>Jv (Subj.mk s.1) kind fun Qa=>Cnd (Qa<0) (K (Val.mk (0:Int) (0:Int) (B8 []) []) false) (At s.1 Qa fun y1=>Cnd (name=B8 [107,101,121]) (K (Val.mk (3:Int) (0:Int) y1.2 []) true) (Fits y1.3->Lp5 (fun Qg Up y8p y8q (y9f:List ByteArray) y9g=>CAt y1.3 Qg (fun y5=>Cnd (y5.1=name) (Z3 (Val.mk y5.2.1 y5.2.2 y5.2.3 y5.2.4) fun Qp=>K Qp true) (InI (Qg+1)/\y9g (Qg+1) Up y8p y8q y9f)) (K (Val.mk (0:Int) (0:Int) (B8 []) []) false)) (0:Int) (0:Int) (0:Int) (B8 []) []))
def Gu:Wn:=q4x Hs Jo
abbrev q1f:Type:=Val->Val->(Bool->Prop)->Prop
def z1r(Qx:Zb):q1f:=fun a b K=>Cnd (a.1=b.1) (Cnd (a.2=b.2) (Cnd (a.3=b.3) (Qx a.4 b.4 fun Qa=>K Qa) (K false)) (K false)) (K false)
def q1g:q1f:=z1r Zt
abbrev Z2:Type:=ByteArray->ByteArray->(Bool->Prop)->Prop
def Jp:Z2:=fun s prefix_ K=>Cnd ((↑prefix_.size:Int)<=(↑s.size:Int)) (((0:Int)<=(0:Int)/\(0:Int)<=(↑prefix_.size:Int)/\(↑prefix_.size:Int)<=(↑s.size:Int))/\K (decide (s.extract (Int.toNat (0:Int)) (↑prefix_.size:Int).toNat=prefix_))) (K false)
abbrev W8:Type:=ByteArray->ByteArray->(Bool->Prop)->Prop
def q0f(Q8:Z2):W8:=fun s prefix_ K=>Q8 s prefix_ fun Qa=>K Qa
def U0:W8:=q0f Jp
abbrev Wr:Type:=ByteArray->ByteArray->(Bool->Prop)->Prop
def U1:Wr:=fun s suffix K=>Cnd ((↑suffix.size:Int)<=(↑s.size:Int)) (InI ((↑s.size:Int) - (↑suffix.size:Int))/\((0:Int)<=(↑s.size:Int) - (↑suffix.size:Int)/\(↑s.size:Int) - (↑suffix.size:Int)<=(↑s.size:Int)/\(↑s.size:Int)<=(↑s.size:Int))/\K (decide (s.extract ((↑s.size:Int) - (↑suffix.size:Int)).toNat (↑s.size:Int).toNat=suffix))) (K false)
abbrev W9:Type:=ByteArray->ByteArray->(Bool->Prop)->Prop
def q0g(Wu:Wr):W9:=fun s suffix K=>Wu s suffix fun Qa=>K Qa
def U2:W9:=q0g U1
abbrev q1h:Type:=ByteArray->ByteArray->(Bool->Prop)->Prop
def q1i(s:ByteArray)(substr:ByteArray)(K:Bool->Prop):Prop:=s.size<4294967281/\K (Go.Lib.contains s.data.toList substr.data.toList)
abbrev q5q:Type:=Val->(Bool->Prop)->Prop
def q5r:q5q:=fun v K=>Jn1 (fun Qa=>Cnd (Qa=true) (Cnd (v.3=B8 []) (Fits v.4->K (decide ((↑v.4.length:Int)=0))) (K false)) (Jn1 (fun Qk=>Cnd (Qk=true) (Cnd (v.2=0) (Fits v.4->K (decide ((↑v.4.length:Int)=0))) (K false)) (Cnd (v.2=0) (K (decide (v.3=B8 []))) (K false))) fun v3d=>Cnd (v.1=3) (v3d (decide (v.1=3))) (v3d (decide (v.1=4))))) fun q00=>Cnd (v.1=1) (q00 (decide (v.1=1))) (q00 (decide (v.1=2)))
abbrev Vt:Type:=ByteArray->(Bool->Prop)->Prop
def Vu(s:ByteArray)(K:Bool->Prop):Prop:=s.size<=(9223372036854775807:Nat)/\K (Go.Lib.validD s.data.toList)
abbrev q4a:Type:=ByteArray->(Bool->Prop)->Prop
def z4n(Zy:Vt):q4a:=fun s K=>Cnd ((200:Int)<(↑s.size:Int)) (K false) (Zy s fun Qa=>Cnd (Qa=true) (Lp1 (fun (Qk:ByteArray×Nat) q6h=>Cnd (Qk.2<Qk.1.size) (Cnd ((↑(Go.Utf8.decode Qk.1 Qk.2).1:Int)<(32:Int)) (K false) (Cnd ((↑(Go.Utf8.decode Qk.1 Qk.2).1:Int)=(127:Int)) (K false) (q6h (Qk.1,Qk.2+(Go.Utf8.decode Qk.1 Qk.2).2)))) (K true)) (s,(0:Nat))) (K false))
def q8v:q4a:=z4n Vu
abbrev q7g:Type:=ByteArray->ByteArray->(List (ByteArray)->Prop)->Prop
def q7h(s:ByteArray)(sep:ByteArray)(K:List (ByteArray)->Prop):Prop:=sep.size=1/\s.size<4294967281/\K (q0s s sep)
abbrev Jq:Type:=ByteArray->ByteArray->(ByteArray->Bool->Prop)->Prop
def U3(Q8:Z2):Jq:=fun s prefix_ K=>Q8 s prefix_ fun Qa=>Cnd (Qa=true) (((0:Int)<=(↑prefix_.size:Int)/\(↑prefix_.size:Int)<=(↑s.size:Int)/\(↑s.size:Int)<=(↑s.size:Int))/\K (s.extract (↑prefix_.size:Int).toNat (↑s.size:Int).toNat) true) (K s false)
def U4:Jq:=U3 Jp
abbrev Va:Type:=ByteArray->ByteArray->(ByteArray->Bool->Prop)->Prop
def q0h(Wv:Jq):Va:=fun s prefix_ K=>Wv s prefix_ fun Qa Jm=>K Qa Jm
def U5:Va:=q0h U4
abbrev q91:Type:=ByteArray->(Int->Bool->Prop)->Prop
def q3p(s:ByteArray)(K:Int->Bool->Prop):Prop:=s.size<=281474976710656/\v9s s K
abbrev Vv:Type:=ByteArray->(Int->Int->Prop)->Prop
def q1j(Gg:Va)(Bm:q91):Vv:=fun s K=>Gg s (B8 [45]) fun Qa Jm=>Cnd (Qa=B8 []) (K (0:Int) (1:Int)) (((0:Int)<=(0:Int)/\(0:Int)<(↑Qa.size:Int))/\ ∀b1,Qa[Int.toNat (0:Int)]? =some b1->Cnd ((↑b1.toNat:Int)=48) (Cnd ((1:Int)<(↑Qa.size:Int)) (K (0:Int) (1:Int)) (Cnd (Jm=true) (K (0:Int) (1:Int)) (Lp1 (fun (Qd:ByteArray×Nat) z7h=>Cnd (Qd.2<Qd.1.size) (Cnd ((↑(Go.Utf8.decode Qd.1 Qd.2).1:Int)<(48:Int)) (K (0:Int) (1:Int)) (Cnd ((57:Int)<(↑(Go.Utf8.decode Qd.1 Qd.2).1:Int)) (K (0:Int) (1:Int)) (z7h (Qd.1,Qd.2+(Go.Utf8.decode Qd.1 Qd.2).2)))) (Bm s fun Qg Up=>Cnd ((match (Qg,Up,()).2.1 with|true=>false|false=>true)=true) (K (0:Int) (3:Int)) (Cnd (Qg<(-1099511627776:Int)) (K (0:Int) (3:Int)) (Cnd ((1099511627776:Int)<Qg) (K (0:Int) (3:Int)) (K Qg (0:Int)))))) (Qa,(0:Nat))))) (Lp1 (fun (Qd:ByteArray×Nat) z7h=>Cnd (Qd.2<Qd.1.size) (Cnd ((↑(Go.Utf8.decode Qd.1 Qd.2).1:Int)<(48:Int)) (K (0:Int) (1:Int)) (Cnd ((57:Int)<(↑(Go.Utf8.decode Qd.1 Qd.2).1:Int)) (K (0:Int) (1:Int)) (z7h (Qd.1,Qd.2+(Go.Utf8.decode Qd.1 Qd.2).2)))) (Bm s fun Qg Up=>Cnd ((match (Qg,Up,()).2.1 with|true=>false|false=>true)=true) (K (0:Int) (3:Int)) (Cnd (Qg<(-1099511627776:Int)) (K (0:Int) (3:Int)) (Cnd ((1099511627776:Int)<Qg) (K (0:Int) (3:Int)) (K Qg (0:Int)))))) (Qa,(0:Nat))))
def Hi:Vv:=q1j U5 q3p
abbrev U6:Type:=ByteArray->(A3->Bool->Prop)->Prop
def z1s(q2q:q7g)(Hm:Vv):U6:=fun s K=>q2q s (B8 [46]) fun Qa=>Fits Qa->Cnd ((↑Qa.length:Int)=3) (Fits Qa->LpH (fun (Qd:Int×Int×Int×Int×Int×Int×Int×Unit) z7h=>CAt Qa Qd.1 (fun y4=>Hm y4 fun Zc q4m=>Cnd (q4m=0) (Cnd (Zc<0) (K ((0:Int),(0:Int),(0:Int)) false) (Cnd ((999999:Int)<Zc) (K ((0:Int),(0:Int),(0:Int)) false) (((0:Int)<=Qd.1/\Qd.1<(↑(3:Nat):Int))/\((True/\(Qd.1=(↑(nat_lit 0):Int)->InI (Qd.1+1)/\z7h (Qd.1+1,Zc,Qd.2.2.1,Qd.2.2.2.1,Qd.2.2.2.2.1,Qd.2.2.2.2.2.1,Qd.2.2.2.2.2.2.1,())))/\(Qd.1=(↑(nat_lit 1):Int)->InI (Qd.1+1)/\z7h (Qd.1+1,Qd.2.1,Zc,Qd.2.2.2.1,Qd.2.2.2.2.1,Qd.2.2.2.2.2.1,Qd.2.2.2.2.2.2.1,())))/\(Qd.1=(↑(nat_lit 2):Int)->InI (Qd.1+1)/\z7h (Qd.1+1,Qd.2.1,Qd.2.2.1,Zc,Qd.2.2.2.2.1,Qd.2.2.2.2.2.1,Qd.2.2.2.2.2.2.1,()))))) (K ((0:Int),(0:Int),(0:Int)) false)) (K (Qd.2.1,Qd.2.2.1,Qd.2.2.2.1) true)) ((0:Int),(0:Int),(0:Int),(0:Int),(0:Int),(0:Int),(0:Int),())) (K ((0:Int),(0:Int),(0:Int)) false)
def q1k:U6:=z1s q7h Hi
abbrev q1l:Type:=Val->(Int->Prop)->Prop
def z1t(q6k:q5q)(q4n:q4a)(Wb:U6):q1l:=fun v K=>Cnd (v.1<1) (K (7:Int)) (Cnd ((5:Int)<v.1) (K (7:Int)) (q6k v fun Qa=>Cnd (Qa=true) (Cnd (v.1=1) (Cnd (v.2=0) (K (0:Int)) (Cnd (v.2=1) (K (0:Int)) (K (3:Int)))) (Cnd (v.1=2) (Cnd (v.2<(-1099511627776:Int)) (K (3:Int)) (Cnd ((1099511627776:Int)<v.2) (K (3:Int)) (K (0:Int)))) (Cnd (v.1=3) (q4n v.3 fun Qk=>Cnd (Qk=true) (K (0:Int)) (K (2:Int))) (Cnd (v.1=4) (Wb v.3 fun (Qk:Int×Int×Int) Hq=>Cnd (Hq=true) (K (0:Int)) (K (1:Int))) (Cnd (v.1=5) (Fits v.4->Cnd ((20:Int)<(↑v.4.length:Int)) (K (5:Int)) (Fits v.4->Lp1 (fun Qd z7h=>CAt v.4 Qd (fun y4=>q4n y4 fun Zc=>Cnd (Zc=true) (InI (Qd+1)/\z7h (Qd+1)) (K (2:Int))) (Fits v.4->Lp1 (fun Qr j32=>Cnd (Qr<(↑v.4.length:Int)) (Cnd ((0:Int)<Qr) (InI (Qr - 1)/\((0:Int)<=Qr - 1/\Qr - 1<(↑v.4.length:Int))/\ ∀y6,v.4[(Qr - 1).toNat]? =some y6->At v.4 Qr fun y8=>Cnd (Lk.blt y6 y8) (InI (Qr+1)/\j32 (Qr+1)) (K (9:Int))) (InI (Qr+1)/\j32 (Qr+1))) (K (0:Int))) (0:Int))) (0:Int))) (K (0:Int))))))) (K (15:Int))))
def q5s:q1l:=z1t q5r q8v q1k
abbrev Hx:Type:=Val->Val->(Int->Int->Prop)->Prop
def q7i(q2r:q1l)(Wb:U6):Hx:=fun a b K=>q2r a fun Qa=>Cnd (Qa=0) (q2r b fun Qk=>Cnd (Qk=0) (Cnd (a.1=b.1) (Cnd (a.1=1) (K (0:Int) (8:Int)) (Cnd (a.1=5) (K (0:Int) (8:Int)) (Cnd (a.1=2) (Cnd (a.2=a.2) (Cnd (b.2=b.2) (Cnd (a.2<b.2) (K (-1:Int) (0:Int)) (Cnd (b.2<a.2) (K (1:Int) (0:Int)) (K (0:Int) (0:Int)))) (K (1:Int) (0:Int))) (Cnd (b.2=b.2) (K (-1:Int) (0:Int)) (K (0:Int) (0:Int)))) (Cnd (a.1=3) (Cnd (a.3=a.3) (Cnd (b.3=b.3) (Cnd (Lk.blt a.3 b.3) (K (-1:Int) (0:Int)) (Cnd (Lk.blt b.3 a.3) (K (1:Int) (0:Int)) (K (0:Int) (0:Int)))) (K (1:Int) (0:Int))) (Cnd (b.3=b.3) (K (-1:Int) (0:Int)) (K (0:Int) (0:Int)))) (Wb a.3 fun (Qh:Int×Int×Int) Ut=>Wb b.3 fun (Qd:Int×Int×Int) Uq=>Two (([Qh.1,Qh.2.1,Qh.2.2].length<=(9223372036854775807:Nat)->Lp1 (fun Qr j32=>Cnd (Qr<(↑[Qh.1,Qh.2.1,Qh.2.2].length:Int)) (((0:Int)<=Qr/\Qr<(↑[Qh.1,Qh.2.1,Qh.2.2].length:Int))/\ ∀y6,[Qh.1,Qh.2.1,Qh.2.2][Qr.toNat]? =some y6->[Qd.1,Qd.2.1,Qd.2.2].length<=(9223372036854775807:Nat)->Cnd ((↑[Qd.1,Qd.2.1,Qd.2.2].length:Int)<=Qr) (K (1:Int) (0:Int)) (((0:Int)<=Qr/\Qr<(↑[Qd.1,Qd.2.1,Qd.2.2].length:Int))/\ ∀y9,[Qd.1,Qd.2.1,Qd.2.2][Qr.toNat]? =some y9->Cnd (y6=y6) (Cnd (y9=y9) (Cnd (y6<y9) (Cnd ((-1:Int)=(0:Int)) (InI (Qr+1)/\j32 (Qr+1)) (K (-1:Int) (0:Int))) (Cnd (y9<y6) (Cnd ((1:Int)=(0:Int)) (InI (Qr+1)/\j32 (Qr+1)) (K (1:Int) (0:Int))) (Cnd ((0:Int)=(0:Int)) (InI (Qr+1)/\j32 (Qr+1)) (K (0:Int) (0:Int))))) (Cnd ((1:Int)=(0:Int)) (InI (Qr+1)/\j32 (Qr+1)) (K (1:Int) (0:Int)))) (Cnd (y9=y9) (Cnd ((-1:Int)=(0:Int)) (InI (Qr+1)/\j32 (Qr+1)) (K (-1:Int) (0:Int))) (Cnd ((0:Int)=(0:Int)) (InI (Qr+1)/\j32 (Qr+1)) (K (0:Int) (0:Int)))))) ([Qh.1,Qh.2.1,Qh.2.2].length<=(9223372036854775807:Nat)->[Qd.1,Qd.2.1,Qd.2.2].length<=(9223372036854775807:Nat)->Cnd ((↑[Qh.1,Qh.2.1,Qh.2.2].length:Int)<(↑[Qd.1,Qd.2.1,Qd.2.2].length:Int)) (K (-1:Int) (0:Int)) (K (0:Int) (0:Int)))) (0:Int)))))))) (K (0:Int) (8:Int))) (K (0:Int) Qk)) (K (0:Int) Qa)
def Hy:Hx:=q7i q5s q1k
abbrev q5t:Type:=Subj->Ex->(Bool->Prop)->Prop
def z1u(Je:Wn)(Rv:q1d)(Rw:q1f)(Gh:W8)(Gi:W9)(Hn:q1h)(Rd:Hx):q5t:=fun s e K=>Je (Subj.mk s.1) e.2 e.3 fun Qa Jm=>Cnd (Jm=true) (Rv e.1 fun Qk=>Cnd (Qk=true) (Cnd (e.1=6) (K true) (Cnd (e.1=8) (Fits e.4->Lp1 (fun Qd z7h=>CAt e.4 Qd (fun y4=>Rw Qa y4 fun Zc=>Cnd (Zc=true) (K (decide ((0:Int)<=Qd))) (InI (Qd+1)/\z7h (Qd+1))) (K (decide ((0:Int)<=(-1:Int))))) (0:Int)) (Fits e.4->Cnd ((↑e.4.length:Int)=0) (K false) (((0:Int)<=(0:Int)/\(0:Int)<(↑e.4.length:Int))/\ ∀y3,e.4[Int.toNat (0:Int)]? =some y3->Cnd (Qa.1=3) (Cnd (e.1=7) (Rw Qa y3 fun Qr=>K Qr) (Cnd (e.1=9) (Cnd (y3.1=3) (Gh Qa.3 y3.3 fun Qr=>K Qr) (K false)) (Cnd (e.1=10) (Cnd (y3.1=3) (Gi Qa.3 y3.3 fun Qr=>K Qr) (K false)) (Cnd (e.1=11) (Cnd (y3.1=3) (Hn Qa.3 y3.3 fun Qr=>Cnd (Qr=true) (K true) (Cnd (y3.1=3) (Cnd (Qa.1=5) (Fits Qa.4->Lp1 (fun Qp j33=>CAt Qa.4 Qp (fun y8=>Cnd (y3.3=y8) (K (decide ((0:Int)<=Qp))) (InI (Qp+1)/\j33 (Qp+1))) (K (decide ((0:Int)<=(-1:Int))))) (0:Int)) (K false)) (K false))) (Cnd (y3.1=3) (Cnd (Qa.1=5) (Fits Qa.4->Lp1 (fun Zc v77=>CAt Qa.4 Zc (fun y7=>Cnd (y3.3=y7) (K (decide ((0:Int)<=Zc))) (InI (Zc+1)/\v77 (Zc+1))) (K (decide ((0:Int)<=(-1:Int))))) (0:Int)) (K false)) (K false))) (Rd Qa y3 fun Qr q20=>Cnd (q20=0) (Cnd (e.1=12) (K (decide (Qr<0))) (Cnd (e.1=13) (K (decide (Qr<=0))) (Cnd (e.1=14) (K (decide ((0:Int)<Qr))) (K (decide ((0:Int)<=Qr)))))) (K false)))))) (Cnd (e.1=7) (Rw Qa y3 fun Qr=>K Qr) (Cnd (e.1=9) (K false) (Cnd (e.1=10) (K false) (Cnd (e.1=11) (Cnd (y3.1=3) (Cnd (Qa.1=5) (Fits Qa.4->Lp1 (fun Zc v77=>CAt Qa.4 Zc (fun y7=>Cnd (y3.3=y7) (K (decide ((0:Int)<=Zc))) (InI (Zc+1)/\v77 (Zc+1))) (K (decide ((0:Int)<=(-1:Int))))) (0:Int)) (K false)) (K false)) (Rd Qa y3 fun Qr q20=>Cnd (q20=0) (Cnd (e.1=12) (K (decide (Qr<0))) (Cnd (e.1=13) (K (decide (Qr<=0))) (Cnd (e.1=14) (K (decide ((0:Int)<Qr))) (K (decide ((0:Int)<=Qr)))))) (K false)))))))))) (K false)) (K false)
def Rj:q5t:=z1u Gu Uz q1g U0 U2 q1i Hy
abbrev J9:Type:=Subj->List (ByteArray)->Ex->(Bool->Prop)->Prop
def z1v(w30:q5t)(X:J9):J9:=fun s in_ e K=>Cnd (e.1=1) (K true) (Cnd (e.1=2) (Fits e.5->Lp1 (fun Qk q6h=>CAt e.5 Qk (fun y2=>X (Subj.mk s.1) in_ (Ex.mk y2.1 y2.2 y2.3 y2.4 y2.5) fun Qg=>Cnd (Qg=true) (InI (Qk+1)/\q6h (Qk+1)) (K (match decide ((0:Int)<=Qk) with|true=>false|false=>true))) (K true)) (0:Int)) (Cnd (e.1=3) (Fits e.5->Lp1 (fun Qk q6h=>CAt e.5 Qk (fun y2=>X (Subj.mk s.1) in_ (Ex.mk y2.1 y2.2 y2.3 y2.4 y2.5) fun Qg=>Cnd (Qg=true) (K (decide ((0:Int)<=Qk))) (InI (Qk+1)/\q6h (Qk+1))) (K (decide ((0:Int)<=(-1:Int))))) (0:Int)) (Cnd (e.1=4) (Fits e.5->Cnd ((0:Int)<(↑e.5.length:Int)) (((0:Int)<=(0:Int)/\(0:Int)<(↑e.5.length:Int))/\ ∀y1,e.5[Int.toNat (0:Int)]? =some y1->X (Subj.mk s.1) in_ (Ex.mk y1.1 y1.2 y1.3 y1.4 y1.5) fun Qd=>K (match decide ((Qd,()).1=true) with|true=>false|false=>true)) (K false)) (Cnd (e.1=5) (Fits in_->Lp1 (fun Qk q6h=>CAt in_ Qk (fun y2=>Cnd (e.3=y2) (K (decide ((0:Int)<=Qk))) (InI (Qk+1)/\q6h (Qk+1))) (K (decide ((0:Int)<=(-1:Int))))) (0:Int)) (w30 (Subj.mk s.1) (Ex.mk e.1 e.2 e.3 e.4 e.5) fun Qa=>K Qa)))))
def Vw:J9:=fun s in_ e K=> ∀X:J9,(∀s in_ e K,z1v Rj X s in_ e K->X s in_ e K)->X s in_ e K
abbrev Vx:Type:=Seg->Subj->List (ByteArray)->(Bool->Prop)->Prop
def q1m(Qt:Zu)(Zz:J9):Vx:=fun g s in_ K=>Qt (Subj.mk s.1) g.2 fun Qa Jm=>Cnd (Jm=true) (Fits g.4->Lp1 (fun Qh z3i=>CAt g.4 Qh (fun y3=>Cnd (Qa.2=y3) (Cnd ((0:Int)<=Qh) (K false) (Fits g.3->Lp1 (fun Zc v77=>CAt g.3 Zc (fun y7=>Cnd (Qa.2=y7) (Cnd ((0:Int)<=Zc) (K true) (Cnd (g.5.1=0) (K false) (Zz (Subj.mk s.1) in_ (Ex.mk g.5.1 g.5.2 g.5.3 g.5.4 g.5.5) fun Qo=>K Qo))) (InI (Zc+1)/\v77 (Zc+1))) (Cnd ((0:Int)<=(-1:Int)) (K true) (Cnd (g.5.1=0) (K false) (Zz (Subj.mk s.1) in_ (Ex.mk g.5.1 g.5.2 g.5.3 g.5.4 g.5.5) fun Qp=>K Qp)))) (0:Int))) (InI (Qh+1)/\z3i (Qh+1))) (Cnd ((0:Int)<=(-1:Int)) (K false) (Fits g.3->Lp1 (fun Qg w62=>CAt g.3 Qg (fun y5=>Cnd (Qa.2=y5) (Cnd ((0:Int)<=Qg) (K true) (Cnd (g.5.1=0) (K false) (Zz (Subj.mk s.1) in_ (Ex.mk g.5.1 g.5.2 g.5.3 g.5.4 g.5.5) fun Qp=>K Qp))) (InI (Qg+1)/\w62 (Qg+1))) (Cnd ((0:Int)<=(-1:Int)) (K true) (Cnd (g.5.1=0) (K false) (Zz (Subj.mk s.1) in_ (Ex.mk g.5.1 g.5.2 g.5.3 g.5.4 g.5.5) fun Qr=>K Qr)))) (0:Int)))) (0:Int)) (K false)
def Hj:Vx:=q1m Wz Vw
abbrev J4:Type:=List (Seg)->Subj->(List (ByteArray)->Prop)->Prop
def q25(q2s:Hw)(Ho:Vx)(Ql:Q7):J4:=fun l s K=>q2s l fun Qa Jm=>Cnd (Jm=0) (Fits l->Lp2 (fun Qh z3i w3z=>CAt l Qh (fun y3=>InI (Qh+1)/\w3z (Qh+1) (put z3i y3.1 (Seg.mk y3.1 y3.2 y3.3 y3.4 (Ex.mk y3.5.1 y3.5.2 y3.5.3 y3.5.4 y3.5.5)))) (Fits Qa->Lp2 (fun Qg Up v07=>CAt Qa Up (fun y5=>Ho (Seg.mk ((z3i y5).getD (Seg.mk (B8 []) (B8 []) [] [] (Ex.mk (0:Int) (B8 []) (B8 []) [] []))).1 ((z3i y5).getD (Seg.mk (B8 []) (B8 []) [] [] (Ex.mk (0:Int) (B8 []) (B8 []) [] []))).2 ((z3i y5).getD (Seg.mk (B8 []) (B8 []) [] [] (Ex.mk (0:Int) (B8 []) (B8 []) [] []))).3 ((z3i y5).getD (Seg.mk (B8 []) (B8 []) [] [] (Ex.mk (0:Int) (B8 []) (B8 []) [] []))).4 (Ex.mk ((z3i y5).getD (Seg.mk (B8 []) (B8 []) [] [] (Ex.mk (0:Int) (B8 []) (B8 []) [] []))).5.1 ((z3i y5).getD (Seg.mk (B8 []) (B8 []) [] [] (Ex.mk (0:Int) (B8 []) (B8 []) [] []))).5.2 ((z3i y5).getD (Seg.mk (B8 []) (B8 []) [] [] (Ex.mk (0:Int) (B8 []) (B8 []) [] []))).5.3 ((z3i y5).getD (Seg.mk (B8 []) (B8 []) [] [] (Ex.mk (0:Int) (B8 []) (B8 []) [] []))).5.4 ((z3i y5).getD (Seg.mk (B8 []) (B8 []) [] [] (Ex.mk (0:Int) (B8 []) (B8 []) [] []))).5.5)) (Subj.mk s.1) Qg fun Qp=>Cnd (Qp=true) (Sml (Qg++[y5]).length/\InI (Up+1)/\v07 (Qg++[y5]) (Up+1)) (InI (Up+1)/\v07 Qg (Up+1))) (Ql Qg fun Qr=>K Qr)) [] (0:Int))) (0:Int) fun _=>none) (K [])
def W5:J4:=q25 q1e Hj Zh
abbrev Uk:Type:=Envt->Subj->ByteArray->(Bool->Prop)->Prop
def q26(Q9:J4)(Zz:J9):Uk:=fun v s experiment K=>Fits v.6->Lp1 (fun Qk q6h=>CAt v.6 Qk (fun y2=>Cnd (y2.1=experiment) (Q9 v.3 (Subj.mk s.1) fun Qg=>Zz (Subj.mk s.1) Qg (Ex.mk y2.8.1 y2.8.2 y2.8.3 y2.8.4 y2.8.5) fun Qr=>K Qr) (InI (Qk+1)/\q6h (Qk+1))) (K false)) (0:Int)
def Rk:Uk:=q26 W5 Vw
abbrev Vy:Type:=List (Rng)->Int->(Int->Prop)->Prop
def Rl:Vy:=fun l bucket K=>Fits l->Lp1 (fun Qk q6h=>CAt l Qk (fun y2=>Cnd (y2.1<=bucket) (Cnd (bucket<y2.2) (K y2.3) (InI (Qk+1)/\q6h (Qk+1))) (InI (Qk+1)/\q6h (Qk+1))) (K (0:Int))) (0:Int)
abbrev W0:Type:=Envt->Subj->List (Frc)->ByteArray->(Asg->Int->Prop)->Prop
def q92(Qt:Zu)(q2t:q1a)(Qq:Ji)(Zf:Vy)(Rx:Uk)(q6l:q1c)(q6m:q5n):W0:=fun v s forced key K=>Jn1 (fun Qa=>Cnd (Qa<0) (K (Asg.mk (B8 []) (B8 []) (0:Int) (0:Int) false) (11:Int)) (At v.5 Qa fun y1=>Qt (Subj.mk s.1) y1.2 fun Qd Uq=>Jn1 (fun Qg=>q2t forced key fun Qr q20=>Jn1 (fun Zc=>Cnd (Zc=true) (Cnd (Qr.2=B8 []) (K (Asg.mk key (B8 []) Qg (0:Int) false) (0:Int)) (K (Asg.mk key Qr.2 Qg Qr.3 false) (0:Int))) (Jn1 (fun Qp=>Cnd (Qp=true) (K (Asg.mk key (B8 []) Qg (0:Int) true) (0:Int)) (Cnd (Uq=true) (Fits v.6->Lp3 (fun Qo y45 y67 y9h=>CAt v.6 Qo (fun y10=>Jn1 (fun Jd=>Jn1 (fun j8m=>Cnd (j8m=true) (Qq y10.4 Qd.2 fun Jn=>Zf y10.7 Jn fun w9e=>K (Asg.mk key y10.1 Qg w9e false) (0:Int)) (InI (Qo+1)/\y9h (Qo+1) y45 y67)) fun y0n=>Cnd (y10.2=key) (Cnd (y10.5=2) (Cnd (Jd=true) (Rx (Envt.mk (Sett.mk v.1.1 v.1.2 v.1.3) v.2 v.3 v.4 v.5 v.6) (Subj.mk s.1) y10.1 fun Jn=>y0n Jn) (y0n false)) (y0n false)) (y0n false)) fun v3e=>Fits y10.6->Lp1 (fun Jn y68=>CAt y10.6 Jn (fun y15=>Cnd (y15.1<=Qg) (Cnd (Qg<y15.2) (v3e (decide ((0:Int)<=Jn))) (InI (Jn+1)/\y68 (Jn+1))) (InI (Jn+1)/\y68 (Jn+1))) (v3e (decide ((0:Int)<=(-1:Int))))) (0:Int)) (K (Asg.mk key y45 Qg y67 false) (0:Int))) (0:Int) (B8 []) (0:Int)) (K (Asg.mk key (B8 []) Qg (0:Int) false) (0:Int)))) fun y46=>q6l (Envt.mk (Sett.mk v.1.1 v.1.2 v.1.3) v.2 v.3 v.4 v.5 v.6) (Subj.mk s.1) fun Re=>Cnd (Re=true) (y46 true) (Cnd (Uq=true) (y46 (decide (Qg<y1.4))) (y46 false)))) fun j3h=>Cnd (q20=true) (Cnd (Qr.2=B8 []) (j3h true) (q6m (Envt.mk (Sett.mk v.1.1 v.1.2 v.1.3) v.2 v.3 v.4 v.5 v.6) Qr fun Qp=>j3h Qp)) (j3h false)) fun w31=>Cnd (Uq=true) (Qq y1.3 Qd.2 fun Qr=>w31 Qr) (w31 (-1:Int)))) fun q00=>Fits v.5->Lp1 (fun Qh z3i=>CAt v.5 Qh (fun y3=>Cnd (y3.1=key) (q00 Qh) (InI (Qh+1)/\z3i (Qh+1))) (q00 (-1:Int))) (0:Int)
def W2:W0:=q92 Wz q1b W7 Rl Rk q5p q5o
abbrev q4y:Type:=ByteArray->(List (ByteArray)->Prop)->Prop
def q4z(s:ByteArray)(K:List (ByteArray)->Prop):Prop:=s.size<4294967281/\v5v s/\K (Uw s)
abbrev J5:Type:=ByteArray->(Bool->Prop)->Prop
def j12(B6:q4y):J5:=fun s K=>Cnd ((↑s.size:Int)<1) (K false) (Cnd ((32:Int)<(↑s.size:Int)) (K false) (Lp1 (fun (Qa:ByteArray×Nat) Hb=>Cnd (Qa.2<Qa.1.size) (Cnd ((97:Int)<=(↑(Go.Utf8.decode Qa.1 Qa.2).1:Int)) (Cnd ((↑(Go.Utf8.decode Qa.1 Qa.2).1:Int)<=(122:Int)) (Hb (Qa.1,Qa.2+(Go.Utf8.decode Qa.1 Qa.2).2)) (Cnd ((↑Qa.2:Int)=(0:Int)) (K false) (Cnd ((↑(Go.Utf8.decode Qa.1 Qa.2).1:Int)<(48:Int)) (Cnd ((↑(Go.Utf8.decode Qa.1 Qa.2).1:Int)=(45:Int)) (Hb (Qa.1,Qa.2+(Go.Utf8.decode Qa.1 Qa.2).2)) (Cnd ((↑(Go.Utf8.decode Qa.1 Qa.2).1:Int)=(95:Int)) (Hb (Qa.1,Qa.2+(Go.Utf8.decode Qa.1 Qa.2).2)) (K false))) (Cnd ((57:Int)<(↑(Go.Utf8.decode Qa.1 Qa.2).1:Int)) (Cnd ((↑(Go.Utf8.decode Qa.1 Qa.2).1:Int)=(45:Int)) (Hb (Qa.1,Qa.2+(Go.Utf8.decode Qa.1 Qa.2).2)) (Cnd ((↑(Go.Utf8.decode Qa.1 Qa.2).1:Int)=(95:Int)) (Hb (Qa.1,Qa.2+(Go.Utf8.decode Qa.1 Qa.2).2)) (K false))) (Hb (Qa.1,Qa.2+(Go.Utf8.decode Qa.1 Qa.2).2)))))) (Cnd ((↑Qa.2:Int)=(0:Int)) (K false) (Cnd ((↑(Go.Utf8.decode Qa.1 Qa.2).1:Int)<(48:Int)) (Cnd ((↑(Go.Utf8.decode Qa.1 Qa.2).1:Int)=(45:Int)) (Hb (Qa.1,Qa.2+(Go.Utf8.decode Qa.1 Qa.2).2)) (Cnd ((↑(Go.Utf8.decode Qa.1 Qa.2).1:Int)=(95:Int)) (Hb (Qa.1,Qa.2+(Go.Utf8.decode Qa.1 Qa.2).2)) (K false))) (Cnd ((57:Int)<(↑(Go.Utf8.decode Qa.1 Qa.2).1:Int)) (Cnd ((↑(Go.Utf8.decode Qa.1 Qa.2).1:Int)=(45:Int)) (Hb (Qa.1,Qa.2+(Go.Utf8.decode Qa.1 Qa.2).2)) (Cnd ((↑(Go.Utf8.decode Qa.1 Qa.2).1:Int)=(95:Int)) (Hb (Qa.1,Qa.2+(Go.Utf8.decode Qa.1 Qa.2).2)) (K false))) (Hb (Qa.1,Qa.2+(Go.Utf8.decode Qa.1 Qa.2).2)))))) (B6 (B8 [97,110,100,32,97,114,109,115,32,97,116,116,114,105,98,117,116,101,32,98,111,111,108,32,99,108,97,105,109,115,32,99,111,110,116,97,105,110,115,32,99,111,111,108,32,99,111,111,108,105,110,103,32,100,101,102,97,117,108,116,32,100,114,97,102,116,32,101,110,100,115,32,101,120,99,108,117,100,101,32,101,120,105,115,116,115,32,101,120,112,101,114,105,109,101,110,116,32,102,97,108,115,101,32,102,108,97,103,32,104,111,108,100,111,117,116,32,105,110,32,105,110,99,108,117,100,101,32,105,115,32,108,97,121,101,114,32,108,105,115,116,32,109,101,109,98,101,114,32,110,101,101,100,115,32,110,111,116,32,110,117,109,98,101,114,32,111,102,102,32,111,110,32,111,114,32,114,117,108,101,32,114,117,110,110,105,110,103,32,115,97,108,116,32,115,101,103,109,101,110,116,32,115,101,114,118,101,32,115,101,116,116,105,110,103,115,32,115,112,108,105,116,32,115,116,97,114,116,115,32,115,116,111,112,112,101,100,32,116,97,114,103,101,116,32,116,101,120,116,32,116,111,32,116,114,117,101,32,117,110,116,105,108,32,118,97,114,105,97,116,105,111,110,115,32,118,101,114,115,105,111,110,32,119,104,101,110]) fun Qk=>Fits Qk->Lp1 (fun Qd z7h=>CAt Qk Qd (fun y4=>Cnd (y4=s) (K false) (InI (Qd+1)/\z7h (Qd+1))) (K true)) (0:Int))) (s,(0:Nat))))
def Rm:J5:=j12 q4z
abbrev q1n:Type:=Reg->Slt->(Bool->Prop)->Prop
def z1w(Qy:J5):q1n:=fun r s K=>Qy s.1 fun Qa=>Cnd (Qa=true) (Qy s.2 fun Qk=>Cnd (Qk=true) (Qy s.3 fun Qh=>Cnd (Qh=true) (Cnd (s.4<1) (K false) (Cnd ((8:Int)<s.4) (K false) (Cnd (s.5<0) (K false) (Cnd (r.1<s.5) (K false) (Cnd (s.7=0) (K (decide (s.6=0))) (Jn1 (fun Qd=>Cnd (Qd=true) (Cnd (s.5<=s.6) (K (decide (s.6<=r.1))) (K false)) (K false)) fun y69=>Cnd (s.7=1) (y69 (decide (s.7=1))) (y69 (decide (s.7=2))))))))) (K false)) (K false)) (K false)
def q5u:q1n:=z1w Rm
abbrev Zr:Type:=(ByteArray->Option (ByteArray))->ByteArray->(ByteArray->(ByteArray->Option (ByteArray))->Prop)->Prop
def Jk:Zr:=fun f id K=>Lp1 (fun Qa Hb=>Cnd ((f Qa).isSome=true) (Hb ((f Qa).getD (B8 []))) (K Qa f)) id
abbrev Wd:Type:=(ByteArray->Option (ByteArray))->ByteArray->ByteArray->(Bool->(ByteArray->Option (ByteArray))->Prop)->Prop
def Hz(Qn:Zr):Wd:=fun f a b K=>Qn f a fun Qa Hb=>Qn Hb b fun Qk q6h=>Cnd (Qa=Qk) (K false q6h) (Cnd (Lk.blt Qa Qk) (Cnd (Lk.blt Qk Qa) (K true (put q6h Qk Qk)) (K true (put q6h Qk Qa))) (Cnd (Lk.blt Qk Qa) (K true (put q6h Qa Qk)) (K true (put q6h Qa Qa))))
def Vz:Wd:=Hz Jk
abbrev U7:Type:=List (Lnk)->((ByteArray->Option (ByteArray))->Prop)->Prop
def z1x(V4:Wd):U7:=fun l K=>Fits l->Lp2 (fun Qk q6h w60=>CAt l Qk (fun y2=>V4 q6h y2.1 y2.2 fun _ w62=>InI (Qk+1)/\w60 (Qk+1) w62) (K q6h)) (0:Int) fun _=>none
def q1o:U7:=z1x Vz
abbrev Zp:Type:=List (Lnk)->ByteArray->(ByteArray->Prop)->Prop
def q7j(Ww:U7)(Qn:Zr):Zp:=fun l id K=>Ww l fun q00=>Qn q00 id fun Qk _=>K Qk
def We:Zp:=q7j q1o Jk
abbrev Z9:Type:=Reg->(Bool->Prop)->Prop
def q93(Qy:J5)(q6n:q1n)(Qm:Zp):Z9:=fun r K=>Cnd (r.1<0) (K false) (Cnd ((1099511627776:Int)<r.1) (K false) (Fits r.2->Cnd ((64:Int)<(↑r.2.length:Int)) (K false) (Fits r.3->Cnd ((128:Int)<(↑r.3.length:Int)) (K false) (Fits r.2->Lp2 (fun Qd Uq j4z=>CAt r.2 Uq (fun y4=>Qy y4.1 fun Zc=>Cnd (Zc=true) (Qy y4.2 fun Qp=>Cnd (Qp=true) (Cnd (y4.1=y4.2) (K false) (Cnd (y4.3<Qd) (K false) (Cnd (r.1<y4.3) (K false) (InI (Uq+1)/\j4z y4.3 (Uq+1))))) (K false)) (K false)) (Fits r.3->Lp2 (fun Qr q20 v3k=>CAt r.3 q20 (fun y6=>q6n r y6 fun Re=>Cnd (Re=true) (Cnd (y6.5<Qr) (K false) (InI (q20+1)/\v3k y6.5 (q20+1))) (K false)) (Fits r.3->Lp2 (fun Qp j33 v78=>CAt r.3 Qp (fun y8=>Cnd (y8.7=0) (Qm r.2 y8.1 fun Zj=>Cnd ((j33 (y8.2,Zj)).getD false=true) (K false) (InI (Qp+1)/\v78 (Qp+1) (put j33 (y8.2,Zj) true))) (InI (Qp+1)/\v78 (Qp+1) j33)) (K true)) (0:Int) fun _=>none)) (0:Int) (0:Int))) (0:Int) (0:Int)))))
def V6:Z9:=q93 Rm q5u We
abbrev Wa:Type:=Reg->Int->(Int->Prop)->Prop
def q94(Q3:Z9):Wa:=fun r now K=>Q3 r fun Qa=>Cnd (Qa=true) (Cnd (now<r.1) (K (26:Int)) (Cnd ((1099511627776:Int)<now) (K (26:Int)) (K (0:Int)))) (K (25:Int))
def G8:Wa:=q94 V6
abbrev Qu:Type:=List (Lnk)->(List (Lnk)->Prop)->Prop
def Q5:Qu:=fun s K=> ∀n0,(n0=true->s=[])->Cnd (n0=true) (K []) (Sml ([]++s).length/\K ([]++s))
abbrev Qv:Type:=List (Slt)->(List (Slt)->Prop)->Prop
def Q6:Qv:=fun s K=> ∀n0,(n0=true->s=[])->Cnd (n0=true) (K []) (Sml ([]++s).length/\K ([]++s))
abbrev Gv:Type:=Reg->ByteArray->ByteArray->(Int->Prop)->Prop
def q40(Qm:Zp):Gv:=fun r id layer K=>Qm r.2 id fun Qa=>Fits r.3->Lp1 (fun Qh z3i=>CAt r.3 Qh (fun y3=>Cnd (y3.7=0) (Cnd (y3.2=layer) (Qm r.2 y3.1 fun Qr=>Cnd (Qr=Qa) (K Qh) (InI (Qh+1)/\z3i (Qh+1))) (InI (Qh+1)/\z3i (Qh+1))) (InI (Qh+1)/\z3i (Qh+1))) (K (-1:Int))) (0:Int)
def Bt:Gv:=q40 We
abbrev Vb:Type:=Reg->ByteArray->Asg->Int->Int->(Reg->Slt->Int->Prop)->Prop
def q7k(Zq:Wa)(Qy:J5)(Qe:Qu)(Qf:Qv)(B7:Gv)(Qm:Zp):Vb:=fun r id a cool now K=>Zq r now fun Qa=>Cnd (Qa=0) (Cnd (cool<0) (K (Reg.mk (0:Int) [] []) (Slt.mk (B8 []) (B8 []) (B8 []) (0:Int) (0:Int) (0:Int) (0:Int)) (3:Int)) (Qy id fun Qk=>Cnd (Qk=true) (Qy a.1 fun Qh=>Cnd (Qh=true) (Qe r.2 fun Qd=>Qf r.3 fun Qg=>B7 r id a.1 fun Qr=>Cnd ((0:Int)<=Qr) (At r.3 Qr fun y6=>K (Reg.mk now Qd Qg) y6 (0:Int)) (Cnd (a.5=true) (K (Reg.mk (0:Int) [] []) (Slt.mk (B8 []) (B8 []) (B8 []) (0:Int) (0:Int) (0:Int) (0:Int)) (11:Int)) (Qy a.2 fun Zc=>Cnd (Zc=true) (Cnd (a.4<1) (K (Reg.mk (0:Int) [] []) (Slt.mk (B8 []) (B8 []) (B8 []) (0:Int) (0:Int) (0:Int) (0:Int)) (11:Int)) (Cnd ((8:Int)<a.4) (K (Reg.mk (0:Int) [] []) (Slt.mk (B8 []) (B8 []) (B8 []) (0:Int) (0:Int) (0:Int) (0:Int)) (11:Int)) (Qm r.2 id fun Qp=>Fits r.3->LpH (fun (Qo:Int×ByteArray×ByteArray×ByteArray×Int×Int×Int×Int×Int×List Lnk×List Slt×Unit) (v79:Int×ByteArray×ByteArray×ByteArray×Int×Int×Int×Int×Int×List Lnk×List Slt×Unit->Prop)=>CAt r.3 Qo.1 (fun y10=>Cnd (y10.2=a.1) (Cnd (y10.7=0) (InI (Qo.1+1)/\v79 (Qo.1+1,Qo.2.1,Qo.2.2.1,Qo.2.2.2.1,Qo.2.2.2.2.1,Qo.2.2.2.2.2.1,Qo.2.2.2.2.2.2.1,Qo.2.2.2.2.2.2.2.1,Qo.2.2.2.2.2.2.2.2.1,Qo.2.2.2.2.2.2.2.2.2.1,Qo.2.2.2.2.2.2.2.2.2.2.1,())) (InI (now - y10.6)/\Cnd (now - y10.6<cool) (Qm r.2 y10.1 fun Jd=>Cnd (Jd=Qp) (K (Reg.mk (0:Int) [] []) (Slt.mk (B8 []) (B8 []) (B8 []) (0:Int) (0:Int) (0:Int) (0:Int)) (28:Int)) (InI (Qo.1+1)/\v79 (Qo.1+1,Qo.2.1,Qo.2.2.1,Qo.2.2.2.1,Qo.2.2.2.2.1,Qo.2.2.2.2.2.1,Qo.2.2.2.2.2.2.1,Qo.2.2.2.2.2.2.2.1,Qo.2.2.2.2.2.2.2.2.1,Qo.2.2.2.2.2.2.2.2.2.1,Qo.2.2.2.2.2.2.2.2.2.2.1,()))) (InI (Qo.1+1)/\v79 (Qo.1+1,Qo.2.1,Qo.2.2.1,Qo.2.2.2.1,Qo.2.2.2.2.1,Qo.2.2.2.2.2.1,Qo.2.2.2.2.2.2.1,Qo.2.2.2.2.2.2.2.1,Qo.2.2.2.2.2.2.2.2.1,Qo.2.2.2.2.2.2.2.2.2.1,Qo.2.2.2.2.2.2.2.2.2.2.1,())))) (InI (Qo.1+1)/\v79 (Qo.1+1,Qo.2.1,Qo.2.2.1,Qo.2.2.2.1,Qo.2.2.2.2.1,Qo.2.2.2.2.2.1,Qo.2.2.2.2.2.2.1,Qo.2.2.2.2.2.2.2.1,Qo.2.2.2.2.2.2.2.2.1,Qo.2.2.2.2.2.2.2.2.2.1,Qo.2.2.2.2.2.2.2.2.2.2.1,()))) (Fits r.3->Cnd ((128:Int)<=(↑r.3.length:Int)) (K (Reg.mk (0:Int) [] []) (Slt.mk (B8 []) (B8 []) (B8 []) (0:Int) (0:Int) (0:Int) (0:Int)) (19:Int)) (Sml (Qg++[Slt.mk id a.1 a.2 a.4 now (0:Int) (0:Int)]).length/\K (Reg.mk now Qd (Qg++[Slt.mk id a.1 a.2 a.4 now (0:Int) (0:Int)])) (Slt.mk id a.1 a.2 a.4 now (0:Int) (0:Int)) (0:Int)))) ((0:Int),B8 [],B8 [],B8 [],(0:Int),(0:Int),(0:Int),(0:Int),(0:Int),[],[],())))) (K (Reg.mk (0:Int) [] []) (Slt.mk (B8 []) (B8 []) (B8 []) (0:Int) (0:Int) (0:Int) (0:Int)) (11:Int))))) (K (Reg.mk (0:Int) [] []) (Slt.mk (B8 []) (B8 []) (B8 []) (0:Int) (0:Int) (0:Int) (0:Int)) (6:Int))) (K (Reg.mk (0:Int) [] []) (Slt.mk (B8 []) (B8 []) (B8 []) (0:Int) (0:Int) (0:Int) (0:Int)) (6:Int)))) (K (Reg.mk (0:Int) [] []) (Slt.mk (B8 []) (B8 []) (B8 []) (0:Int) (0:Int) (0:Int) (0:Int)) Qa)
def H0:Vb:=q7k G8 Rm Q5 Q6 Bt We
abbrev Vl:Type:=List (Lnk)->Int->(List (Lnk)->Prop)->Prop
def Gw:Vl:=fun l time K=>Fits l->Lp2 (fun Qk Hq w60=>CAt l Hq (fun y2=>Cnd (y2.3<=time) (Sml (Qk++[y2]).length/\InI (Hq+1)/\w60 (Qk++[y2]) (Hq+1)) (InI (Hq+1)/\w60 Qk (Hq+1))) (K Qk)) [] (0:Int)
abbrev q0i:Type:=Reg->ByteArray->ByteArray->Int->(Slt->Bool->Prop)->Prop
def z74(Jf:Vl)(Qm:Zp):q0i:=fun r id layer time K=>Jf r.2 time fun Qa=>Qm Qa id fun Qk=>Fits r.3->LpH (fun (Qd:Int×ByteArray×ByteArray×ByteArray×Int×Int×Int×Int×Unit) z7h=>CAt r.3 Qd.1 (fun y4=>Cnd (y4.2=layer) (Cnd (y4.5<=time) (Cnd (y4.7=0) (Qm Qa y4.1 fun Zc=>Cnd (Zc=Qk) (K y4 true) (InI (Qd.1+1)/\z7h (Qd.1+1,Qd.2.1,Qd.2.2.1,Qd.2.2.2.1,Qd.2.2.2.2.1,Qd.2.2.2.2.2.1,Qd.2.2.2.2.2.2.1,Qd.2.2.2.2.2.2.2.1,()))) (Cnd (time<y4.6) (Qm Qa y4.1 fun Zc=>Cnd (Zc=Qk) (K y4 true) (InI (Qd.1+1)/\z7h (Qd.1+1,Qd.2.1,Qd.2.2.1,Qd.2.2.2.1,Qd.2.2.2.2.1,Qd.2.2.2.2.2.1,Qd.2.2.2.2.2.2.1,Qd.2.2.2.2.2.2.2.1,()))) (InI (Qd.1+1)/\z7h (Qd.1+1,Qd.2.1,Qd.2.2.1,Qd.2.2.2.1,Qd.2.2.2.2.1,Qd.2.2.2.2.2.1,Qd.2.2.2.2.2.2.1,Qd.2.2.2.2.2.2.2.1,())))) (InI (Qd.1+1)/\z7h (Qd.1+1,Qd.2.1,Qd.2.2.1,Qd.2.2.2.1,Qd.2.2.2.2.1,Qd.2.2.2.2.2.1,Qd.2.2.2.2.2.2.1,Qd.2.2.2.2.2.2.2.1,()))) (InI (Qd.1+1)/\z7h (Qd.1+1,Qd.2.1,Qd.2.2.1,Qd.2.2.2.1,Qd.2.2.2.2.1,Qd.2.2.2.2.2.1,Qd.2.2.2.2.2.2.1,Qd.2.2.2.2.2.2.2.1,()))) (K (Slt.mk (B8 []) (B8 []) (B8 []) (0:Int) (0:Int) (0:Int) (0:Int)) false)) ((0:Int),B8 [],B8 [],B8 [],(0:Int),(0:Int),(0:Int),(0:Int),())
def q7l:q0i:=z74 Gw We
abbrev q7m:Type:=Reg->ByteArray->ByteArray->Int->(Slt->Bool->Prop)->Prop
def z77(Q3:Z9)(Gj:q0i):q7m:=fun r id layer time K=>Q3 r fun Qa=>Cnd (Qa=true) (Gj r id layer time fun Qk Hq=>K Qk Hq) (K (Slt.mk (B8 []) (B8 []) (B8 []) (0:Int) (0:Int) (0:Int) (0:Int)) false)
def z1y:q7m:=z77 V6 q7l
abbrev Rn:Type:=Envt->ByteArray->(Lay_->Bool->Prop)->Prop
def q1p:Rn:=fun v key K=>Fits v.5->LpH (fun (Qk:Int×ByteArray×ByteArray×ByteArray×Int×Int×List Col×Unit) q6h=>CAt v.5 Qk.1 (fun y2=>Cnd (y2.1=key) (K y2 true) (InI (Qk.1+1)/\q6h (Qk.1+1,Qk.2.1,Qk.2.2.1,Qk.2.2.2.1,Qk.2.2.2.2.1,Qk.2.2.2.2.2.1,Qk.2.2.2.2.2.2.1,()))) (K (Lay_.mk (B8 []) (B8 []) (B8 []) (0:Int) (0:Int) []) false)) ((0:Int),B8 [],B8 [],B8 [],(0:Int),(0:Int),[],())
abbrev Vm:Type:=Lnk->ByteArray->(ByteArray->Bool->Prop)->Prop
def Gx:Vm:=fun k id K=>Cnd (id=k.1) (K k.2 true) (Cnd (id=k.2) (K k.1 true) (K (B8 []) false))
abbrev Wq:Type:=List (Lnk)->ByteArray->((ByteArray->Option (Int))->Prop)->Prop
def R2(Jg:Vm):Wq:=fun l b K=>Lp2 (fun Qa Hb j8k=>Fits Qa->Cnd ((0:Int)<(↑Qa.length:Int)) (Fits Qa->Lp3 (fun Qd Uq j4z y7a=>CAt Qa Uq (fun y4=>Fits l->Lp3 (fun Qp w63 v78 y8s=>CAt l w63 (fun y8=>Jg y8 y4 fun Zj y0o=>Cnd (y0o=true) (Cnd ((v78 Zj).isSome=true) (InI (w63+1)/\y8s Qp (w63+1) v78) (InI ((v78 y4).getD (0:Int)+(1:Int))/\Sml (Qp++[Zj]).length/\InI (w63+1)/\y8s (Qp++[Zj]) (w63+1) (put v78 Zj ((v78 y4).getD (0:Int)+(1:Int))))) (InI (w63+1)/\y8s Qp (w63+1) v78)) (InI (Uq+1)/\y7a Qp (Uq+1) v78)) Qd (0:Int) j4z) (j8k Qd j4z)) [] (0:Int) Hb) (K Hb)) [b] (put (fun _=>none) b (0:Int))
def Ua:Wq:=R2 Gx
abbrev H1:Type:=List (Lnk)->ByteArray->ByteArray->(List (Lnk)->Bool->Prop)->Prop
def q7n(Uf:Wq)(Jg:Vm):H1:=fun l a b K=>Uf l b fun q00=>Cnd ((q00 a).isSome=true) (Lp2 (fun Qk Hq w60=>Cnd (Qk=b) (K Hq true) (Fits l->Lp3 (fun Qd Uq y0p y7a=>CAt l y0p (fun y4=>Jg y4 Qd fun Zc q4m=>Cnd (q4m=true) (Cnd ((q00 Zc).isSome=true) (InI ((q00 Qd).getD (0:Int) - (1:Int))/\Cnd ((q00 Zc).getD (0:Int)=(q00 Qd).getD (0:Int) - (1:Int)) (Sml (Uq++[y4]).length/\w60 Zc (Uq++[y4])) (InI (y0p+1)/\y7a Qd Uq (y0p+1))) (InI (y0p+1)/\y7a Qd Uq (y0p+1))) (InI (y0p+1)/\y7a Qd Uq (y0p+1))) (K Uq true)) Qk Hq (0:Int))) a []) (K [] false)
def q1q:H1:=q7n Ua Gx
abbrev Vc:Type:=Reg->Envt->ByteArray->ByteArray->Int->(Rcd->Int->Prop)->Prop
def q7o(Q3:Z9)(z3j:q7m)(Wx:Rn)(Jf:Vl)(q2u:H1)(Qq:Ji):Vc:=fun r v id key time K=>Q3 r fun Qa=>Cnd (Qa=true) (z3j r id key time fun Qk Hq=>Wx (Envt.mk (Sett.mk v.1.1 v.1.2 v.1.3) v.2 v.3 v.4 v.5 v.6) key fun Qh Ut=>Cnd (Hq=true) (Cnd (Ut=true) (Jf r.2 time fun Qd=>q2u Qd id Qk.1 fun Qg _=>Qq Qh.3 Qk.1 fun Qr=>K (Rcd.mk id time Qk Qr Qg) (0:Int)) (K (Rcd.mk (B8 []) (0:Int) (Slt.mk (B8 []) (B8 []) (B8 []) (0:Int) (0:Int) (0:Int) (0:Int)) (0:Int) []) (11:Int))) (K (Rcd.mk (B8 []) (0:Int) (Slt.mk (B8 []) (B8 []) (B8 []) (0:Int) (0:Int) (0:Int) (0:Int)) (0:Int) []) (11:Int))) (K (Rcd.mk (B8 []) (0:Int) (Slt.mk (B8 []) (B8 []) (B8 []) (0:Int) (0:Int) (0:Int) (0:Int)) (0:Int) []) (25:Int))
def H2:Vc:=q7o V6 z1y q1p Gw q1q W7
abbrev q5v:Type:=List (Lnk)->ByteArray->ByteArray->Int->(Bool->Prop)->Prop
def q5w:q5v:=fun l a b time K=>Fits l->Lp2 (fun Qk Hq w60=>CAt l Hq (fun y2=>Cnd (time<y2.3) (K false) (Cnd (y2.1=Qk) (InI (Hq+1)/\w60 y2.2 (Hq+1)) (Cnd (y2.2=Qk) (InI (Hq+1)/\w60 y2.1 (Hq+1)) (K false)))) (K (decide (Qk=b)))) a (0:Int)
abbrev U8:Type:=Rcd->Envt->(Int->Prop)->Prop
def z1z(q6o:q5v)(Wx:Rn)(Qq:Ji)(Zf:Vy)(Qy:J5):U8:=fun x v K=>Jn1 (fun Qa=>Cnd (Qa=true) (K (6:Int)) (Jn1 (fun Qk=>Cnd (Qk=true) (K (26:Int)) (q6o x.5 x.1 x.3.1 x.2 fun Qh=>Cnd (Qh=true) (Wx (Envt.mk (Sett.mk v.1.1 v.1.2 v.1.3) v.2 v.3 v.4 v.5 v.6) x.3.2 fun Qd Uq=>Fits v.6->Lp1 (fun Qr j32=>CAt v.6 Qr (fun y6=>Cnd (y6.1=x.3.3) (Cnd (y6.2=x.3.2) (Cnd (Uq=true) (Cnd (Qr<0) (K (11:Int)) (At v.6 Qr fun y8=>Qq Qd.3 x.3.1 fun Zj=>Cnd (x.4=Zj) (Fits y8.6->Lp1 (fun Jd y0q=>CAt y8.6 Jd (fun y13=>Cnd (y13.1<=x.4) (Cnd (x.4<y13.2) (Cnd ((0:Int)<=Jd) (Qq y8.4 x.3.1 fun w9e=>Zf y8.7 w9e fun q3l=>Cnd (x.3.4=q3l) (K (0:Int)) (K (23:Int))) (K (25:Int))) (InI (Jd+1)/\y0q (Jd+1))) (InI (Jd+1)/\y0q (Jd+1))) (Cnd ((0:Int)<=(-1:Int)) (Qq y8.4 x.3.1 fun j8m=>Zf y8.7 j8m fun Jn=>Cnd (x.3.4=Jn) (K (0:Int)) (K (23:Int))) (K (25:Int)))) (0:Int)) (K (3:Int)))) (K (11:Int))) (InI (Qr+1)/\j32 (Qr+1))) (InI (Qr+1)/\j32 (Qr+1))) (Cnd (Uq=true) (Cnd ((-1:Int)<(0:Int)) (K (11:Int)) (At v.6 (-1:Int) fun y6=>Qq Qd.3 x.3.1 fun Re=>Cnd (x.4=Re) (Fits y6.6->Lp1 (fun Zj v3f=>CAt y6.6 Zj (fun y11=>Cnd (y11.1<=x.4) (Cnd (x.4<y11.2) (Cnd ((0:Int)<=Zj) (Qq y6.4 x.3.1 fun j8m=>Zf y6.7 j8m fun Jn=>Cnd (x.3.4=Jn) (K (0:Int)) (K (23:Int))) (K (25:Int))) (InI (Zj+1)/\v3f (Zj+1))) (InI (Zj+1)/\v3f (Zj+1))) (Cnd ((0:Int)<=(-1:Int)) (Qq y6.4 x.3.1 fun q4o=>Zf y6.7 q4o fun Jd=>Cnd (x.3.4=Jd) (K (0:Int)) (K (23:Int))) (K (25:Int)))) (0:Int)) (K (3:Int)))) (K (11:Int)))) (0:Int)) (K (15:Int)))) fun v3d=>Cnd (x.2<x.3.5) (v3d (decide (x.2<x.3.5))) (Cnd (x.3.7=0) (v3d false) (v3d (decide (x.3.6<=x.2)))))) fun q00=>Qy x.1 fun Qk=>Cnd (Qk=true) (Qy x.3.1 fun Qh=>q00 (match decide ((Qh,()).1=true) with|true=>false|false=>true)) (q00 (match decide ((Qk,()).1=true) with|true=>false|false=>true))
def q1r:U8:=z1z q5w q1p W7 Rl Rm
abbrev q1s:Type:=(Bool->Prop)->Prop
def z10(Jh:Wm)(Ve:q38)(Ja:W0)(Jw:Vb)(Jx:Vc)(Wc:U8):q1s:=fun K=>Jh (0:Int) (0:Int) (9998:Int) (4000:Int) (3000:Int) fun Qa=>Ve (B8 [97,110,110]) fun Qk=>Ja (Envt.mk (Sett.mk Qa.1.1 Qa.1.2 Qa.1.3) Qa.2 Qa.3 Qa.4 Qa.5 Qa.6) (Subj.mk Qk.1) [] (B8 [104,111,109,101]) fun Qh Ut=>Jw (Reg.mk (0:Int) [] []) (B8 [97,110,110]) Qh (0:Int) (1:Int) fun Qd _ y0p=>Jx Qd (Envt.mk (Sett.mk Qa.1.1 Qa.1.2 Qa.1.3) Qa.2 Qa.3 Qa.4 Qa.5 Qa.6) (B8 [97,110,110]) (B8 [104,111,109,101]) (1:Int) fun Qg Up=>InI (Qg.4+1)/\(10000:Int)≠(0:Int)/\Cnd (Ut=0) (Cnd (y0p=0) (Cnd (Up=0) (Cnd ((0:Int)<Qh.4) (Cnd (Qg.3.4=Qh.4) (Cnd (Qg.3.1=B8 [97,110,110]) (Cnd (Qg.4=Qh.3) (Wc (Rcd.mk Qg.1 Qg.2 (Slt.mk Qg.3.1 Qg.3.2 Qg.3.3 Qg.3.4 Qg.3.5 Qg.3.6 Qg.3.7) Qg.4 Qg.5) (Envt.mk (Sett.mk Qa.1.1 Qa.1.2 Qa.1.3) Qa.2 Qa.3 Qa.4 Qa.5 Qa.6) fun Qr=>Cnd (Qr=0) (Wc (Rcd.mk Qg.1 Qg.2 (Slt.mk Qg.3.1 Qg.3.2 Qg.3.3 Qg.3.4 Qg.3.5 Qg.3.6 Qg.3.7) ((Qg.4+1).tmod (10000:Int)) Qg.5) (Envt.mk (Sett.mk Qa.1.1 Qa.1.2 Qa.1.3) Qa.2 Qa.3 Qa.4 Qa.5 Qa.6) fun Zc=>K (decide (Zc=3))) (K false)) (K false)) (K false)) (K false)) (K false)) (K false)) (K false)) (K false)
def q5x:q1s:=z10 Gs q7d W2 H0 H2 q1r
abbrev J1:Type:=AEnv->(Envt->Prop)->Prop
def He(Jh:Wm):J1:=fun x K=>Jh x.1 x.2 x.3 x.4 x.5 fun Qa=>K (Envt.mk (Sett.mk Qa.1.1 Qa.1.2 Qa.1.3) Qa.2 Qa.3 Qa.4 Qa.5 Qa.6)
def Vf:J1:=He Gs
abbrev z9t:Type:=ByteArray->(Bool->Prop)->Prop
def z9u:z9t:=fun s K=>Lp1 (fun Qa Hb=>Cnd (Qa<(↑s.size:Int)) (((0:Int)<=Qa/\Qa<(↑s.size:Int))/\ ∀b1,s[Qa.toNat]? =some b1->Cnd ((97:Int)<=(↑b1.toNat:Int)) (Cnd ((↑b1.toNat:Int)<=122) (InI (Qa+1)/\Hb (Qa+1)) (Cnd (Qa=0) (K false) (Cnd ((48:Int)<=(↑b1.toNat:Int)) (Cnd ((↑b1.toNat:Int)<=57) (InI (Qa+1)/\Hb (Qa+1)) (Cnd ((↑b1.toNat:Int)=45) (InI (Qa+1)/\Hb (Qa+1)) (Cnd ((↑b1.toNat:Int)=95) (InI (Qa+1)/\Hb (Qa+1)) (K false)))) (Cnd ((↑b1.toNat:Int)=45) (InI (Qa+1)/\Hb (Qa+1)) (Cnd ((↑b1.toNat:Int)=95) (InI (Qa+1)/\Hb (Qa+1)) (K false)))))) (Cnd (Qa=0) (K false) (Cnd ((48:Int)<=(↑b1.toNat:Int)) (Cnd ((↑b1.toNat:Int)<=57) (InI (Qa+1)/\Hb (Qa+1)) (Cnd ((↑b1.toNat:Int)=45) (InI (Qa+1)/\Hb (Qa+1)) (Cnd ((↑b1.toNat:Int)=95) (InI (Qa+1)/\Hb (Qa+1)) (K false)))) (Cnd ((↑b1.toNat:Int)=45) (InI (Qa+1)/\Hb (Qa+1)) (Cnd ((↑b1.toNat:Int)=95) (InI (Qa+1)/\Hb (Qa+1)) (K false)))))) (K (decide ((0:Int)<(↑s.size:Int))))) (0:Int)
abbrev q5y:Type:=(List (ByteArray)->Prop)->Prop
def q5z:q5y:=fun K=>K [B8 [97,110,100],B8 [97,114,109,115],B8 [97,116,116,114,105,98,117,116,101],B8 [98,111,111,108],B8 [99,108,97,105,109,115],B8 [99,111,110,116,97,105,110,115],B8 [99,111,111,108],B8 [99,111,111,108,105,110,103],B8 [100,101,102,97,117,108,116],B8 [100,114,97,102,116],B8 [101,110,100,115],B8 [101,120,99,108,117,100,101],B8 [101,120,105,115,116,115],B8 [101,120,112,101,114,105,109,101,110,116],B8 [102,97,108,115,101],B8 [102,108,97,103],B8 [104,111,108,100,111,117,116],B8 [105,110],B8 [105,110,99,108,117,100,101],B8 [105,115],B8 [108,97,121,101,114],B8 [108,105,115,116],B8 [109,101,109,98,101,114],B8 [110,101,101,100,115],B8 [110,111,116],B8 [110,117,109,98,101,114],B8 [111,102,102],B8 [111,110],B8 [111,114],B8 [114,117,108,101],B8 [114,117,110,110,105,110,103],B8 [115,97,108,116],B8 [115,101,103,109,101,110,116],B8 [115,101,114,118,101],B8 [115,101,116,116,105,110,103,115],B8 [115,112,108,105,116],B8 [115,116,97,114,116,115],B8 [115,116,111,112,112,101,100],B8 [116,97,114,103,101,116],B8 [116,101,120,116],B8 [116,111],B8 [116,114,117,101],B8 [117,110,116,105,108],B8 [118,97,114,105,97,116,105,111,110,115],B8 [118,101,114,115,105,111,110],B8 [119,104,101,110]]
abbrev q50:Type:=ByteArray->(Bool->Prop)->Prop
def w07(j1c:z9t)(q6p:q5y):q50:=fun s K=>j1c s fun Qa=>Cnd (Qa=true) (Cnd ((32:Int)<(↑s.size:Int)) (K false) (q6p fun Qk=>Lp1 (fun Qh z3i=>Fits Qk->CAt Qk Qh (fun y4=>Cnd (y4=s) (K false) (InI (Qh+1)/\z3i (Qh+1))) (K true)) (0:Int))) (K false)
def z57:q50:=w07 z9u q5z
abbrev Ws:Type:=List (ByteArray)->ByteArray->(Bool->Prop)->Prop
def Hk:Ws:=fun l s K=>Lp1 (fun Qa Hb=>Fits l->CAt l Qa (fun y2=>Cnd (y2=s) (K true) (InI (Qa+1)/\Hb (Qa+1))) (K false)) (0:Int)
abbrev q8w:Type:=List (ByteArray)->ByteArray->(List (ByteArray)->Prop)->Prop
def q4b:q8w:=fun l s K=>Lp1 (fun Qa Hb=>Fits l->CAt l Qa (fun y2=>Cnd (Lk.blt y2 s) (InI (Qa+1)/\Hb (Qa+1)) (((0:Int)<=(0:Int)/\(0:Int)<=Qa/\Qa<=(↑l.length:Int))/\((0:Int)<=Qa/\Qa<=(↑l.length:Int)/\(↑l.length:Int)<=(↑l.length:Int))/\((Sml ([]++List.drop (Int.toNat (0:Int)) (List.take Qa.toNat l)).length/\Sml ([]++List.drop (Int.toNat (0:Int)) (List.take Qa.toNat l)++[s]).length/\Sml ([]++List.drop (Int.toNat (0:Int)) (List.take Qa.toNat l)++[s]++List.drop Qa.toNat (List.take (↑l.length:Int).toNat l)).length/\K ([]++List.drop (Int.toNat (0:Int)) (List.take Qa.toNat l)++[s]++List.drop Qa.toNat (List.take (↑l.length:Int).toNat l)))/\Sml ([]++List.drop (Int.toNat (0:Int)) (List.take Qa.toNat l)).length/\Sml ([]++List.drop (Int.toNat (0:Int)) (List.take Qa.toNat l)++[s]).length/\Sml ([]++List.drop (Int.toNat (0:Int)) (List.take Qa.toNat l)++[s]++List.drop Qa.toNat (List.take (↑l.length:Int).toNat l)).length/\K ([]++List.drop (Int.toNat (0:Int)) (List.take Qa.toNat l)++[s]++List.drop Qa.toNat (List.take (↑l.length:Int).toNat l)))/\Sml ([]++List.drop (Int.toNat (0:Int)) (List.take Qa.toNat l)).length/\Sml ([]++List.drop (Int.toNat (0:Int)) (List.take Qa.toNat l)++[s]).length/\Sml ([]++List.drop (Int.toNat (0:Int)) (List.take Qa.toNat l)++[s]++List.drop Qa.toNat (List.take (↑l.length:Int).toNat l)).length/\K ([]++List.drop (Int.toNat (0:Int)) (List.take Qa.toNat l)++[s]++List.drop Qa.toNat (List.take (↑l.length:Int).toNat l)))) (((0:Int)<=(0:Int)/\(0:Int)<=Qa/\Qa<=(↑l.length:Int))/\((0:Int)<=Qa/\Qa<=(↑l.length:Int)/\(↑l.length:Int)<=(↑l.length:Int))/\((Sml ([]++List.drop (Int.toNat (0:Int)) (List.take Qa.toNat l)).length/\Sml ([]++List.drop (Int.toNat (0:Int)) (List.take Qa.toNat l)++[s]).length/\Sml ([]++List.drop (Int.toNat (0:Int)) (List.take Qa.toNat l)++[s]++List.drop Qa.toNat (List.take (↑l.length:Int).toNat l)).length/\K ([]++List.drop (Int.toNat (0:Int)) (List.take Qa.toNat l)++[s]++List.drop Qa.toNat (List.take (↑l.length:Int).toNat l)))/\Sml ([]++List.drop (Int.toNat (0:Int)) (List.take Qa.toNat l)).length/\Sml ([]++List.drop (Int.toNat (0:Int)) (List.take Qa.toNat l)++[s]).length/\Sml ([]++List.drop (Int.toNat (0:Int)) (List.take Qa.toNat l)++[s]++List.drop Qa.toNat (List.take (↑l.length:Int).toNat l)).length/\K ([]++List.drop (Int.toNat (0:Int)) (List.take Qa.toNat l)++[s]++List.drop Qa.toNat (List.take (↑l.length:Int).toNat l)))/\Sml ([]++List.drop (Int.toNat (0:Int)) (List.take Qa.toNat l)).length/\Sml ([]++List.drop (Int.toNat (0:Int)) (List.take Qa.toNat l)++[s]).length/\Sml ([]++List.drop (Int.toNat (0:Int)) (List.take Qa.toNat l)++[s]++List.drop Qa.toNat (List.take (↑l.length:Int).toNat l)).length/\K ([]++List.drop (Int.toNat (0:Int)) (List.take Qa.toNat l)++[s]++List.drop Qa.toNat (List.take (↑l.length:Int).toNat l)))) (0:Int)
abbrev q1t:Type:=List (Lnk)->ByteArray->(List (ByteArray)->Prop)->Prop
def z11(Qz:Ws)(q9l:q8w):q1t:=fun l id K=>Lp2 (fun Qa Jm j8k=>Cnd (Jm=true) (Lp3 (fun Qk Hq j3g y0m=>Fits l->CAt l j3g (fun y3=>At l j3g fun y5=>Qz Qk y3.1 fun Qp=>Qz Qk y5.2 fun Re=>Cnd (Qp=Re) (InI (j3g+1)/\y0m Qk Hq (j3g+1)) (At l j3g fun y9=>Jn1 (fun q4o=>q9l Qk q4o fun Jd=>InI (j3g+1)/\y0m Jd true (j3g+1)) fun y7b=>Cnd (Qp=true) (At l j3g fun y12=>y7b y12.2) (y7b y9.1))) (j8k Qk Hq)) Qa false (0:Int)) (K Qa)) [id] true
def q51:q1t:=z11 Hk q4b
abbrev q27:Type:=List (Lnk)->ByteArray->ByteArray->(Bool->Prop)->Prop
def j13(q6q:q1t)(Qz:Ws):q27:=fun l a b K=>q6q l a fun Qa=>Qz Qa b fun Qk=>K Qk
def q60:q27:=j13 q51 Hk
abbrev z0v:Type:=Reg->Int->(Bool->Prop)->Prop
def j14(Vg:q50)(Un:q27):z0v:=fun r i K=>At r.3 i fun y0=>Vg y0.1 fun Qh=>Cnd (Qh=true) (Vg y0.2 fun Qd=>Cnd (Qd=true) (Vg y0.3 fun Qg=>Cnd (Qg=true) (Cnd (y0.4<1) (K false) (Cnd ((8:Int)<y0.4) (K false) (Cnd (y0.5<0) (K false) (Cnd (r.1<y0.5) (K false) (Cnd ((0:Int)<i) (InI (i - 1)/\((0:Int)<=i - 1/\i - 1<(↑r.3.length:Int))/\ ∀y5,r.3[(i - 1).toNat]? =some y5->Cnd (y0.5<y5.5) (K false) (Jn0 (Lp1 (fun Qp j33=>Cnd (Qp<i) (At r.3 Qp fun y8=>Cnd (y0.7=0) (Cnd (y8.7=0) (Cnd (y0.2=y8.2) (Un r.2 y0.1 y8.1 fun Zj=>Cnd (Zj=true) (K false) (InI (Qp+1)/\j33 (Qp+1))) (InI (Qp+1)/\j33 (Qp+1))) (InI (Qp+1)/\j33 (Qp+1))) (InI (Qp+1)/\j33 (Qp+1))) (K true)) (0:Int)) fun Qp=>Cnd (y0.7=0) (Cnd (y0.6=0) Qp (K false)) (Jn1 (fun Re=>Cnd (Re=true) (Cnd (y0.6<y0.5) (K false) (Cnd (r.1<y0.6) (K false) Qp)) (K false)) fun y7c=>Cnd (y0.7=1) (y7c (decide (y0.7=1))) (y7c (decide (y0.7=2)))))) (Jn0 (Lp1 (fun Qr j32=>Cnd (Qr<i) (At r.3 Qr fun y6=>Cnd (y0.7=0) (Cnd (y6.7=0) (Cnd (y0.2=y6.2) (Un r.2 y0.1 y6.1 fun Re=>Cnd (Re=true) (K false) (InI (Qr+1)/\j32 (Qr+1))) (InI (Qr+1)/\j32 (Qr+1))) (InI (Qr+1)/\j32 (Qr+1))) (InI (Qr+1)/\j32 (Qr+1))) (K true)) (0:Int)) fun Qr=>Cnd (y0.7=0) (Cnd (y0.6=0) Qr (K false)) (Jn1 (fun Zc=>Cnd (Zc=true) (Cnd (y0.6<y0.5) (K false) (Cnd (r.1<y0.6) (K false) Qr)) (K false)) fun j3h=>Cnd (y0.7=1) (j3h (decide (y0.7=1))) (j3h (decide (y0.7=2)))))))))) (K false)) (K false)) (K false)
def z58:z0v:=j14 z57 q60
abbrev q0j:Type:=Reg->(Bool->Prop)->Prop
def z78(Vg:q50)(z6x:z0v):q0j:=fun r K=>Cnd (r.1<0) (K false) (Cnd ((1099511627776:Int)<r.1) (K false) (Fits r.2->Cnd ((64:Int)<(↑r.2.length:Int)) (K false) (Fits r.3->Cnd ((128:Int)<(↑r.3.length:Int)) (K false) (Lp1 (fun Qh z3i=>Fits r.2->CAt r.2 Qh (fun y4=>Vg y4.1 fun Zc=>Cnd (Zc=true) (Vg y4.2 fun Qp=>Cnd (Qp=true) (Cnd (y4.1=y4.2) (K false) (Cnd (y4.3<0) (K false) (Cnd (r.1<y4.3) (K false) (Cnd ((0:Int)<Qh) (InI (Qh - 1)/\((0:Int)<=Qh - 1/\Qh - 1<(↑r.2.length:Int))/\ ∀y8,r.2[(Qh - 1).toNat]? =some y8->Cnd (y4.3<y8.3) (K false) (InI (Qh+1)/\z3i (Qh+1))) (InI (Qh+1)/\z3i (Qh+1)))))) (K false)) (K false)) (Lp1 (fun Qg w62=>Fits r.3->Cnd (Qg<(↑r.3.length:Int)) (z6x r Qg fun Zc=>Cnd (Zc=true) (InI (Qg+1)/\w62 (Qg+1)) (K false)) (K true)) (0:Int))) (0:Int)))))
def q7p:q0j:=z78 z57 z58
abbrev q28:Type:=List (Lnk)->Int->(List (Lnk)->Prop)->Prop
def q7q:q28:=fun l time K=>Lp2 (fun Qa Jm j8k=>Fits l->CAt l Jm (fun y2=>Cnd (y2.3<=time) (At l Jm fun y4=>Sml (Qa++[y4]).length/\InI (Jm+1)/\j8k (Qa++[y4]) (Jm+1)) (InI (Jm+1)/\j8k Qa (Jm+1))) (K Qa)) [] (0:Int)
abbrev z13:Type:=Reg->ByteArray->ByteArray->Int->(Slt->Bool->Prop)->Prop
def w08(Gk:q0j)(Gl:q28)(Un:q27):z13:=fun r id layer time K=>Gk r fun Qa=>Cnd (Qa=true) (Gl r.2 time fun Qk=>LpH (fun (Qh:Int×ByteArray×ByteArray×ByteArray×Int×Int×Int×Int×Unit) z3i=>Fits r.3->CAt r.3 Qh.1 (fun y4=>Cnd (y4.2=layer) (Cnd (y4.5<=time) (Cnd (y4.7=0) (Un Qk y4.1 id fun Zc=>Cnd (Zc=true) (K y4 true) (InI (Qh.1+1)/\z3i (Qh.1+1,Qh.2.1,Qh.2.2.1,Qh.2.2.2.1,Qh.2.2.2.2.1,Qh.2.2.2.2.2.1,Qh.2.2.2.2.2.2.1,Qh.2.2.2.2.2.2.2.1,()))) (Cnd (time<y4.6) (Un Qk y4.1 id fun Zc=>Cnd (Zc=true) (K y4 true) (InI (Qh.1+1)/\z3i (Qh.1+1,Qh.2.1,Qh.2.2.1,Qh.2.2.2.1,Qh.2.2.2.2.1,Qh.2.2.2.2.2.1,Qh.2.2.2.2.2.2.1,Qh.2.2.2.2.2.2.2.1,()))) (InI (Qh.1+1)/\z3i (Qh.1+1,Qh.2.1,Qh.2.2.1,Qh.2.2.2.1,Qh.2.2.2.2.1,Qh.2.2.2.2.2.1,Qh.2.2.2.2.2.2.1,Qh.2.2.2.2.2.2.2.1,())))) (InI (Qh.1+1)/\z3i (Qh.1+1,Qh.2.1,Qh.2.2.1,Qh.2.2.2.1,Qh.2.2.2.2.1,Qh.2.2.2.2.2.1,Qh.2.2.2.2.2.2.1,Qh.2.2.2.2.2.2.2.1,()))) (InI (Qh.1+1)/\z3i (Qh.1+1,Qh.2.1,Qh.2.2.1,Qh.2.2.2.1,Qh.2.2.2.2.1,Qh.2.2.2.2.2.1,Qh.2.2.2.2.2.2.1,Qh.2.2.2.2.2.2.2.1,()))) (K (Slt.mk (B8 []) (B8 []) (B8 []) (0:Int) (0:Int) (0:Int) (0:Int)) false)) ((0:Int),B8 [],B8 [],B8 [],(0:Int),(0:Int),(0:Int),(0:Int),())) (K (Slt.mk (B8 []) (B8 []) (B8 []) (0:Int) (0:Int) (0:Int) (0:Int)) false)
def z9v:z13:=w08 q7p q7q q60
abbrev q29:Type:=Envt->ByteArray->(Lay_->Bool->Prop)->Prop
def q7r:q29:=fun v key K=>LpH (fun (Qa:Int×ByteArray×ByteArray×ByteArray×Int×Int×List Col×Unit) Hb=>Fits v.5->CAt v.5 Qa.1 (fun y2=>Cnd (y2.1=key) (At v.5 Qa.1 fun y4=>K y4 true) (InI (Qa.1+1)/\Hb (Qa.1+1,Qa.2.1,Qa.2.2.1,Qa.2.2.2.1,Qa.2.2.2.2.1,Qa.2.2.2.2.2.1,Qa.2.2.2.2.2.2.1,()))) (K (Lay_.mk (B8 []) (B8 []) (B8 []) (0:Int) (0:Int) []) false)) ((0:Int),B8 [],B8 [],B8 [],(0:Int),(0:Int),[],())
abbrev Be:Type:=List (Lnk)->ByteArray->ByteArray->(Int->Prop)->Prop
def q95(Qz:Ws):Be:=fun l a b K=>Lp2 (fun Qa Jm j8k=>Qz Qa b fun Qk=>Cnd (Qk=true) (K Jm) (Sml ([]++Qa).length/\Lp3 (fun Qh Ut w67 y5a=>Fits l->Cnd (Ut<(↑l.length:Int)) (Jn2 (fun Qg Up=>At l Ut fun y5=>Qz Up y5.2 fun Qp=>Cnd (Qp=true) (At l Ut fun y8=>Qz Qg y8.1 fun Zj=>Cnd (Zj=true) (InI (Ut+1)/\y5a Qg (Ut+1) Up) (At l Ut fun y11=>Sml (Qg++[y11.1]).length/\InI (Ut+1)/\y5a (Qg++[y11.1]) (Ut+1) Up)) (InI (Ut+1)/\y5a Qg (Ut+1) Up)) fun w31=>At l Ut fun y5=>Qz w67 y5.1 fun Qp=>Cnd (Qp=true) (At l Ut fun y8=>Qz Qh y8.2 fun Zj=>Cnd (Zj=true) (w31 Qh w67) (At l Ut fun y11=>Sml (Qh++[y11.2]).length/\w31 (Qh++[y11.2]) w67)) (w31 Qh w67)) (Fits Qh->Fits w67->Cnd ((↑Qh.length:Int)=(↑w67.length:Int)) (K (-1:Int)) (InI (Jm+1)/\j8k Qh (Jm+1)))) ([]++Qa) (0:Int) Qa)) [a] (0:Int)
def q3q:Be:=q95 Hk
abbrev z0w:Type:=List (Lnk)->ByteArray->ByteArray->(List (Lnk)->Bool->Prop)->Prop
def j15(Bn:Be):z0w:=fun l a b K=>Bn l a b fun Qa=>Cnd (Qa<0) (K [] false) (Lp3 (fun Qk Hq j3g y0m=>Cnd ((0:Int)<Hq) (Lp3 (fun Qh Ut w67 y5a=>Fits l->CAt l w67 (fun y4=>At l w67 fun y6=>Jn2 (fun Re y0r=>Cnd (y0r=true) (Bn l Re b fun Qo=>InI (Hq - 1)/\Cnd (Qo=Hq - 1) (At l w67 fun y10=>Sml (Ut++[y10]).length/\InI (Hq - 1)/\y0m Re (Hq - 1) (Ut++[y10])) (InI (w67+1)/\y5a Qh Ut (w67+1))) (InI (w67+1)/\y5a Qh Ut (w67+1))) fun y7c=>Cnd (y6.1=Qh) (y7c y4.2 (decide (y6.1=Qh))) (At l w67 fun y9=>At l w67 fun y11=>y7c y9.1 (decide (y11.2=Qh)))) (InI (Hq - 1)/\y0m Qh (Hq - 1) Ut)) Qk j3g (0:Int)) (K j3g true)) a Qa [])
def z59:z0w:=j15 q3q
abbrev z6a:Type:=List (List Int)->(List (Int)->Prop)->Prop
def z6b:z6a:=fun fields K=>Lp2 (fun Qa Jm j8k=>Fits fields->CAt fields Jm (fun y2=>Fits y2->Lp2 (fun Qr q20 v3k=>Cnd ((0:Int)<=q20) ((0:Int)<=Go.IntKind.u64.wrap q20/\Sml (Qr++[Go.IntKind.u8.wrap ((Go.IntKind.u64.wrap (↑y2.length:Int)).fdiv ((2:Int) ^ Min.min (Go.IntKind.u64.wrap q20).toNat (64:Nat)))]).length/\InI (q20 - 8)/\v3k (Qr++[Go.IntKind.u8.wrap ((Go.IntKind.u64.wrap (↑y2.length:Int)).fdiv ((2:Int) ^ Min.min (Go.IntKind.u64.wrap q20).toNat (64:Nat)))]) (q20 - 8)) (At fields Jm fun y6=>Sml (Qr++y6).length/\InI (Jm+1)/\j8k (Qr++y6) (Jm+1))) Qa (56:Int)) (K Qa)) [] (0:Int)
abbrev z14:Type:=Int->Int->(Int->Prop)->Prop
def z15:z14:=fun x n K=>(0:Int)<=n/\(0:Int)<=Go.IntKind.u64.wrap ((64:Int) - n)/\K (Go.IntKind.u64.wrap (↑(BitVec.ofInt (64:Nat) (Go.IntKind.u64.wrap (x*2 ^ Min.min n.toNat (64:Nat)))|||BitVec.ofInt (64:Nat) (x.fdiv ((2:Int) ^ Min.min (Go.IntKind.u64.wrap ((64:Int) - n)).toNat (64:Nat)))).toNat:Int))
abbrev Gy:Type:=Sip->Int->(Sip->Prop)->Prop
def q41(Gm:z14):Gy:=fun v n K=>Lp5 (fun Qa Jm z4b z7x j8p y48=>Cnd (Qa<n) (Gm z4b (13:Int) fun Qk=>Gm (Go.IntKind.u64.wrap (Jm+z4b)) (32:Int) fun Qh=>Gm j8p (16:Int) fun Qd=>Gm (Go.IntKind.u64.wrap (↑(BitVec.ofInt (64:Nat) Qd ^^^ BitVec.ofInt (64:Nat) (Go.IntKind.u64.wrap (z7x+j8p))).toNat:Int)) (21:Int) fun Qg=>Gm (Go.IntKind.u64.wrap (↑(BitVec.ofInt (64:Nat) Qk ^^^ BitVec.ofInt (64:Nat) (Go.IntKind.u64.wrap (Jm+z4b))).toNat:Int)) (17:Int) fun Qr=>Gm (Go.IntKind.u64.wrap (Go.IntKind.u64.wrap (z7x+j8p)+Go.IntKind.u64.wrap (↑(BitVec.ofInt (64:Nat) Qk ^^^ BitVec.ofInt (64:Nat) (Go.IntKind.u64.wrap (Jm+z4b))).toNat:Int))) (32:Int) fun Zc=>InI (Qa+1)/\y48 (Qa+1) (Go.IntKind.u64.wrap (Qh+Go.IntKind.u64.wrap (↑(BitVec.ofInt (64:Nat) Qd ^^^ BitVec.ofInt (64:Nat) (Go.IntKind.u64.wrap (z7x+j8p))).toNat:Int))) (Go.IntKind.u64.wrap (↑(BitVec.ofInt (64:Nat) Qr ^^^ BitVec.ofInt (64:Nat) (Go.IntKind.u64.wrap (Go.IntKind.u64.wrap (z7x+j8p)+Go.IntKind.u64.wrap (↑(BitVec.ofInt (64:Nat) Qk ^^^ BitVec.ofInt (64:Nat) (Go.IntKind.u64.wrap (Jm+z4b))).toNat:Int)))).toNat:Int)) Zc (Go.IntKind.u64.wrap (↑(BitVec.ofInt (64:Nat) Qg ^^^ BitVec.ofInt (64:Nat) (Go.IntKind.u64.wrap (Qh+Go.IntKind.u64.wrap (↑(BitVec.ofInt (64:Nat) Qd ^^^ BitVec.ofInt (64:Nat) (Go.IntKind.u64.wrap (z7x+j8p))).toNat:Int)))).toNat:Int))) (K (Sip.mk Jm z4b z7x j8p))) (0:Int) v.1 v.2 v.3 v.4
def Jc:Gy:=q41 z15
abbrev z9w:Type:=Int->Int->List (Int)->(Int->Prop)->Prop
def w09(Vn:Gy):z9w:=fun k0 k1 b K=>Lp5 (fun Qa Jm z4b z7x j8p y48=>Fits b->(8:Int)≠(0:Int)/\InI ((↑b.length:Int).tdiv (8:Int))/\Cnd (Qa<=(↑b.length:Int).tdiv (8:Int)) (Lp2 (fun Qh Ut w3z=>Cnd (Ut<8) (InI ((8:Int)*Qa)/\InI ((8:Int)*Qa+Ut)/\(Fits b->Cnd ((8:Int)*Qa+Ut<(↑b.length:Int)) (InI ((8:Int)*Qa)/\InI ((8:Int)*Qa+Ut)/\((0:Int)<=(8:Int)*Qa+Ut/\(8:Int)*Qa+Ut<(↑b.length:Int))/\ ∀y4,b[((8:Int)*Qa+Ut).toNat]? =some y4->InI ((8:Int)*Ut)/\(0:Int)<=Go.IntKind.u64.wrap ((8:Int)*Ut)/\InI (Ut+1)/\w3z (Go.IntKind.u64.wrap (↑(BitVec.ofInt (64:Nat) Qh|||BitVec.ofInt (64:Nat) (Go.IntKind.u64.wrap (Go.IntKind.u64.wrap y4*2 ^ Min.min (Go.IntKind.u64.wrap ((8:Int)*Ut)).toNat (64:Nat)))).toNat:Int)) (Ut+1)) (Jn1 (fun Qg=>Vn (Sip.mk Jm z4b z7x (Go.IntKind.u64.wrap (↑(BitVec.ofInt (64:Nat) j8p ^^^ BitVec.ofInt (64:Nat) Qg).toNat:Int))) (2:Int) fun Qr=>InI (Qa+1)/\y48 (Qa+1) (Go.IntKind.u64.wrap (↑(BitVec.ofInt (64:Nat) Qr.1 ^^^ BitVec.ofInt (64:Nat) Qg).toNat:Int)) Qr.2 Qr.3 Qr.4) fun w31=>Fits b->(8:Int)≠(0:Int)/\InI ((↑b.length:Int).tdiv (8:Int))/\Cnd (Qa=(↑b.length:Int).tdiv (8:Int)) (Fits b->(256:Int)≠(0:Int)/\(0:Int)<=(56:Int)/\w31 (Go.IntKind.u64.wrap (↑(BitVec.ofInt (64:Nat) Qh|||BitVec.ofInt (64:Nat) (Go.IntKind.u64.wrap (Go.IntKind.u64.wrap ((↑b.length:Int).tmod (256:Int))*(2:Int) ^ Min.min (Int.toNat (56:Int)) (64:Nat)))).toNat:Int))) (w31 Qh)))) (Jn1 (fun Qd=>Vn (Sip.mk Jm z4b z7x (Go.IntKind.u64.wrap (↑(BitVec.ofInt (64:Nat) j8p ^^^ BitVec.ofInt (64:Nat) Qd).toNat:Int))) (2:Int) fun Qg=>InI (Qa+1)/\y48 (Qa+1) (Go.IntKind.u64.wrap (↑(BitVec.ofInt (64:Nat) Qg.1 ^^^ BitVec.ofInt (64:Nat) Qd).toNat:Int)) Qg.2 Qg.3 Qg.4) fun y69=>Fits b->(8:Int)≠(0:Int)/\InI ((↑b.length:Int).tdiv (8:Int))/\Cnd (Qa=(↑b.length:Int).tdiv (8:Int)) (Fits b->(256:Int)≠(0:Int)/\(0:Int)<=(56:Int)/\y69 (Go.IntKind.u64.wrap (↑(BitVec.ofInt (64:Nat) Qh|||BitVec.ofInt (64:Nat) (Go.IntKind.u64.wrap (Go.IntKind.u64.wrap ((↑b.length:Int).tmod (256:Int))*(2:Int) ^ Min.min (Int.toNat (56:Int)) (64:Nat)))).toNat:Int))) (y69 Qh))) (0:Int) (0:Int)) (Vn (Sip.mk Jm z4b (Go.IntKind.u64.wrap (↑(BitVec.ofInt (64:Nat) z7x ^^^ BitVec.ofInt (64:Nat) (255:Int)).toNat:Int)) j8p) (4:Int) fun Qh=>K (Go.IntKind.u64.wrap (↑(BitVec.ofInt (64:Nat) (Go.IntKind.u64.wrap (↑(BitVec.ofInt (64:Nat) (Go.IntKind.u64.wrap (↑(BitVec.ofInt (64:Nat) Qh.1 ^^^ BitVec.ofInt (64:Nat) Qh.2).toNat:Int)) ^^^ BitVec.ofInt (64:Nat) Qh.3).toNat:Int)) ^^^ BitVec.ofInt (64:Nat) Qh.4).toNat:Int)))) (0:Int) (Go.IntKind.u64.wrap (↑(BitVec.ofInt (64:Nat) k0 ^^^ BitVec.ofInt (64:Nat) (8317987319222330741:Int)).toNat:Int)) (Go.IntKind.u64.wrap (↑(BitVec.ofInt (64:Nat) k1 ^^^ BitVec.ofInt (64:Nat) (7237128888997146477:Int)).toNat:Int)) (Go.IntKind.u64.wrap (↑(BitVec.ofInt (64:Nat) k0 ^^^ BitVec.ofInt (64:Nat) (7816392313619706465:Int)).toNat:Int)) (Go.IntKind.u64.wrap (↑(BitVec.ofInt (64:Nat) k1 ^^^ BitVec.ofInt (64:Nat) (8387220255154660723:Int)).toNat:Int))
def j5b:z9w:=w09 Jc
abbrev z4o:Type:=Int->List (List Int)->(Int->Prop)->Prop
def j6h(z6y:z6a)(j5l:z9w):z4o:=fun domain fields K=>z6y fields fun Qa=>j5l domain (0:Int) Qa fun Qk=>K Qk
def z9x:z4o:=j6h z6b j5b
abbrev U9:Type:=ByteArray->ByteArray->(Int->Prop)->Prop
def w1a(j1d:z4o):U9:=fun salt key K=>Sml salt.size/\Sml key.size/\j1d (1:Int) [List.map (fun b=>(↑b.toNat:Int)) (salt,key,()).1.data.toList,List.map (fun b=>(↑b.toNat:Int)) (salt,key,()).2.1.data.toList] fun Qa=>(10000:Int)≠(0:Int)/\InI (Qa.tmod (10000:Int))/\K (Qa.tmod (10000:Int))
def q1u:U9:=w1a z9x
abbrev q1v:Type:=Reg->Envt->ByteArray->ByteArray->Int->(Rcd->Int->Prop)->Prop
def z16(Gk:q0j)(q6r:z13)(V8:q29)(Gl:q28)(z6z:z0w)(Zi:U9):q1v:=fun r v id name time K=>Gk r fun Qa=>Cnd (Qa=true) (q6r r id name time fun Qk Hq=>V8 (Envt.mk (Sett.mk v.1.1 v.1.2 v.1.3) v.2 v.3 v.4 v.5 v.6) name fun Qh Ut=>Cnd (Hq=true) (Cnd (Ut=true) (Gl r.2 time fun Qd=>z6z Qd id Qk.1 fun Qg _=>Zi Qh.3 Qk.1 fun Qr=>K (Rcd.mk id time Qk Qr Qg) (0:Int)) (K (Rcd.mk (B8 []) (0:Int) (Slt.mk (B8 []) (B8 []) (B8 []) (0:Int) (0:Int) (0:Int) (0:Int)) (0:Int) []) (11:Int))) (K (Rcd.mk (B8 []) (0:Int) (Slt.mk (B8 []) (B8 []) (B8 []) (0:Int) (0:Int) (0:Int) (0:Int)) (0:Int) []) (11:Int))) (K (Rcd.mk (B8 []) (0:Int) (Slt.mk (B8 []) (B8 []) (B8 []) (0:Int) (0:Int) (0:Int) (0:Int)) (0:Int) []) (25:Int))
def q52:q1v:=z16 q7p z9v q7r q7q z59 q1u
abbrev q1w:Type:=List (Lnk)->List (Lnk)->(Bool->Prop)->Prop
def q1x:q1w:=fun a b K=>Fits a->Fits b->Cnd ((↑a.length:Int)=(↑b.length:Int)) (Lp1 (fun Qh z3i=>Fits a->CAt a Qh (fun y4=>At b Qh fun y6=>Cnd (y4.1=y6.1/\y4.2=y6.2/\y4.3=y6.3) (InI (Qh+1)/\z3i (Qh+1)) (K false)) (K true)) (0:Int)) (K false)
abbrev z0x:Type:=Rcd->Rcd->(Bool->Prop)->Prop
def j16(q2v:q1w):z0x:=fun a b K=>Cnd (a.1=b.1) (Cnd (a.2=b.2) (Cnd (a.3.1=b.3.1/\a.3.2=b.3.2/\a.3.3=b.3.3/\a.3.4=b.3.4/\a.3.5=b.3.5/\a.3.6=b.3.6/\a.3.7=b.3.7) (Cnd (a.4=b.4) (q2v a.5 b.5 fun Qa=>K Qa) (K false)) (K false)) (K false)) (K false)
def z6c:z0x:=j16 q1x
abbrev z17:Type:=List (Lnk)->ByteArray->ByteArray->Int->(Bool->Prop)->Prop
def z18:z17:=fun l lo hi time K=>Lp2 (fun Qa Jm j8k=>Fits l->CAt l Jm (fun y2=>Cnd (time<y2.3) (K false) (At l Jm fun y4=>Cnd (Qa=y4.1) (At l Jm fun y6=>InI (Jm+1)/\j8k y6.2 (Jm+1)) (At l Jm fun y6=>Cnd (Qa=y6.2) (At l Jm fun y8=>InI (Jm+1)/\j8k y8.1 (Jm+1)) (K false)))) (K (decide (Qa=hi)))) lo (0:Int)
abbrev Bu:Type:=Envt->ByteArray->ByteArray->(Exper->Bool->Prop)->Prop
def Bv:Bu:=fun v key layer K=>LpH (fun (Qa:Int×ByteArray×ByteArray×ByteArray×ByteArray×Int×List Spn×List Rng×Int×ByteArray×ByteArray×List Val×List Ex×Unit) (Hb:Int×ByteArray×ByteArray×ByteArray×ByteArray×Int×List Spn×List Rng×Int×ByteArray×ByteArray×List Val×List Ex×Unit->Prop)=>Fits v.6->CAt v.6 Qa.1 (fun y2=>Cnd (y2.1=key) (At v.6 Qa.1 fun y4=>Cnd (y4.2=layer) (At v.6 Qa.1 fun y6=>K (Exper.mk y6.1 y6.2 y6.3 y6.4 y6.5 y6.6 y6.7 (Ex.mk y6.8.1 y6.8.2 y6.8.3 y6.8.4 y6.8.5)) true) (InI (Qa.1+1)/\Hb (Qa.1+1,Qa.2.1,Qa.2.2.1,Qa.2.2.2.1,Qa.2.2.2.2.1,Qa.2.2.2.2.2.1,Qa.2.2.2.2.2.2.1,Qa.2.2.2.2.2.2.2.1,Qa.2.2.2.2.2.2.2.2.1,Qa.2.2.2.2.2.2.2.2.2.1,Qa.2.2.2.2.2.2.2.2.2.2.1,Qa.2.2.2.2.2.2.2.2.2.2.2.1,Qa.2.2.2.2.2.2.2.2.2.2.2.2.1,()))) (InI (Qa.1+1)/\Hb (Qa.1+1,Qa.2.1,Qa.2.2.1,Qa.2.2.2.1,Qa.2.2.2.2.1,Qa.2.2.2.2.2.1,Qa.2.2.2.2.2.2.1,Qa.2.2.2.2.2.2.2.1,Qa.2.2.2.2.2.2.2.2.1,Qa.2.2.2.2.2.2.2.2.2.1,Qa.2.2.2.2.2.2.2.2.2.2.1,Qa.2.2.2.2.2.2.2.2.2.2.2.1,Qa.2.2.2.2.2.2.2.2.2.2.2.2.1,()))) (K (Exper.mk (B8 []) (B8 []) (B8 []) (B8 []) (0:Int) [] [] (Ex.mk (0:Int) (B8 []) (B8 []) [] [])) false)) ((0:Int),B8 [],B8 [],B8 [],B8 [],(0:Int),[],[],(0:Int),B8 [],B8 [],[],[],())
abbrev q0u:Type:=List (Rng)->Int->(Int->Prop)->Prop
def q61:q0u:=fun l bucket K=>Lp1 (fun Qa Hb=>Fits l->CAt l Qa (fun y2=>Cnd (y2.1<=bucket) (At l Qa fun y4=>Cnd (bucket<y4.2) (At l Qa fun y6=>K y6.3) (InI (Qa+1)/\Hb (Qa+1))) (InI (Qa+1)/\Hb (Qa+1))) (K (0:Int))) (0:Int)
abbrev q7s:Type:=Rcd->Envt->(Int->Prop)->Prop
def z79(Vg:q50)(q8l:z17)(V8:q29)(G5:Bu)(Zi:U9)(Jz:q0u):q7s:=fun x v K=>Vg x.1 fun Qa=>Cnd (Qa=true) (Vg x.3.1 fun Qk=>Cnd (Qk=true) (Cnd (x.2<x.3.5) (K (26:Int)) (Cnd (x.3.7=0) (q8l x.5 x.1 x.3.1 x.2 fun Qh=>Cnd (Qh=true) (V8 (Envt.mk (Sett.mk v.1.1 v.1.2 v.1.3) v.2 v.3 v.4 v.5 v.6) x.3.2 fun Qd Uq=>G5 (Envt.mk (Sett.mk v.1.1 v.1.2 v.1.3) v.2 v.3 v.4 v.5 v.6) x.3.3 x.3.2 fun Qg Up=>Cnd (Uq=true) (Cnd (Up=true) (Zi Qd.3 x.3.1 fun Qr=>Cnd (x.4=Qr) (Lp2 (fun Zc q4m w9d=>Fits Qg.6->Cnd (q4m<(↑Qg.6.length:Int)) (Cnd (Zc=true) (InI (q4m+1)/\w9d true (q4m+1)) (At Qg.6 q4m fun y8=>Cnd (y8.1<=x.4) (At Qg.6 q4m fun y10=>InI (q4m+1)/\w9d (decide (x.4<y10.2)) (q4m+1)) (InI (q4m+1)/\w9d false (q4m+1)))) (Cnd (Zc=true) (Zi Qg.4 x.3.1 fun Re=>Jz Qg.7 Re fun Qo=>Cnd (x.3.4=Qo) (K (0:Int)) (K (23:Int))) (K (25:Int)))) false (0:Int)) (K (3:Int))) (K (11:Int))) (K (11:Int))) (K (15:Int))) (Cnd (x.3.6<=x.2) (K (26:Int)) (q8l x.5 x.1 x.3.1 x.2 fun Qh=>Cnd (Qh=true) (V8 (Envt.mk (Sett.mk v.1.1 v.1.2 v.1.3) v.2 v.3 v.4 v.5 v.6) x.3.2 fun Qd Uq=>G5 (Envt.mk (Sett.mk v.1.1 v.1.2 v.1.3) v.2 v.3 v.4 v.5 v.6) x.3.3 x.3.2 fun Qg Up=>Cnd (Uq=true) (Cnd (Up=true) (Zi Qd.3 x.3.1 fun Qr=>Cnd (x.4=Qr) (Lp2 (fun Zc q4m w9d=>Fits Qg.6->Cnd (q4m<(↑Qg.6.length:Int)) (Cnd (Zc=true) (InI (q4m+1)/\w9d true (q4m+1)) (At Qg.6 q4m fun y8=>Cnd (y8.1<=x.4) (At Qg.6 q4m fun y10=>InI (q4m+1)/\w9d (decide (x.4<y10.2)) (q4m+1)) (InI (q4m+1)/\w9d false (q4m+1)))) (Cnd (Zc=true) (Zi Qg.4 x.3.1 fun Re=>Jz Qg.7 Re fun Qo=>Cnd (x.3.4=Qo) (K (0:Int)) (K (23:Int))) (K (25:Int)))) false (0:Int)) (K (3:Int))) (K (11:Int))) (K (11:Int))) (K (15:Int)))))) (K (6:Int))) (K (6:Int))
def z19:q7s:=z79 z57 z18 q7r Bv q1u q61
abbrev j5c:Type:=(List (ByteArray)->Prop)->Prop
def v0e:j5c:=fun K=>K [B8 [97,110,110],B8 [98,111,98],B8 [99,97,116],B8 [100,97,110],B8 [101,118,101],B8 [102,97,121]]
abbrev z8a:Type:=Int->(ByteArray->Prop)->Prop
def w7z(j1e:j5c):z8a:=fun n K=>j1e fun Qa=>j1e fun Qk=>Fits Qk->(↑Qk.length:Int)≠(0:Int)/\((0:Int)<=n.tmod (↑Qk.length:Int)/\n.tmod (↑Qk.length:Int)<(↑Qa.length:Int))/\ ∀y3,Qa[(n.tmod (↑Qk.length:Int)).toNat]? =some y3->K y3
def j6i:z8a:=w7z v0e
abbrev Bw:Type:=(List (ByteArray)->Prop)->Prop
def z3v:Bw:=fun K=>K [B8 [98,108,117,101],B8 [103,114,101,101,110],B8 [102,97,115,116],B8 [115,108,111,119]]
abbrev q1y:Type:=Reg->ByteArray->Int->(Reg->Int->Int->Prop)->Prop
def z2a(Zq:Wa)(Qy:J5)(Qe:Qu)(Qf:Qv):q1y:=fun r experiment now K=>Zq r now fun Qa=>Cnd (Qa=0) (Qy experiment fun Qk=>Cnd (Qk=true) (Qe r.2 fun Qh=>Qf r.3 fun Qd=>Fits Qd->Lp3 (fun Qr q20 v3j y0s=>Cnd (q20<(↑Qd.length:Int)) (At v3j q20 fun y6=>Cnd (y6.7=0) (∀y8,v3j[q20.toNat]? =some y8->Cnd (y8.3=experiment) (∀y10,v3j[q20.toNat]? =some y10-> ∀y12,(v3j.set q20.toNat (Slt.mk y10.1 y10.2 y10.3 y10.4 y10.5 now y10.7))[q20.toNat]? =some y12->InI (Qr+1)/\InI (q20+1)/\y0s (Qr+1) (q20+1) ((v3j.set q20.toNat (Slt.mk y10.1 y10.2 y10.3 y10.4 y10.5 now y10.7)).set q20.toNat (Slt.mk y12.1 y12.2 y12.3 y12.4 y12.5 y12.6 (1:Int)))) (InI (q20+1)/\y0s Qr (q20+1) v3j)) (InI (q20+1)/\y0s Qr (q20+1) v3j)) (K (Reg.mk now Qh v3j) Qr (0:Int))) (0:Int) (0:Int) Qd) (K (Reg.mk (0:Int) [] []) (0:Int) (6:Int))) (K (Reg.mk (0:Int) [] []) (0:Int) Qa)
def q53:q1y:=z2a G8 Rm Q5 Q6
abbrev H3:Type:=List (Lnk)->ByteArray->ByteArray->(Bool->Prop)->Prop
def q7t(Ww:U7)(Qn:Zr):H3:=fun l a b K=>Ww l fun q00=>Qn q00 a fun Qk q6h=>Qn q6h b fun Qh _=>K (decide (Qk=Qh))
def q1z:H3:=q7t q1o Jk
abbrev Bf:Type:=Reg->ByteArray->ByteArray->Int->(Reg->List (Slt)->Int->Prop)->Prop
def q96(Zq:Wa)(Qy:J5)(Qe:Qu)(Qf:Qv)(q2w:H3)(Qm:Zp):Bf:=fun r a b now K=>Zq r now fun Qa=>Cnd (Qa=0) (Qy a fun Qk=>Cnd (Qk=true) (Qy b fun Qh=>Cnd (Qh=true) (Cnd (a=b) (K (Reg.mk (0:Int) [] []) [] (15:Int)) (Qe r.2 fun Qd=>Qf r.3 fun Qg=>q2w r.2 a b fun Qr=>Cnd (Qr=true) (K (Reg.mk now Qd Qg) [] (0:Int)) (Fits r.2->Cnd ((64:Int)<=(↑r.2.length:Int)) (K (Reg.mk (0:Int) [] []) [] (19:Int)) (Sml (Qd++[Lnk.mk a b now]).length/\Qm (Qd++[Lnk.mk a b now]) a fun Qp=>Fits Qg->LpH (fun (Qo:List Slt×Int×(ByteArray->Option Bool)×List Lnk×List Lnk×List Slt×Unit) (v79:List Slt×Int×(ByteArray->Option Bool)×List Lnk×List Lnk×List Slt×Unit->Prop)=>Cnd (Qo.2.1<(↑Qg.length:Int)) (At Qo.2.2.2.2.2.1 Qo.2.1 fun y10=>Cnd (y10.7=0) (∀y12,Qo.2.2.2.2.2.1[Qo.2.1.toNat]? =some y12->Qm Qo.2.2.2.1 y12.1 fun Jn=>Cnd (Jn=Qp) (Jn4 (fun w9e y8t y7d y8u=> ∀y16,y7d[Qo.2.1.toNat]? =some y16->InI (Qo.2.1+1)/\v79 (w9e,Qo.2.1+1,put Qo.2.2.1 y16.2 true,y8t,y8u,y7d,())) fun (y7e:List Slt->List Lnk->List Slt->List Lnk->Prop)=> ∀y16,Qo.2.2.2.2.2.1[Qo.2.1.toNat]? =some y16->Cnd ((Qo.2.2.1 y16.2).getD false=true) (∀y18,Qo.2.2.2.2.2.1[Qo.2.1.toNat]? =some y18-> ∀y20,(Qo.2.2.2.2.2.1.set Qo.2.1.toNat (Slt.mk y18.1 y18.2 y18.3 y18.4 y18.5 now y18.7))[Qo.2.1.toNat]? =some y20-> ∀y22,((Qo.2.2.2.2.2.1.set Qo.2.1.toNat (Slt.mk y18.1 y18.2 y18.3 y18.4 y18.5 now y18.7)).set Qo.2.1.toNat (Slt.mk y20.1 y20.2 y20.3 y20.4 y20.5 y20.6 (2:Int)))[Qo.2.1.toNat]? =some y22->Sml (Qo.1++[y22]).length/\y7e (Qo.1++[y22]) Qo.2.2.2.1 ((Qo.2.2.2.2.2.1.set Qo.2.1.toNat (Slt.mk y18.1 y18.2 y18.3 y18.4 y18.5 now y18.7)).set Qo.2.1.toNat (Slt.mk y20.1 y20.2 y20.3 y20.4 y20.5 y20.6 (2:Int))) Qo.2.2.2.2.1) (y7e Qo.1 Qo.2.2.2.1 Qo.2.2.2.2.2.1 Qo.2.2.2.2.1)) (InI (Qo.2.1+1)/\v79 (Qo.1,Qo.2.1+1,Qo.2.2.1,Qo.2.2.2.1,Qo.2.2.2.2.1,Qo.2.2.2.2.2.1,()))) (InI (Qo.2.1+1)/\v79 (Qo.1,Qo.2.1+1,Qo.2.2.1,Qo.2.2.2.1,Qo.2.2.2.2.1,Qo.2.2.2.2.2.1,()))) (K (Reg.mk now Qo.2.2.2.1 Qo.2.2.2.2.2.1) Qo.1 (0:Int))) ([],(0:Int),fun _=>none,Qd++[Lnk.mk a b now],[Lnk.mk a b now],Qg,()))))) (K (Reg.mk (0:Int) [] []) [] (6:Int))) (K (Reg.mk (0:Int) [] []) [] (6:Int))) (K (Reg.mk (0:Int) [] []) [] Qa)
def q3r:Bf:=q96 G8 Rm Q5 Q6 q1z We
abbrev q4c:Type:=Envt->List (Mov)->(Reg->Prop)->Prop
def z4p(q8m:z8a)(Ve:q38)(Za:Hr)(Ja:W0)(Jw:Vb)(B9:Bw)(q6s:q1y)(q31:Bf):q4c:=fun v l K=>Lp4 (fun Qa Jm z4b z7x y5b=>Fits l->CAt l Qa (fun y2=>InI y2.5/\(4:Int)≠(0:Int)/\InI (Jm+y2.5.tmod (4:Int))/\InI y2.2/\q8m y2.2 fun Qg=>Jn4 (fun Qr q20 v3j y8r=>Cnd (Qr=0) (InI (Qa+1)/\y5b (Qa+1) q20 v3j y8r) (InI (Qa+1)/\y5b (Qa+1) Jm z4b z7x)) fun y8v=>(8:Int)≠(0:Int)/\Jn1 (fun Zc=>Cnd (Zc=true) ((2:Int)≠(0:Int)/\Ve Qg fun Qp=>Za fun Re=>((0:Int)<=y2.4.tmod (2:Int)/\y2.4.tmod (2:Int)<(↑Re.length:Int))/\ ∀y9,Re[(y2.4.tmod (2:Int)).toNat]? =some y9->Ja (Envt.mk (Sett.mk v.1.1 v.1.2 v.1.3) v.2 v.3 v.4 v.5 v.6) (Subj.mk Qp.1) [] y9 fun q4o _=>InI y2.3/\(3:Int)≠(0:Int)/\Jw (Reg.mk Jm z4b z7x) Qg q4o (y2.3.tmod (3:Int)) (Jm+y2.5.tmod (4:Int)) fun Jd _ y0t=>y8v y0t Jd.1 Jd.2 Jd.3) (Cnd (y2.1.tmod (8:Int)=(7:Int)) ((4:Int)≠(0:Int)/\B9 fun Qp=>((0:Int)<=y2.3.tmod (4:Int)/\y2.3.tmod (4:Int)<(↑Qp.length:Int))/\ ∀y8,Qp[(y2.3.tmod (4:Int)).toNat]? =some y8->q6s (Reg.mk Jm z4b z7x) y8 (Jm+y2.5.tmod (4:Int)) fun Zj _ y0u=>y8v y0u Zj.1 Zj.2 Zj.3) (InI y2.3/\q8m y2.3 fun Qp=>q31 (Reg.mk Jm z4b z7x) Qg Qp (Jm+y2.5.tmod (4:Int)) fun Re _ y9i=>y8v y9i Re.1 Re.2 Re.3))) fun j3h=>Cnd (y2.1.tmod (8:Int)=(0:Int)) (j3h (decide (y2.1.tmod (8:Int)=(0:Int)))) (Cnd (y2.1.tmod (8:Int)=(1:Int)) (j3h (decide (y2.1.tmod (8:Int)=(1:Int)))) (Cnd (y2.1.tmod (8:Int)=(2:Int)) (j3h (decide (y2.1.tmod (8:Int)=(2:Int)))) (j3h (decide (y2.1.tmod (8:Int)=(3:Int))))))) (K (Reg.mk Jm z4b z7x))) (0:Int) (0:Int) [] []
def q8x:q4c:=z4p j6i q7d q22 W2 H0 z3v q53 q3r
abbrev H4:Type:=Reg->ByteArray->Int->(List (Frc)->Prop)->Prop
def q7u(Q3:Z9)(Ql:Q7)(Qs:Zn)(Gj:q0i):H4:=fun r id time K=>Q3 r fun Qa=>Cnd (Qa=true) (Fits r.3->Lp2 (fun Qh Ut w3z=>CAt r.3 Ut (fun y3=>Sml (Qh++[y3.2]).length/\InI (Ut+1)/\w3z (Qh++[y3.2]) (Ut+1)) (Ql Qh fun Qd=>Qs Qd fun Qg=>Fits Qg->Lp2 (fun Zc q4m w9d=>CAt Qg q4m (fun y7=>Gj r id y7 time fun Qo y45=>Cnd (y45=true) (Sml (Zc++[Frc.mk y7 Qo.3 Qo.4]).length/\InI (q4m+1)/\w9d (Zc++[Frc.mk y7 Qo.3 Qo.4]) (q4m+1)) (InI (q4m+1)/\w9d Zc (q4m+1))) (K Zc)) [] (0:Int))) [] (0:Int)) (K [])
def q13:H4:=q7u V6 Zh Zo q7l
abbrev Gz:Type:=Envt->Subj->List (Frc)->(ByteArray->ByteArray->Int->List (Decl)->List (Seg)->List (Flg)->List (Lay_)->List (Exper)->List (Ctxt)->List (Frc)->List (ByteArray)->(ByteArray->Option (Dcs))->(ByteArray->Option (Bool))->Prop)->Prop
def q42(Q9:J4):Gz:=fun v s forced K=>(Q9 v.3 (Subj.mk s.1) fun Qa=>(K v.1.1 v.1.2 v.1.3 v.2 v.3 v.4 v.5 v.6 s.1 forced Qa (fun _=>none) fun _=>none)/\K v.1.1 v.1.2 v.1.3 v.2 v.3 v.4 v.5 v.6 s.1 forced Qa (fun _=>none) fun _=>none)/\((Q9 v.3 (Subj.mk s.1) fun Qa=>K v.1.1 v.1.2 v.1.3 v.2 v.3 v.4 v.5 v.6 s.1 forced Qa (fun _=>none) fun _=>none)/\Q9 v.3 (Subj.mk s.1) fun Qa=>K v.1.1 v.1.2 v.1.3 v.2 v.3 v.4 v.5 v.6 s.1 forced Qa (fun _=>none) fun _=>none)/\(Q9 v.3 (Subj.mk s.1) fun Qa=>K v.1.1 v.1.2 v.1.3 v.2 v.3 v.4 v.5 v.6 s.1 forced Qa (fun _=>none) fun _=>none)/\Q9 v.3 (Subj.mk s.1) fun Qa=>K v.1.1 v.1.2 v.1.3 v.2 v.3 v.4 v.5 v.6 s.1 forced Qa (fun _=>none) fun _=>none
def Bx:Gz:=q42 W5
abbrev V0:Type:=ByteArray->ByteArray->Int->List (Decl)->List (Seg)->List (Flg)->List (Lay_)->List (Exper)->List (Ctxt)->List (Frc)->List (ByteArray)->(ByteArray->Option (Dcs))->(ByteArray->Option (Bool))->ByteArray->(Flg->Bool->(ByteArray->Option (Dcs))->(ByteArray->Option (Bool))->Prop)->Prop
def Jr:V0:=fun _ _ _ _ _ flags _ _ _ _ _ done opn key K=>Fits flags->Lp1 (fun Qk q6h=>CAt flags Qk (fun y2=>Cnd (y2.1=key) (Cnd (Qk<0) (K (Flg.mk (B8 []) (0:Int) [] false (0:Int) [] [] [] (Srv.mk (0:Int) (B8 []) (B8 []) (B8 []) [])) false done opn) (At flags Qk fun y4=>K (Flg.mk y4.1 y4.2 y4.3 y4.4 y4.5 y4.6 y4.7 y4.8 (Srv.mk y4.9.1 y4.9.2 y4.9.3 y4.9.4 y4.9.5)) true done opn)) (InI (Qk+1)/\q6h (Qk+1))) (Cnd ((-1:Int)<(0:Int)) (K (Flg.mk (B8 []) (0:Int) [] false (0:Int) [] [] [] (Srv.mk (0:Int) (B8 []) (B8 []) (B8 []) [])) false done opn) (At flags (-1:Int) fun y2=>K (Flg.mk y2.1 y2.2 y2.3 y2.4 y2.5 y2.6 y2.7 y2.8 (Srv.mk y2.9.1 y2.9.2 y2.9.3 y2.9.4 y2.9.5)) true done opn))) (0:Int)
abbrev Rp:Type:=Flg->Subj->(Int->Prop)->Prop
def q3a(Qt:Zu):Rp:=fun f s K=>Fits f.7->Lp1 (fun Qk q6h=>CAt f.7 Qk (fun y2=>Qt (Subj.mk s.1) y2.1 fun Qg Up=>Cnd (Up=true) (Fits y2.3->Lp1 (fun Zc v77=>CAt y2.3 Zc (fun y7=>Cnd (Qg.2=y7) (Cnd ((0:Int)<=Zc) (InI (Qk+1)/\K (Qk+1)) (InI (Qk+1)/\q6h (Qk+1))) (InI (Zc+1)/\v77 (Zc+1))) (Cnd ((0:Int)<=(-1:Int)) (InI (Qk+1)/\K (Qk+1)) (InI (Qk+1)/\q6h (Qk+1)))) (0:Int)) (InI (Qk+1)/\q6h (Qk+1))) (K (0:Int))) (0:Int)
def W6:Rp:=q3a Wz
abbrev Ub:Type:=ByteArray->ByteArray->Int->List (Decl)->List (Seg)->List (Flg)->List (Lay_)->List (Exper)->List (Ctxt)->List (Frc)->List (ByteArray)->(ByteArray->Option (Dcs))->(ByteArray->Option (Bool))->Exper->(Int->(ByteArray->Option (Dcs))->(ByteArray->Option (Bool))->Prop)->Prop
def R3(Qt:Zu)(Qq:Ji):Ub:=fun _ _ _ _ _ _ layers _ ctxs _ _ done opn x K=>Fits layers->Lp1 (fun Qk q6h=>CAt layers Qk (fun y2=>Cnd (y2.1=x.2) (Qt (Subj.mk ctxs) y2.2 fun Qg Up=>Cnd (Up=true) (Qq x.4 Qg.2 fun Qr=>K Qr done opn) (K (-1:Int) done opn)) (InI (Qk+1)/\q6h (Qk+1))) (K (-1:Int) done opn)) (0:Int)
def Jy:Ub:=R3 Wz W7
abbrev q97:Type:=Int->(ByteArray->Prop)->Prop
def q98(i:Int)(K:ByteArray->Prop):Prop:=InI i/\K ⟨(Go.Lib.itoa i).toArray⟩
abbrev q14:Type:=Int->(ByteArray->Prop)->Prop
def z9y(q32:q97):q14:=fun n K=>q32 n fun Qa=>K Qa
def q54:q14:=z9y q98
abbrev q4d:Type:=Val->(ByteArray->Bool->Prop)->Prop
def z4q(q6t:q14):q4d:=fun v K=>Jn1 (fun Qa=>Cnd (Qa=true) (K v.3 true) (Cnd (v.1=2) (q6t v.2 fun Qk=>K Qk true) (Cnd (v.1=1) (Cnd (v.2=1) (K (B8 [116,114,117,101]) true) (K (B8 [102,97,108,115,101]) true)) (K (B8 []) false)))) fun q00=>Cnd (v.1=3) (q00 (decide (v.1=3))) (q00 (decide (v.1=4)))
def q8y:q4d:=z4q q54
abbrev G0:Type:=Subj->ByteArray->ByteArray->ByteArray->(Int->Bool->Prop)->Prop
def q43(Je:Wn)(q9m:q4d)(Qq:Ji):G0:=fun s kind by_ salt K=>Je (Subj.mk s.1) kind by_ fun Qa Jm=>Cnd (Jm=true) (q9m Qa fun Qk Hq=>Cnd (Hq=true) (Qq salt Qk fun Qh=>K Qh true) (K (0:Int) false)) (K (0:Int) false)
def By:G0:=q43 Gu q8y W7
abbrev G1:Type:=Subj->Srv->(Int->Int->Bool->Prop)->Prop
def q44(q0a:G0)(Zf:Vy):G1:=fun s v K=>Cnd (v.1=0) (q0a (Subj.mk s.1) v.2 v.3 v.4 fun Qa Jm=>Cnd (Jm=true) (Zf v.5 Qa fun Qk=>K Qk Qa true) (K (0:Int) (-1:Int) false)) (K v.1 (-1:Int) true)
def Bz:G1:=q44 By Rl
abbrev Ga:Type:=ByteArray->ByteArray->Int->List (Decl)->List (Seg)->List (Flg)->List (Lay_)->List (Exper)->List (Ctxt)->List (Frc)->List (ByteArray)->(ByteArray->Option (Dcs))->(ByteArray->Option (Bool))->Flg->Srv->Rsn->(Int->Rsn->(ByteArray->Option (Dcs))->(ByteArray->Option (Bool))->Prop)->Prop
def q0k(q0b:G1):Ga:=fun _ _ _ _ _ _ _ _ ctxs _ _ done opn f v reason K=>q0b (Subj.mk ctxs) v fun Qa Jm z4b=>Cnd (z4b=true) (K Qa (Rsn.mk reason.1 reason.2 reason.3 Jm) done opn) (K f.5 (Rsn.mk (7:Int) reason.2 (B8 []) (-1:Int)) done opn)
def J6:Ga:=q0k Bz
abbrev Z7:Type:=ByteArray->ByteArray->Int->List (Decl)->List (Seg)->List (Flg)->List (Lay_)->List (Exper)->List (Ctxt)->List (Frc)->List (ByteArray)->(ByteArray->Option (Dcs))->(ByteArray->Option (Bool))->Flg->(Dcs->(ByteArray->Option (Dcs))->(ByteArray->Option (Bool))->Prop)->Prop
def R4(Z3:Vr)(Wj:V0)(j3i:Rp)(Ja:W0)(z7i:Ub)(Zz:J9)(q8n:Ga)(X:Z7):Z7:=fun salt hkind hold attrs segs flags layers expers ctxs fs inn done opn f K=>Jn1 (fun (Qa:ByteArray×Int×Int×Int×ByteArray×List ByteArray×Int×Int×ByteArray×Int×Int×(ByteArray->Option Dcs)×(ByteArray->Option Bool)×Unit)=>Z3 (Val.mk Qa.2.2.1 Qa.2.2.2.1 Qa.2.2.2.2.1 Qa.2.2.2.2.2.1) fun Qk=>K (Dcs.mk Qa.1 Qa.2.1 Qk (Rsn.mk Qa.2.2.2.2.2.2.1 Qa.2.2.2.2.2.2.2.1 Qa.2.2.2.2.2.2.2.2.1 Qa.2.2.2.2.2.2.2.2.2.1) Qa.2.2.2.2.2.2.2.2.2.2.1) Qa.2.2.2.2.2.2.2.2.2.2.2.1 Qa.2.2.2.2.2.2.2.2.2.2.2.2.1) fun (q00:ByteArray×Int×Int×Int×ByteArray×List ByteArray×Int×Int×ByteArray×Int×Int×(ByteArray->Option Dcs)×(ByteArray->Option Bool)×Unit->Prop)=>Cnd ((done f.1).isSome=true) (q00 (((done f.1).getD (Dcs.mk (B8 []) (0:Int) (Val.mk (0:Int) (0:Int) (B8 []) []) (Rsn.mk (0:Int) (0:Int) (B8 []) (0:Int)) (0:Int))).1,((done f.1).getD (Dcs.mk (B8 []) (0:Int) (Val.mk (0:Int) (0:Int) (B8 []) []) (Rsn.mk (0:Int) (0:Int) (B8 []) (0:Int)) (0:Int))).2,((done f.1).getD (Dcs.mk (B8 []) (0:Int) (Val.mk (0:Int) (0:Int) (B8 []) []) (Rsn.mk (0:Int) (0:Int) (B8 []) (0:Int)) (0:Int))).3.1,((done f.1).getD (Dcs.mk (B8 []) (0:Int) (Val.mk (0:Int) (0:Int) (B8 []) []) (Rsn.mk (0:Int) (0:Int) (B8 []) (0:Int)) (0:Int))).3.2,((done f.1).getD (Dcs.mk (B8 []) (0:Int) (Val.mk (0:Int) (0:Int) (B8 []) []) (Rsn.mk (0:Int) (0:Int) (B8 []) (0:Int)) (0:Int))).3.3,((done f.1).getD (Dcs.mk (B8 []) (0:Int) (Val.mk (0:Int) (0:Int) (B8 []) []) (Rsn.mk (0:Int) (0:Int) (B8 []) (0:Int)) (0:Int))).3.4,((done f.1).getD (Dcs.mk (B8 []) (0:Int) (Val.mk (0:Int) (0:Int) (B8 []) []) (Rsn.mk (0:Int) (0:Int) (B8 []) (0:Int)) (0:Int))).4.1,((done f.1).getD (Dcs.mk (B8 []) (0:Int) (Val.mk (0:Int) (0:Int) (B8 []) []) (Rsn.mk (0:Int) (0:Int) (B8 []) (0:Int)) (0:Int))).4.2,((done f.1).getD (Dcs.mk (B8 []) (0:Int) (Val.mk (0:Int) (0:Int) (B8 []) []) (Rsn.mk (0:Int) (0:Int) (B8 []) (0:Int)) (0:Int))).4.3,((done f.1).getD (Dcs.mk (B8 []) (0:Int) (Val.mk (0:Int) (0:Int) (B8 []) []) (Rsn.mk (0:Int) (0:Int) (B8 []) (0:Int)) (0:Int))).4.4,((done f.1).getD (Dcs.mk (B8 []) (0:Int) (Val.mk (0:Int) (0:Int) (B8 []) []) (Rsn.mk (0:Int) (0:Int) (B8 []) (0:Int)) (0:Int))).5,done,opn,())) (Cnd (f.4=true) (Fits f.6->LpH (fun (Qh:Int×Int×Int×ByteArray×Int×(ByteArray->Option Bool)×(ByteArray->Option Dcs)×Unit) (z3i:Int×Int×Int×ByteArray×Int×(ByteArray->Option Bool)×(ByteArray->Option Dcs)×Unit->Prop)=>CAt f.6 Qh.1 (fun y3=>Wj salt hkind hold attrs segs flags layers expers ctxs fs inn Qh.2.2.2.2.2.2.1 Qh.2.2.2.2.2.1 y3.1 fun Qr q20 v3k y0s=>Cnd (q20=true) (Cnd (Qr.4=true) (Cnd ((y0s Qr.1).getD false=true) (Jn4 (fun Zc q4m w9b w9c=>q00 (f.1,f.5,Zc,q4m,w9b,w9c,(2:Int),(0:Int),y3.1,(-1:Int),(0:Int),put v3k f.1 (Dcs.mk f.1 f.5 (Val.mk Zc q4m w9b w9c) (Rsn.mk (2:Int) (0:Int) y3.1 (-1:Int)) (0:Int)),dlt y0s f.1,())) fun j3h=>Cnd ((1:Int)<=f.5) (Fits f.3->Cnd (f.5<=(↑f.3.length:Int)) (InI (f.5 - 1)/\((0:Int)<=f.5 - 1/\f.5 - 1<(↑f.3.length:Int))/\ ∀y8,f.3[(f.5 - 1).toNat]? =some y8->j3h y8.1 y8.2 y8.3 y8.4) (j3h (0:Int) (0:Int) (B8 []) [])) (j3h (0:Int) (0:Int) (B8 []) [])) (X salt hkind hold attrs segs flags layers expers ctxs fs inn v3k y0s (Flg.mk Qr.1 Qr.2 Qr.3 Qr.4 Qr.5 Qr.6 Qr.7 Qr.8 (Srv.mk Qr.9.1 Qr.9.2 Qr.9.3 Qr.9.4 Qr.9.5)) fun Zc v77 w9d=>Cnd (Zc.2=y3.2) (InI (Qh.1+1)/\z3i (Qh.1+1,Qh.2.1,Qh.2.2.1,Qh.2.2.2.1,Qh.2.2.2.2.1,w9d,v77,())) (Jn4 (fun Qp w63 w9f v73=>q00 (f.1,f.5,Qp,w63,w9f,v73,(2:Int),(0:Int),y3.1,(-1:Int),(0:Int),put v77 f.1 (Dcs.mk f.1 f.5 (Val.mk Qp w63 w9f v73) (Rsn.mk (2:Int) (0:Int) y3.1 (-1:Int)) (0:Int)),dlt w9d f.1,())) fun y46=>Cnd ((1:Int)<=f.5) (Fits f.3->Cnd (f.5<=(↑f.3.length:Int)) (InI (f.5 - 1)/\((0:Int)<=f.5 - 1/\f.5 - 1<(↑f.3.length:Int))/\ ∀y9,f.3[(f.5 - 1).toNat]? =some y9->y46 y9.1 y9.2 y9.3 y9.4) (y46 (0:Int) (0:Int) (B8 []) [])) (y46 (0:Int) (0:Int) (B8 []) [])))) (Jn4 (fun Zc q4m w9b w9c=>q00 (f.1,f.5,Zc,q4m,w9b,w9c,(2:Int),(0:Int),y3.1,(-1:Int),(0:Int),put v3k f.1 (Dcs.mk f.1 f.5 (Val.mk Zc q4m w9b w9c) (Rsn.mk (2:Int) (0:Int) y3.1 (-1:Int)) (0:Int)),dlt y0s f.1,())) fun j3h=>Cnd ((1:Int)<=f.5) (Fits f.3->Cnd (f.5<=(↑f.3.length:Int)) (InI (f.5 - 1)/\((0:Int)<=f.5 - 1/\f.5 - 1<(↑f.3.length:Int))/\ ∀y8,f.3[(f.5 - 1).toNat]? =some y8->j3h y8.1 y8.2 y8.3 y8.4) (j3h (0:Int) (0:Int) (B8 []) [])) (j3h (0:Int) (0:Int) (B8 []) []))) (Jn4 (fun Zc q4m w9b w9c=>q00 (f.1,f.5,Zc,q4m,w9b,w9c,(2:Int),(0:Int),y3.1,(-1:Int),(0:Int),put v3k f.1 (Dcs.mk f.1 f.5 (Val.mk Zc q4m w9b w9c) (Rsn.mk (2:Int) (0:Int) y3.1 (-1:Int)) (0:Int)),dlt y0s f.1,())) fun j3h=>Cnd ((1:Int)<=f.5) (Fits f.3->Cnd (f.5<=(↑f.3.length:Int)) (InI (f.5 - 1)/\((0:Int)<=f.5 - 1/\f.5 - 1<(↑f.3.length:Int))/\ ∀y8,f.3[(f.5 - 1).toNat]? =some y8->j3h y8.1 y8.2 y8.3 y8.4) (j3h (0:Int) (0:Int) (B8 []) [])) (j3h (0:Int) (0:Int) (B8 []) []))) (j3i (Flg.mk f.1 f.2 f.3 f.4 f.5 f.6 f.7 f.8 (Srv.mk f.9.1 f.9.2 f.9.3 f.9.4 f.9.5)) (Subj.mk ctxs) fun Qd=>Cnd ((0:Int)<Qd) (InI (Qd - 1)/\((0:Int)<=Qd - 1/\Qd - 1<(↑f.7.length:Int))/\ ∀y4,f.7[(Qd - 1).toNat]? =some y4->Jn4 (fun Zc q4m w9b w9c=>q00 (f.1,y4.2,Zc,q4m,w9b,w9c,(3:Int),Qd,B8 [],(-1:Int),(0:Int),put Qh.2.2.2.2.2.2.1 f.1 (Dcs.mk f.1 y4.2 (Val.mk Zc q4m w9b w9c) (Rsn.mk (3:Int) Qd (B8 []) (-1:Int)) (0:Int)),dlt Qh.2.2.2.2.2.1 f.1,())) fun j3h=>Cnd ((1:Int)<=y4.2) (Fits f.3->Cnd (y4.2<=(↑f.3.length:Int)) (InI (y4.2 - 1)/\((0:Int)<=y4.2 - 1/\y4.2 - 1<(↑f.3.length:Int))/\ ∀y8,f.3[(y4.2 - 1).toNat]? =some y8->j3h y8.1 y8.2 y8.3 y8.4) (j3h (0:Int) (0:Int) (B8 []) [])) (j3h (0:Int) (0:Int) (B8 []) [])) (Fits expers->LpH (fun (Qr:Int×Int×Int×ByteArray×Int×(ByteArray->Option Dcs)×(ByteArray->Option Bool)×Unit) (j32:Int×Int×Int×ByteArray×Int×(ByteArray->Option Dcs)×(ByteArray->Option Bool)×Unit->Prop)=>CAt expers Qr.1 (fun y6=>Cnd (y6.3=f.1) (Cnd (y6.5=2) (Ja (Envt.mk (Sett.mk salt hkind hold) attrs segs flags layers expers) (Subj.mk ctxs) fs y6.2 fun Re y0r=>Cnd (y0r=0) (Cnd (Re.2=y6.1) (z7i salt hkind hold attrs segs flags layers expers ctxs fs inn Qr.2.2.2.2.2.1 Qr.2.2.2.2.2.2.1 (Exper.mk y6.1 y6.2 y6.3 y6.4 y6.5 y6.6 y6.7 (Ex.mk y6.8.1 y6.8.2 y6.8.3 y6.8.4 y6.8.5)) fun Qo v79 y9j=>Jn4 (fun Zj y0o y0u y7f=>q00 (f.1,Re.4,Zj,y0o,y0u,y7f,(4:Int),(0:Int),y6.1,Qo,(0:Int),put v79 f.1 (Dcs.mk f.1 Re.4 (Val.mk Zj y0o y0u y7f) (Rsn.mk (4:Int) (0:Int) y6.1 Qo) (0:Int)),dlt y9j f.1,())) fun y47=>Cnd ((1:Int)<=Re.4) (Fits f.3->Cnd (Re.4<=(↑f.3.length:Int)) (InI (Re.4 - 1)/\((0:Int)<=Re.4 - 1/\Re.4 - 1<(↑f.3.length:Int))/\ ∀y12,f.3[(Re.4 - 1).toNat]? =some y12->y47 y12.1 y12.2 y12.3 y12.4) (y47 (0:Int) (0:Int) (B8 []) [])) (y47 (0:Int) (0:Int) (B8 []) [])) (InI (Qr.1+1)/\j32 (Qr.1+1,Qr.2.1,Qr.2.2.1,Qr.2.2.2.1,Qr.2.2.2.2.1,Qr.2.2.2.2.2.1,Qr.2.2.2.2.2.2.1,()))) (InI (Qr.1+1)/\j32 (Qr.1+1,Qr.2.1,Qr.2.2.1,Qr.2.2.2.1,Qr.2.2.2.2.1,Qr.2.2.2.2.2.1,Qr.2.2.2.2.2.2.1,()))) (InI (Qr.1+1)/\j32 (Qr.1+1,Qr.2.1,Qr.2.2.1,Qr.2.2.2.1,Qr.2.2.2.2.1,Qr.2.2.2.2.2.1,Qr.2.2.2.2.2.2.1,()))) (InI (Qr.1+1)/\j32 (Qr.1+1,Qr.2.1,Qr.2.2.1,Qr.2.2.2.1,Qr.2.2.2.2.1,Qr.2.2.2.2.2.1,Qr.2.2.2.2.2.2.1,()))) (Fits f.8->LpH (fun (Qp:Int×Int×Int×ByteArray×Int×(ByteArray->Option Bool)×(ByteArray->Option Dcs)×Unit) (j33:Int×Int×Int×ByteArray×Int×(ByteArray->Option Bool)×(ByteArray->Option Dcs)×Unit->Prop)=>CAt f.8 Qp.1 (fun y8=>Zz (Subj.mk ctxs) inn (Ex.mk y8.2.1 y8.2.2 y8.2.3 y8.2.4 y8.2.5) fun Zj=>Cnd (Zj=true) (InI (Qp.1+1)/\q8n salt hkind hold attrs segs flags layers expers ctxs fs inn Qp.2.2.2.2.2.2.1 Qp.2.2.2.2.2.1 (Flg.mk f.1 f.2 f.3 f.4 f.5 f.6 f.7 f.8 (Srv.mk f.9.1 f.9.2 f.9.3 f.9.4 f.9.5)) (Srv.mk y8.3.1 y8.3.2 y8.3.3 y8.3.4 y8.3.5) (Rsn.mk (5:Int) (Qp.1+1) y8.1 (0:Int)) fun q4o v74 y8w y8x=>Jn4 (fun Jd y7g y0t y7h=>q00 (f.1,q4o,Jd,y7g,y0t,y7h,v74.1,v74.2,v74.3,v74.4,(0:Int),put y8w f.1 (Dcs.mk f.1 q4o (Val.mk Jd y7g y0t y7h) v74 (0:Int)),dlt y8x f.1,())) fun v3e=>Cnd ((1:Int)<=q4o) (Fits f.3->Cnd (q4o<=(↑f.3.length:Int)) (InI (q4o - 1)/\((0:Int)<=q4o - 1/\q4o - 1<(↑f.3.length:Int))/\ ∀y14,f.3[(q4o - 1).toNat]? =some y14->v3e y14.1 y14.2 y14.3 y14.4) (v3e (0:Int) (0:Int) (B8 []) [])) (v3e (0:Int) (0:Int) (B8 []) [])) (InI (Qp.1+1)/\j33 (Qp.1+1,Qp.2.1,Qp.2.2.1,Qp.2.2.2.1,Qp.2.2.2.2.1,Qp.2.2.2.2.2.1,Qp.2.2.2.2.2.2.1,()))) (q8n salt hkind hold attrs segs flags layers expers ctxs fs inn Qp.2.2.2.2.2.2.1 Qp.2.2.2.2.2.1 (Flg.mk f.1 f.2 f.3 f.4 f.5 f.6 f.7 f.8 (Srv.mk f.9.1 f.9.2 f.9.3 f.9.4 f.9.5)) (Srv.mk f.9.1 f.9.2 f.9.3 f.9.4 f.9.5) (Rsn.mk (6:Int) (0:Int) (B8 []) (0:Int)) fun Re y0r y9k y9l=>Jn4 (fun Qo y45 y67 y88=>q00 (f.1,Re,Qo,y45,y67,y88,y0r.1,y0r.2,y0r.3,y0r.4,(0:Int),put y9k f.1 (Dcs.mk f.1 Re (Val.mk Qo y45 y67 y88) y0r (0:Int)),dlt y9l f.1,())) fun y8y=>Cnd ((1:Int)<=Re) (Fits f.3->Cnd (Re<=(↑f.3.length:Int)) (InI (Re - 1)/\((0:Int)<=Re - 1/\Re - 1<(↑f.3.length:Int))/\ ∀y11,f.3[(Re - 1).toNat]? =some y11->y8y y11.1 y11.2 y11.3 y11.4) (y8y (0:Int) (0:Int) (B8 []) [])) (y8y (0:Int) (0:Int) (B8 []) []))) ((0:Int),Qr.2.1,Qr.2.2.1,Qr.2.2.2.1,Qr.2.2.2.2.1,Qr.2.2.2.2.2.2.1,Qr.2.2.2.2.2.1,()))) ((0:Int),Qh.2.1,Qh.2.2.1,Qh.2.2.2.1,Qh.2.2.2.2.1,Qh.2.2.2.2.2.2.1,Qh.2.2.2.2.2.1,())))) ((0:Int),(0:Int),(0:Int),B8 [],(0:Int),put opn f.1 true,done,())) (Jn4 (fun Qk Hq j3g v72=>q00 (f.1,f.5,Qk,Hq,j3g,v72,(1:Int),(0:Int),B8 [],(-1:Int),(0:Int),put done f.1 (Dcs.mk f.1 f.5 (Val.mk Qk Hq j3g v72) (Rsn.mk (1:Int) (0:Int) (B8 []) (-1:Int)) (0:Int)),dlt (put opn f.1 true) f.1,())) fun v3d=>Cnd ((1:Int)<=f.5) (Fits f.3->Cnd (f.5<=(↑f.3.length:Int)) (InI (f.5 - 1)/\((0:Int)<=f.5 - 1/\f.5 - 1<(↑f.3.length:Int))/\ ∀y3,f.3[(f.5 - 1).toNat]? =some y3->v3d y3.1 y3.2 y3.3 y3.4) (v3d (0:Int) (0:Int) (B8 []) [])) (v3d (0:Int) (0:Int) (B8 []) [])))
def Uc:Z7:=fun salt hkind hold attrs segs flags layers expers ctxs fs inn done opn f K=> ∀X:Z7,(∀salt hkind hold attrs segs flags layers expers ctxs fs inn done opn f K,R4 Jo Jr W6 W2 Jy Vw J6 X salt hkind hold attrs segs flags layers expers ctxs fs inn done opn f K->X salt hkind hold attrs segs flags layers expers ctxs fs inn done opn f K)->X salt hkind hold attrs segs flags layers expers ctxs fs inn done opn f K
abbrev H5:Type:=Envt->Subj->List (Frc)->ByteArray->(Dcs->Int->Prop)->Prop
def q7v(q0c:Gz)(Wj:V0)(Ug:Z7):H5:=fun v s forced key K=>q0c (Envt.mk (Sett.mk v.1.1 v.1.2 v.1.3) v.2 v.3 v.4 v.5 v.6) (Subj.mk s.1) forced fun Qa Jm z4b z7x j8p y89 y9a y9b y9c y9d y7i y8z y80=>Wj Qa Jm z4b z7x j8p y89 y9a y9b y9c y9d y7i y8z y80 key fun Qk Hq w60 y0m=>Cnd (Hq=true) (Ug Qa Jm z4b z7x j8p y89 y9a y9b y9c y9d y7i w60 y0m (Flg.mk Qk.1 Qk.2 Qk.3 Qk.4 Qk.5 Qk.6 Qk.7 Qk.8 (Srv.mk Qk.9.1 Qk.9.2 Qk.9.3 Qk.9.4 Qk.9.5)) fun Qh _ _=>K (Dcs.mk Qh.1 Qh.2 (Val.mk Qh.3.1 Qh.3.2 Qh.3.3 Qh.3.4) (Rsn.mk Qh.4.1 Qh.4.2 Qh.4.3 Qh.4.4) Qh.5) (0:Int)) (K (Dcs.mk (B8 []) (0:Int) (Val.mk (0:Int) (0:Int) (B8 []) []) (Rsn.mk (0:Int) (0:Int) (B8 []) (0:Int)) (0:Int)) (11:Int))
def q15:H5:=q7v Bx Jr Uc
abbrev Bg:Type:=Reg->Envt->Subj->ByteArray->ByteArray->Int->(Dcs->Int->Prop)->Prop
def q99(q2x:H4)(q2y:H5):Bg:=fun r v s id flag time K=>q2x r id time fun Qa=>q2y (Envt.mk (Sett.mk v.1.1 v.1.2 v.1.3) v.2 v.3 v.4 v.5 v.6) (Subj.mk s.1) Qa flag fun Qk Hq=>K (Dcs.mk Qk.1 Qk.2 (Val.mk Qk.3.1 Qk.3.2 Qk.3.3 Qk.3.4) (Rsn.mk Qk.4.1 Qk.4.2 Qk.4.3 Qk.4.4) Qk.5) Hq
def q3s:Bg:=q99 q13 q15
abbrev z2b:Type:=List (ByteArray)->ByteArray->(List (ByteArray)->Prop)->Prop
def q8z:z2b:=fun l s K=>Lp1 (fun Qa Hb=>Fits l->CAt l Qa (fun y2=>Cnd (Lk.blt y2 s) (InI (Qa+1)/\Hb (Qa+1)) (Fits l->CAt l Qa (fun y5=>Cnd (y5=s) (K l) (((0:Int)<=(0:Int)/\(0:Int)<=Qa/\Qa<=(↑l.length:Int))/\Sml ([]++List.drop (Int.toNat (0:Int)) (List.take Qa.toNat l)).length/\((0:Int)<=Qa/\Qa<=(↑l.length:Int)/\(↑l.length:Int)<=(↑l.length:Int))/\Sml ([]++List.drop (Int.toNat (0:Int)) (List.take Qa.toNat l)++[s]).length/\Sml ([]++List.drop (Int.toNat (0:Int)) (List.take Qa.toNat l)++[s]++List.drop Qa.toNat (List.take (↑l.length:Int).toNat l)).length/\K ([]++List.drop (Int.toNat (0:Int)) (List.take Qa.toNat l)++[s]++List.drop Qa.toNat (List.take (↑l.length:Int).toNat l)))) (((0:Int)<=(0:Int)/\(0:Int)<=Qa/\Qa<=(↑l.length:Int))/\Sml ([]++List.drop (Int.toNat (0:Int)) (List.take Qa.toNat l)).length/\((0:Int)<=Qa/\Qa<=(↑l.length:Int)/\(↑l.length:Int)<=(↑l.length:Int))/\Sml ([]++List.drop (Int.toNat (0:Int)) (List.take Qa.toNat l)++[s]).length/\Sml ([]++List.drop (Int.toNat (0:Int)) (List.take Qa.toNat l)++[s]++List.drop Qa.toNat (List.take (↑l.length:Int).toNat l)).length/\K ([]++List.drop (Int.toNat (0:Int)) (List.take Qa.toNat l)++[s]++List.drop Qa.toNat (List.take (↑l.length:Int).toNat l))))) (Fits l->CAt l Qa (fun y3=>Cnd (y3=s) (K l) (((0:Int)<=(0:Int)/\(0:Int)<=Qa/\Qa<=(↑l.length:Int))/\Sml ([]++List.drop (Int.toNat (0:Int)) (List.take Qa.toNat l)).length/\((0:Int)<=Qa/\Qa<=(↑l.length:Int)/\(↑l.length:Int)<=(↑l.length:Int))/\Sml ([]++List.drop (Int.toNat (0:Int)) (List.take Qa.toNat l)++[s]).length/\Sml ([]++List.drop (Int.toNat (0:Int)) (List.take Qa.toNat l)++[s]++List.drop Qa.toNat (List.take (↑l.length:Int).toNat l)).length/\K ([]++List.drop (Int.toNat (0:Int)) (List.take Qa.toNat l)++[s]++List.drop Qa.toNat (List.take (↑l.length:Int).toNat l)))) (((0:Int)<=(0:Int)/\(0:Int)<=Qa/\Qa<=(↑l.length:Int))/\Sml ([]++List.drop (Int.toNat (0:Int)) (List.take Qa.toNat l)).length/\((0:Int)<=Qa/\Qa<=(↑l.length:Int)/\(↑l.length:Int)<=(↑l.length:Int))/\Sml ([]++List.drop (Int.toNat (0:Int)) (List.take Qa.toNat l)++[s]).length/\Sml ([]++List.drop (Int.toNat (0:Int)) (List.take Qa.toNat l)++[s]++List.drop Qa.toNat (List.take (↑l.length:Int).toNat l)).length/\K ([]++List.drop (Int.toNat (0:Int)) (List.take Qa.toNat l)++[s]++List.drop Qa.toNat (List.take (↑l.length:Int).toNat l))))) (0:Int)
abbrev q4e:Type:=Reg->ByteArray->Int->(List (Frc)->Prop)->Prop
def z4r(q2z:z2b)(q6r:z13):q4e:=fun r id time K=>Lp2 (fun Qa Jm j8k=>Fits r.3->CAt r.3 Jm (fun y2=>q2z Qa y2.2 fun Qg=>InI (Jm+1)/\j8k Qg (Jm+1)) (Lp2 (fun Qh Ut w3z=>Fits Qa->CAt Qa Ut (fun y4=>q6r r id y4 time fun Zc q4m=>Cnd (q4m=true) (Sml (Qh++[Frc.mk Zc.2 Zc.3 Zc.4]).length/\InI (Ut+1)/\w3z (Qh++[Frc.mk Zc.2 Zc.3 Zc.4]) (Ut+1)) (InI (Ut+1)/\w3z Qh (Ut+1))) (K Qh)) [] (0:Int))) [] (0:Int)
def q80:q4e:=z4r q8z z9v
abbrev q4f:Type:=Envt->ByteArray->(Int->Prop)->Prop
def H6:q4f:=fun v key K=>Lp1 (fun Qa Hb=>Fits v.4->CAt v.4 Qa (fun y2=>Cnd (y2.1=key) (K Qa) (InI (Qa+1)/\Hb (Qa+1))) (K (-1:Int))) (0:Int)
abbrev z6d:Type:=List (Seg)->(List (ByteArray)->Prop)->Prop
def j17:z6d:=fun l K=>Lp2 (fun Qa Jm j8k=>Fits l->CAt l Jm (fun y2=>Sml (Qa++[y2.1]).length/\InI (Jm+1)/\j8k (Qa++[y2.1]) (Jm+1)) (K Qa)) [] (0:Int)
abbrev H7:Type:=List (ByteArray)->Ex->(List (ByteArray)->Prop)->Prop
def z4s(q2z:z2b)(X:H7):H7:=fun l e K=>Jn1 (fun Qa=>Lp2 (fun Qk Hq w60=>Fits e.5->CAt e.5 Hq (fun y3=>X Qk (Ex.mk y3.1 y3.2 y3.3 y3.4 y3.5) fun Qr=>InI (Hq+1)/\w60 Qr (Hq+1)) (K Qk)) Qa (0:Int)) fun q00=>Cnd (e.1=5) (q2z l e.3 fun Qk=>q00 Qk) (q00 l)
def q81:H7:=fun l e K=> ∀X:H7,(∀l e K,z4s q8z X l e K->X l e K)->X l e K
abbrev q4g:Type:=Ex->(List (ByteArray)->Prop)->Prop
def z4t(q9n:H7):q4g:=fun e K=>q9n [] (Ex.mk e.1 e.2 e.3 e.4 e.5) fun Qa=>K Qa
def q82:q4g:=z4t q81
abbrev q7w:Type:=List (Seg)->(List (Edg)->Prop)->Prop
def z8b(q9o:q4g):q7w:=fun l K=>Lp2 (fun Qa Jm j8k=>Fits l->CAt l Jm (fun y2=>q9o (Ex.mk y2.5.1 y2.5.2 y2.5.3 y2.5.4 y2.5.5) fun Qg=>Lp2 (fun Qr q20 v3k=>Fits Qg->Cnd (q20<(↑Qg.length:Int)) (At l Jm fun y7=>At Qg q20 fun y9=>Sml (Qr++[Edg.mk y7.1 y9]).length/\InI (q20+1)/\v3k (Qr++[Edg.mk y7.1 y9]) (q20+1)) (InI (Jm+1)/\j8k Qr (Jm+1))) Qa (0:Int)) (K Qa)) [] (0:Int)
def z2c:q7w:=z8b q82
abbrev z0y:Type:=List (ByteArray)->List (Edg)->ByteArray->(Bool->Prop)->Prop
def j18(Qz:Ws):z0y:=fun order edges node K=>Lp1 (fun Qa Hb=>Fits edges->CAt edges Qa (fun y2=>Cnd (y2.1=node) (At edges Qa fun y4=>Qz order y4.2 fun Zc=>Cnd (Zc=true) (InI (Qa+1)/\Hb (Qa+1)) (K false)) (InI (Qa+1)/\Hb (Qa+1))) (Qz order node fun Qh=>K (match decide ((Qh,()).1=true) with|true=>false|false=>true))) (0:Int)
def z6e:z0y:=j18 Hk
abbrev z0z:Type:=List (ByteArray)->List (Edg)->(List (ByteArray)->Int->Prop)->Prop
def j19(Qz:Ws)(z60:z0y):z0z:=fun nodes edges K=>Lp1 (fun Qa Hb=>Fits nodes->Cnd (Qa<(↑nodes.length:Int)) (((0:Int)<=(0:Int)/\(0:Int)<=Qa/\Qa<=(↑nodes.length:Int))/\At nodes Qa fun y2=>Qz (List.drop (Int.toNat (0:Int)) (List.take Qa.toNat nodes)) y2 fun Qg=>Cnd (Qg=true) (K [] (10:Int)) (InI (Qa+1)/\Hb (Qa+1))) (Lp1 (fun Qh z3i=>Fits edges->CAt edges Qh (fun y4=>Qz nodes y4.1 fun Zc=>Cnd (Zc=true) (At edges Qh fun y7=>Qz nodes y7.2 fun Qo=>Cnd (Qo=true) (InI (Qh+1)/\z3i (Qh+1)) (K [] (11:Int))) (K [] (11:Int))) (Lp1 (fun Qg w62=>Fits Qg->Fits nodes->Cnd ((↑Qg.length:Int)<(↑nodes.length:Int)) (Lp4 (fun Qp w63 w9f v73 y7k=>Fits nodes->CAt nodes w9f (fun y9=>z60 v73 edges y9 fun q4o=>Cnd (q4o=true) (Cnd (w63=true) (At nodes w9f fun y12=>Cnd (Lk.blt y12 Qp) (At nodes w9f fun y14=>InI (w9f+1)/\y7k y14 true (w9f+1) v73) (InI (w9f+1)/\y7k Qp w63 (w9f+1) v73)) (At nodes w9f fun y12=>InI (w9f+1)/\y7k y12 true (w9f+1) v73)) (InI (w9f+1)/\y7k Qp w63 (w9f+1) v73)) (Cnd (w63=true) (Sml ([]++v73).length/\Sml ([]++v73++[Qp]).length/\w62 ([]++v73++[Qp])) (K [] (12:Int)))) (B8 []) false (0:Int) Qg) (K Qg (0:Int))) [])) (0:Int))) (0:Int)
def z6f:z0z:=j19 Hk z6e
abbrev q7x:Type:=List (Seg)->(List (ByteArray)->Int->Prop)->Prop
def z8c(z61:z6d)(z3k:q7w)(z62:z0z):q7x:=fun l K=>z61 l fun Qa=>z3k l fun Qk=>z62 Qa Qk fun Qh Ut=>K Qh Ut
def z2d:q7x:=z8c j17 z2c z6f
abbrev V1:Type:=Subj->ByteArray->(Ctxt->Bool->Prop)->Prop
def q16:V1:=fun s kind K=>Lp4 (fun Qa Jm z4b (z7x:List Attr) y5b=>Fits s.1->CAt s.1 Qa (fun y2=>Cnd (y2.1=kind) (At s.1 Qa fun y4=>K y4 true) (InI (Qa+1)/\y5b (Qa+1) Jm z4b z7x)) (K (Ctxt.mk (B8 []) (B8 []) []) false)) (0:Int) (B8 []) (B8 []) []
abbrev q0l:Type:=Subj->ByteArray->ByteArray->(Val->Bool->Prop)->Prop
def z8d(Zg:V1):q0l:=fun s kind name K=>Zg (Subj.mk s.1) kind fun Qa Jm=>Cnd (Jm=true) (Cnd (name=B8 [107,101,121]) (K (Val.mk (3:Int) (0:Int) Qa.2 []) true) (Lp5 (fun Qk Hq j3g v72 (y49:List ByteArray) y8o=>Fits Qa.3->CAt Qa.3 Qk (fun y3=>Cnd (y3.1=name) (At Qa.3 Qk fun y5=>K (Val.mk y5.2.1 y5.2.2 y5.2.3 y5.2.4) true) (InI (Qk+1)/\y8o (Qk+1) Hq j3g v72 y49)) (K (Val.mk (0:Int) (0:Int) (B8 []) []) false)) (0:Int) (0:Int) (0:Int) (B8 []) [])) (K (Val.mk (0:Int) (0:Int) (B8 []) []) false)
def q7y:q0l:=z8d q16
abbrev z2e:Type:=Int->(Bool->Prop)->Prop
def z2f:z2e:=fun op K=>Cnd ((6:Int)<=op) (K (decide (op<=15))) (K false)
abbrev z9z:Type:=List (ByteArray)->List (ByteArray)->(Bool->Prop)->Prop
def z90:z9z:=fun a b K=>Fits a->Fits b->Cnd ((↑a.length:Int)=(↑b.length:Int)) (Lp1 (fun Qh z3i=>Fits a->CAt a Qh (fun y4=>At b Qh fun y6=>Cnd (y4=y6) (InI (Qh+1)/\z3i (Qh+1)) (K false)) (K true)) (0:Int)) (K false)
abbrev z00:Type:=Val->Val->(Bool->Prop)->Prop
def j2a(j1f:z9z):z00:=fun a b K=>Cnd (a.1=b.1) (Cnd (a.2=b.2) (Cnd (a.3=b.3) (j1f a.4 b.4 fun Qa=>K Qa) (K false)) (K false)) (K false)
def z01:z00:=j2a z90
abbrev q0v:Type:=ByteArray->ByteArray->Int->(Bool->Prop)->Prop
def q4h:q0v:=fun s t i K=>Cnd ((0:Int)<=i) (InI (i+(↑t.size:Int))/\Cnd (i+(↑t.size:Int)<=(↑s.size:Int)) (InI (i+(↑t.size:Int))/\((0:Int)<=i/\i<=i+(↑t.size:Int)/\i+(↑t.size:Int)<=(↑s.size:Int))/\K (decide (s.extract i.toNat (i+(↑t.size:Int)).toNat=t))) (K false)) (K false)
abbrev Bh:Type:=Val->Val->(Bool->Prop)->Prop
def z0a(Qz:Ws)(W4:q0v):Bh:=fun v w K=>Cnd (w.1=3) (Cnd (v.1=5) (Qz v.4 w.3 fun Qa=>K Qa) (Lp1 (fun Qa Hb=>Cnd (v.1=3) (InI (Qa+(↑w.3.size:Int))/\Cnd (Qa+(↑w.3.size:Int)<=(↑v.3.size:Int)) (W4 v.3 w.3 Qa fun Qk=>Cnd (Qk=true) (K true) (InI (Qa+1)/\Hb (Qa+1))) (K false)) (K false)) (0:Int))) (K false)
def q3t:Bh:=z0a Hk q4h
abbrev z6g:Type:=Val->(Bool->Prop)->Prop
def z6h:z6g:=fun v K=>Cnd (v.1=1) (Cnd (v.1=3) (Cnd (v.1=5) (K true) (Fits v.4->K (decide ((↑v.4.length:Int)=0)))) (Cnd (v.1=4) (Cnd (v.1=5) (K true) (Fits v.4->K (decide ((↑v.4.length:Int)=0)))) (Cnd (v.3=B8 []) (Cnd (v.1=5) (K true) (Fits v.4->K (decide ((↑v.4.length:Int)=0)))) (K false)))) (Cnd (v.1=3) (Cnd (v.1=2) (Cnd (v.1=5) (K true) (Fits v.4->K (decide ((↑v.4.length:Int)=0)))) (Cnd (v.2=0) (Cnd (v.1=5) (K true) (Fits v.4->K (decide ((↑v.4.length:Int)=0)))) (K false))) (Cnd (v.1=2) (Cnd (v.1=4) (Cnd (v.1=5) (K true) (Fits v.4->K (decide ((↑v.4.length:Int)=0)))) (Cnd (v.3=B8 []) (Cnd (v.1=5) (K true) (Fits v.4->K (decide ((↑v.4.length:Int)=0)))) (K false))) (Cnd (v.2=0) (Cnd (v.1=4) (Cnd (v.1=5) (K true) (Fits v.4->K (decide ((↑v.4.length:Int)=0)))) (Cnd (v.3=B8 []) (Cnd (v.1=5) (K true) (Fits v.4->K (decide ((↑v.4.length:Int)=0)))) (K false))) (K false))))
abbrev q3b:Type:=ByteArray->(Bool->Prop)->Prop
def j2b(Zy:Vt):q3b:=fun s K=>Cnd ((200:Int)<(↑s.size:Int)) (K false) (Zy s fun Qa=>Cnd (Qa=true) (Lp1 (fun Qk q6h=>Cnd (Qk<(↑s.size:Int)) (((0:Int)<=Qk/\Qk<(↑s.size:Int))/\ ∀b2,s[Qk.toNat]? =some b2->Cnd ((↑b2.toNat:Int)<32) (K false) (((0:Int)<=Qk/\Qk<(↑s.size:Int))/\ ∀b4,s[Qk.toNat]? =some b4->Cnd ((↑b4.toNat:Int)=127) (K false) (InI (Qk+1)/\q6h (Qk+1)))) (K true)) (0:Int)) (K false))
def z02:q3b:=j2b Vu
abbrev B0:Type:=ByteArray->(Int->Int->Prop)->Prop
def G3:B0:=fun s K=>Jn1 (fun Qa=>Lp1 (fun Qk q6h=>Cnd (Qk<(↑Qa.size:Int)) (((0:Int)<=Qk/\Qk<(↑Qa.size:Int))/\ ∀b2,Qa[Qk.toNat]? =some b2->Cnd ((↑b2.toNat:Int)<48) (K (0:Int) (1:Int)) (((0:Int)<=Qk/\Qk<(↑Qa.size:Int))/\ ∀b4,Qa[Qk.toNat]? =some b4->Cnd ((57:Int)<(↑b4.toNat:Int)) (K (0:Int) (1:Int)) (InI (Qk+1)/\q6h (Qk+1)))) (Cnd (Qa=B8 []) (K (0:Int) (1:Int)) (((0:Int)<=(0:Int)/\(0:Int)<(↑Qa.size:Int))/\ ∀b2,Qa[Int.toNat (0:Int)]? =some b2->Cnd ((↑b2.toNat:Int)=48) (Cnd (s=B8 [48]) (Cnd ((13:Int)<(↑Qa.size:Int)) (K (0:Int) (3:Int)) (Lp2 (fun Qg Up v07=>Cnd (Up<(↑Qa.size:Int)) (InI ((10:Int)*Qg)/\((0:Int)<=Up/\Up<(↑Qa.size:Int))/\ ∀b5,Qa[Up.toNat]? =some b5->InI (Go.IntKind.u8.wrap ((↑b5.toNat:Int) - 48))/\InI ((10:Int)*Qg+Go.IntKind.u8.wrap ((↑b5.toNat:Int) - 48))/\InI (Up+1)/\v07 ((10:Int)*Qg+Go.IntKind.u8.wrap ((↑b5.toNat:Int) - 48)) (Up+1)) (Cnd ((1099511627776:Int)<Qg) (K (0:Int) (3:Int)) (Cnd ((↑Qa.size:Int)<(↑s.size:Int)) (InI ((0:Int) - Qg)/\K ((0:Int) - Qg) (0:Int)) (K Qg (0:Int))))) (0:Int) (0:Int))) (K (0:Int) (1:Int))) (Cnd ((13:Int)<(↑Qa.size:Int)) (K (0:Int) (3:Int)) (Lp2 (fun Qg Up v07=>Cnd (Up<(↑Qa.size:Int)) (InI ((10:Int)*Qg)/\((0:Int)<=Up/\Up<(↑Qa.size:Int))/\ ∀b5,Qa[Up.toNat]? =some b5->InI (Go.IntKind.u8.wrap ((↑b5.toNat:Int) - 48))/\InI ((10:Int)*Qg+Go.IntKind.u8.wrap ((↑b5.toNat:Int) - 48))/\InI (Up+1)/\v07 ((10:Int)*Qg+Go.IntKind.u8.wrap ((↑b5.toNat:Int) - 48)) (Up+1)) (Cnd ((1099511627776:Int)<Qg) (K (0:Int) (3:Int)) (Cnd ((↑Qa.size:Int)<(↑s.size:Int)) (InI ((0:Int) - Qg)/\K ((0:Int) - Qg) (0:Int)) (K Qg (0:Int))))) (0:Int) (0:Int)))))) (0:Int)) fun q00=>Cnd ((0:Int)<(↑s.size:Int)) (((0:Int)<=(0:Int)/\(0:Int)<(↑s.size:Int))/\ ∀b1,s[Int.toNat (0:Int)]? =some b1->Cnd ((↑b1.toNat:Int)=45) (((0:Int)<=(1:Int)/\(1:Int)<=(↑s.size:Int)/\(↑s.size:Int)<=(↑s.size:Int))/\q00 (s.extract (Int.toNat (1:Int)) (↑s.size:Int).toNat)) (q00 s)) (q00 s)
abbrev q3c:Type:=ByteArray->(A3->Bool->Prop)->Prop
def j2c(G6:B0):q3c:=fun s K=>LpH (fun (Qa:Int×Int×Int×Int×Int×Int×Int×Int×Unit) Hb=>Cnd (Qa.2.1<3) (Lp1 (fun Qk q6h=>Cnd (Qk<(↑s.size:Int)) (((0:Int)<=Qk/\Qk<(↑s.size:Int))/\ ∀b2,s[Qk.toNat]? =some b2->Cnd ((↑b2.toNat:Int)=46) (((0:Int)<=Qa.1/\Qa.1<=Qk/\Qk<=(↑s.size:Int))/\G6 (s.extract Qa.1.toNat Qk.toNat) fun Qg Up=>Cnd (Up=0) (Cnd (Qg<0) (K ((0:Int),(0:Int),(0:Int)) false) (Cnd ((999999:Int)<Qg) (K ((0:Int),(0:Int),(0:Int)) false) (Cnd (decide (Qa.2.1<2)=decide (Qk<(↑s.size:Int))) (((0:Int)<=Qa.2.1/\Qa.2.1<(↑(3:Nat):Int))/\((True/\(Qa.2.1=(↑(nat_lit 0):Int)->InI (Qk+1)/\InI (Qa.2.1+1)/\Hb (Qk+1,Qa.2.1+1,Qg,Qa.2.2.2.1,Qa.2.2.2.2.1,Qa.2.2.2.2.2.1,Qa.2.2.2.2.2.2.1,Qa.2.2.2.2.2.2.2.1,())))/\(Qa.2.1=(↑(nat_lit 1):Int)->InI (Qk+1)/\InI (Qa.2.1+1)/\Hb (Qk+1,Qa.2.1+1,Qa.2.2.1,Qg,Qa.2.2.2.2.1,Qa.2.2.2.2.2.1,Qa.2.2.2.2.2.2.1,Qa.2.2.2.2.2.2.2.1,())))/\(Qa.2.1=(↑(nat_lit 2):Int)->InI (Qk+1)/\InI (Qa.2.1+1)/\Hb (Qk+1,Qa.2.1+1,Qa.2.2.1,Qa.2.2.2.1,Qg,Qa.2.2.2.2.2.1,Qa.2.2.2.2.2.2.1,Qa.2.2.2.2.2.2.2.1,()))) (K ((0:Int),(0:Int),(0:Int)) false)))) (K ((0:Int),(0:Int),(0:Int)) false)) (InI (Qk+1)/\q6h (Qk+1))) (((0:Int)<=Qa.1/\Qa.1<=Qk/\Qk<=(↑s.size:Int))/\G6 (s.extract Qa.1.toNat Qk.toNat) fun Qh Ut=>Cnd (Ut=0) (Cnd (Qh<0) (K ((0:Int),(0:Int),(0:Int)) false) (Cnd ((999999:Int)<Qh) (K ((0:Int),(0:Int),(0:Int)) false) (Cnd (decide (Qa.2.1<2)=decide (Qk<(↑s.size:Int))) (((0:Int)<=Qa.2.1/\Qa.2.1<(↑(3:Nat):Int))/\((True/\(Qa.2.1=(↑(nat_lit 0):Int)->InI (Qk+1)/\InI (Qa.2.1+1)/\Hb (Qk+1,Qa.2.1+1,Qh,Qa.2.2.2.1,Qa.2.2.2.2.1,Qa.2.2.2.2.2.1,Qa.2.2.2.2.2.2.1,Qa.2.2.2.2.2.2.2.1,())))/\(Qa.2.1=(↑(nat_lit 1):Int)->InI (Qk+1)/\InI (Qa.2.1+1)/\Hb (Qk+1,Qa.2.1+1,Qa.2.2.1,Qh,Qa.2.2.2.2.1,Qa.2.2.2.2.2.1,Qa.2.2.2.2.2.2.1,Qa.2.2.2.2.2.2.2.1,())))/\(Qa.2.1=(↑(nat_lit 2):Int)->InI (Qk+1)/\InI (Qa.2.1+1)/\Hb (Qk+1,Qa.2.1+1,Qa.2.2.1,Qa.2.2.2.1,Qh,Qa.2.2.2.2.2.1,Qa.2.2.2.2.2.2.1,Qa.2.2.2.2.2.2.2.1,()))) (K ((0:Int),(0:Int),(0:Int)) false)))) (K ((0:Int),(0:Int),(0:Int)) false))) Qa.1) (K (Qa.2.2.1,Qa.2.2.2.1,Qa.2.2.2.2.1) true)) ((0:Int),(0:Int),(0:Int),(0:Int),(0:Int),(0:Int),(0:Int),(0:Int),())
def z03:q3c:=j2c G3
abbrev z4u:Type:=List (ByteArray)->(Int->Prop)->Prop
def j6j(Ry:q3b):z4u:=fun l K=>Fits l->Cnd ((20:Int)<(↑l.length:Int)) (K (5:Int)) (Lp1 (fun Qk q6h=>Fits l->CAt l Qk (fun y3=>Ry y3 fun Qr=>Cnd (Qr=true) (InI (Qk+1)/\q6h (Qk+1)) (K (2:Int))) (Lp1 (fun Qd z7h=>Fits l->CAt l Qd (fun y5=>InI (Qd - 1)/\((0:Int)<=Qd - 1/\Qd - 1<(↑l.length:Int))/\ ∀y7,l[(Qd - 1).toNat]? =some y7->Cnd (Lk.blt y7 y5) (InI (Qd+1)/\z7h (Qd+1)) (K (9:Int))) (K (0:Int))) (1:Int))) (0:Int))
def z91:z4u:=j6j z02
abbrev z04:Type:=Val->(Int->Prop)->Prop
def j2d(z63:z6g)(Ry:q3b)(Hc:q3c)(j1g:z4u):z04:=fun v K=>Cnd (v.1<1) (K (7:Int)) (Cnd ((5:Int)<v.1) (K (7:Int)) (z63 v fun Qa=>Cnd (Qa=true) (Cnd (v.1=1) (Cnd (v.2=0) (K (0:Int)) (Cnd (v.2=1) (K (0:Int)) (K (3:Int)))) (Cnd (v.1=2) (Cnd (v.2<(-1099511627776:Int)) (K (3:Int)) (Cnd ((1099511627776:Int)<v.2) (K (3:Int)) (K (0:Int)))) (Cnd (v.1=3) (Ry v.3 fun Qk=>Cnd (Qk=true) (K (0:Int)) (K (2:Int))) (Cnd (v.1=4) (Hc v.3 fun (Qk:Int×Int×Int) Hq=>Cnd (Hq=true) (K (0:Int)) (K (1:Int))) (Cnd (v.1=5) (j1g v.4 fun Qk=>K Qk) (K (0:Int))))))) (K (15:Int))))
def z6i:z04:=j2d z6h z02 z03 z91
abbrev z92:Type:=Bool->Bool->(Int->Prop)->Prop
def z05:z92:=fun less greater K=>Cnd (less=true) (K (-1:Int)) (Cnd (greater=true) (K (1:Int)) (K (0:Int)))
abbrev q4i:Type:=Val->Val->(Int->Int->Prop)->Prop
def z4v(z1e:z04)(Qb:z92)(Hc:q3c):q4i:=fun a b K=>z1e a fun Qa=>Cnd (Qa=0) (z1e b fun Qk=>Cnd (Qk=0) (Cnd (a.1=b.1) (Cnd (a.1=1) (K (0:Int) (8:Int)) (Cnd (a.1=5) (K (0:Int) (8:Int)) (Cnd (a.1=2) (Qb (decide (a.2<b.2)) (decide (b.2<a.2)) fun Qh=>K Qh (0:Int)) (Cnd (a.1=3) (Qb (decide (Lk.blt a.3 b.3)) (decide (Lk.blt b.3 a.3)) fun Qh=>K Qh (0:Int)) (Hc a.3 fun (Qh:Int×Int×Int) Ut=>Hc b.3 fun (Qd:Int×Int×Int) Uq=>Lp1 (fun Qg w62=>Cnd (Qg<3) (((0:Int)<=Qg/\Qg<(↑(3:Nat):Int))/\((True/\(Qg=(↑(nat_lit 0):Int)->((0:Int)<=Qg/\Qg<(↑(3:Nat):Int))/\((True/\(Qg=(↑(nat_lit 0):Int)->Cnd (Qh.1=Qd.1) (InI (Qg+1)/\w62 (Qg+1)) (((0:Int)<=Qg/\Qg<(↑(3:Nat):Int))/\((True/\(Qg=(↑(nat_lit 0):Int)->((0:Int)<=Qg/\Qg<(↑(3:Nat):Int))/\((True/\(Qg=(↑(nat_lit 0):Int)->Qb (decide (Qh.1<Qd.1)) true fun Qo=>K Qo (0:Int)))/\(Qg=(↑(nat_lit 1):Int)->Qb (decide (Qh.1<Qd.2.1)) true fun Qo=>K Qo (0:Int)))/\(Qg=(↑(nat_lit 2):Int)->Qb (decide (Qh.1<Qd.2.2)) true fun Qo=>K Qo (0:Int))))/\(Qg=(↑(nat_lit 1):Int)->((0:Int)<=Qg/\Qg<(↑(3:Nat):Int))/\((True/\(Qg=(↑(nat_lit 0):Int)->Qb (decide (Qh.2.1<Qd.1)) true fun Qo=>K Qo (0:Int)))/\(Qg=(↑(nat_lit 1):Int)->Qb (decide (Qh.2.1<Qd.2.1)) true fun Qo=>K Qo (0:Int)))/\(Qg=(↑(nat_lit 2):Int)->Qb (decide (Qh.2.1<Qd.2.2)) true fun Qo=>K Qo (0:Int))))/\(Qg=(↑(nat_lit 2):Int)->((0:Int)<=Qg/\Qg<(↑(3:Nat):Int))/\((True/\(Qg=(↑(nat_lit 0):Int)->Qb (decide (Qh.2.2<Qd.1)) true fun Qo=>K Qo (0:Int)))/\(Qg=(↑(nat_lit 1):Int)->Qb (decide (Qh.2.2<Qd.2.1)) true fun Qo=>K Qo (0:Int)))/\(Qg=(↑(nat_lit 2):Int)->Qb (decide (Qh.2.2<Qd.2.2)) true fun Qo=>K Qo (0:Int))))))/\(Qg=(↑(nat_lit 1):Int)->Cnd (Qh.1=Qd.2.1) (InI (Qg+1)/\w62 (Qg+1)) (((0:Int)<=Qg/\Qg<(↑(3:Nat):Int))/\((True/\(Qg=(↑(nat_lit 0):Int)->((0:Int)<=Qg/\Qg<(↑(3:Nat):Int))/\((True/\(Qg=(↑(nat_lit 0):Int)->Qb (decide (Qh.1<Qd.1)) true fun Qo=>K Qo (0:Int)))/\(Qg=(↑(nat_lit 1):Int)->Qb (decide (Qh.1<Qd.2.1)) true fun Qo=>K Qo (0:Int)))/\(Qg=(↑(nat_lit 2):Int)->Qb (decide (Qh.1<Qd.2.2)) true fun Qo=>K Qo (0:Int))))/\(Qg=(↑(nat_lit 1):Int)->((0:Int)<=Qg/\Qg<(↑(3:Nat):Int))/\((True/\(Qg=(↑(nat_lit 0):Int)->Qb (decide (Qh.2.1<Qd.1)) true fun Qo=>K Qo (0:Int)))/\(Qg=(↑(nat_lit 1):Int)->Qb (decide (Qh.2.1<Qd.2.1)) true fun Qo=>K Qo (0:Int)))/\(Qg=(↑(nat_lit 2):Int)->Qb (decide (Qh.2.1<Qd.2.2)) true fun Qo=>K Qo (0:Int))))/\(Qg=(↑(nat_lit 2):Int)->((0:Int)<=Qg/\Qg<(↑(3:Nat):Int))/\((True/\(Qg=(↑(nat_lit 0):Int)->Qb (decide (Qh.2.2<Qd.1)) true fun Qo=>K Qo (0:Int)))/\(Qg=(↑(nat_lit 1):Int)->Qb (decide (Qh.2.2<Qd.2.1)) true fun Qo=>K Qo (0:Int)))/\(Qg=(↑(nat_lit 2):Int)->Qb (decide (Qh.2.2<Qd.2.2)) true fun Qo=>K Qo (0:Int))))))/\(Qg=(↑(nat_lit 2):Int)->Cnd (Qh.1=Qd.2.2) (InI (Qg+1)/\w62 (Qg+1)) (((0:Int)<=Qg/\Qg<(↑(3:Nat):Int))/\((True/\(Qg=(↑(nat_lit 0):Int)->((0:Int)<=Qg/\Qg<(↑(3:Nat):Int))/\((True/\(Qg=(↑(nat_lit 0):Int)->Qb (decide (Qh.1<Qd.1)) true fun Qo=>K Qo (0:Int)))/\(Qg=(↑(nat_lit 1):Int)->Qb (decide (Qh.1<Qd.2.1)) true fun Qo=>K Qo (0:Int)))/\(Qg=(↑(nat_lit 2):Int)->Qb (decide (Qh.1<Qd.2.2)) true fun Qo=>K Qo (0:Int))))/\(Qg=(↑(nat_lit 1):Int)->((0:Int)<=Qg/\Qg<(↑(3:Nat):Int))/\((True/\(Qg=(↑(nat_lit 0):Int)->Qb (decide (Qh.2.1<Qd.1)) true fun Qo=>K Qo (0:Int)))/\(Qg=(↑(nat_lit 1):Int)->Qb (decide (Qh.2.1<Qd.2.1)) true fun Qo=>K Qo (0:Int)))/\(Qg=(↑(nat_lit 2):Int)->Qb (decide (Qh.2.1<Qd.2.2)) true fun Qo=>K Qo (0:Int))))/\(Qg=(↑(nat_lit 2):Int)->((0:Int)<=Qg/\Qg<(↑(3:Nat):Int))/\((True/\(Qg=(↑(nat_lit 0):Int)->Qb (decide (Qh.2.2<Qd.1)) true fun Qo=>K Qo (0:Int)))/\(Qg=(↑(nat_lit 1):Int)->Qb (decide (Qh.2.2<Qd.2.1)) true fun Qo=>K Qo (0:Int)))/\(Qg=(↑(nat_lit 2):Int)->Qb (decide (Qh.2.2<Qd.2.2)) true fun Qo=>K Qo (0:Int)))))))/\(Qg=(↑(nat_lit 1):Int)->((0:Int)<=Qg/\Qg<(↑(3:Nat):Int))/\((True/\(Qg=(↑(nat_lit 0):Int)->Cnd (Qh.2.1=Qd.1) (InI (Qg+1)/\w62 (Qg+1)) (((0:Int)<=Qg/\Qg<(↑(3:Nat):Int))/\((True/\(Qg=(↑(nat_lit 0):Int)->((0:Int)<=Qg/\Qg<(↑(3:Nat):Int))/\((True/\(Qg=(↑(nat_lit 0):Int)->Qb (decide (Qh.1<Qd.1)) true fun Qo=>K Qo (0:Int)))/\(Qg=(↑(nat_lit 1):Int)->Qb (decide (Qh.1<Qd.2.1)) true fun Qo=>K Qo (0:Int)))/\(Qg=(↑(nat_lit 2):Int)->Qb (decide (Qh.1<Qd.2.2)) true fun Qo=>K Qo (0:Int))))/\(Qg=(↑(nat_lit 1):Int)->((0:Int)<=Qg/\Qg<(↑(3:Nat):Int))/\((True/\(Qg=(↑(nat_lit 0):Int)->Qb (decide (Qh.2.1<Qd.1)) true fun Qo=>K Qo (0:Int)))/\(Qg=(↑(nat_lit 1):Int)->Qb (decide (Qh.2.1<Qd.2.1)) true fun Qo=>K Qo (0:Int)))/\(Qg=(↑(nat_lit 2):Int)->Qb (decide (Qh.2.1<Qd.2.2)) true fun Qo=>K Qo (0:Int))))/\(Qg=(↑(nat_lit 2):Int)->((0:Int)<=Qg/\Qg<(↑(3:Nat):Int))/\((True/\(Qg=(↑(nat_lit 0):Int)->Qb (decide (Qh.2.2<Qd.1)) true fun Qo=>K Qo (0:Int)))/\(Qg=(↑(nat_lit 1):Int)->Qb (decide (Qh.2.2<Qd.2.1)) true fun Qo=>K Qo (0:Int)))/\(Qg=(↑(nat_lit 2):Int)->Qb (decide (Qh.2.2<Qd.2.2)) true fun Qo=>K Qo (0:Int))))))/\(Qg=(↑(nat_lit 1):Int)->Cnd (Qh.2.1=Qd.2.1) (InI (Qg+1)/\w62 (Qg+1)) (((0:Int)<=Qg/\Qg<(↑(3:Nat):Int))/\((True/\(Qg=(↑(nat_lit 0):Int)->((0:Int)<=Qg/\Qg<(↑(3:Nat):Int))/\((True/\(Qg=(↑(nat_lit 0):Int)->Qb (decide (Qh.1<Qd.1)) true fun Qo=>K Qo (0:Int)))/\(Qg=(↑(nat_lit 1):Int)->Qb (decide (Qh.1<Qd.2.1)) true fun Qo=>K Qo (0:Int)))/\(Qg=(↑(nat_lit 2):Int)->Qb (decide (Qh.1<Qd.2.2)) true fun Qo=>K Qo (0:Int))))/\(Qg=(↑(nat_lit 1):Int)->((0:Int)<=Qg/\Qg<(↑(3:Nat):Int))/\((True/\(Qg=(↑(nat_lit 0):Int)->Qb (decide (Qh.2.1<Qd.1)) true fun Qo=>K Qo (0:Int)))/\(Qg=(↑(nat_lit 1):Int)->Qb (decide (Qh.2.1<Qd.2.1)) true fun Qo=>K Qo (0:Int)))/\(Qg=(↑(nat_lit 2):Int)->Qb (decide (Qh.2.1<Qd.2.2)) true fun Qo=>K Qo (0:Int))))/\(Qg=(↑(nat_lit 2):Int)->((0:Int)<=Qg/\Qg<(↑(3:Nat):Int))/\((True/\(Qg=(↑(nat_lit 0):Int)->Qb (decide (Qh.2.2<Qd.1)) true fun Qo=>K Qo (0:Int)))/\(Qg=(↑(nat_lit 1):Int)->Qb (decide (Qh.2.2<Qd.2.1)) true fun Qo=>K Qo (0:Int)))/\(Qg=(↑(nat_lit 2):Int)->Qb (decide (Qh.2.2<Qd.2.2)) true fun Qo=>K Qo (0:Int))))))/\(Qg=(↑(nat_lit 2):Int)->Cnd (Qh.2.1=Qd.2.2) (InI (Qg+1)/\w62 (Qg+1)) (((0:Int)<=Qg/\Qg<(↑(3:Nat):Int))/\((True/\(Qg=(↑(nat_lit 0):Int)->((0:Int)<=Qg/\Qg<(↑(3:Nat):Int))/\((True/\(Qg=(↑(nat_lit 0):Int)->Qb (decide (Qh.1<Qd.1)) true fun Qo=>K Qo (0:Int)))/\(Qg=(↑(nat_lit 1):Int)->Qb (decide (Qh.1<Qd.2.1)) true fun Qo=>K Qo (0:Int)))/\(Qg=(↑(nat_lit 2):Int)->Qb (decide (Qh.1<Qd.2.2)) true fun Qo=>K Qo (0:Int))))/\(Qg=(↑(nat_lit 1):Int)->((0:Int)<=Qg/\Qg<(↑(3:Nat):Int))/\((True/\(Qg=(↑(nat_lit 0):Int)->Qb (decide (Qh.2.1<Qd.1)) true fun Qo=>K Qo (0:Int)))/\(Qg=(↑(nat_lit 1):Int)->Qb (decide (Qh.2.1<Qd.2.1)) true fun Qo=>K Qo (0:Int)))/\(Qg=(↑(nat_lit 2):Int)->Qb (decide (Qh.2.1<Qd.2.2)) true fun Qo=>K Qo (0:Int))))/\(Qg=(↑(nat_lit 2):Int)->((0:Int)<=Qg/\Qg<(↑(3:Nat):Int))/\((True/\(Qg=(↑(nat_lit 0):Int)->Qb (decide (Qh.2.2<Qd.1)) true fun Qo=>K Qo (0:Int)))/\(Qg=(↑(nat_lit 1):Int)->Qb (decide (Qh.2.2<Qd.2.1)) true fun Qo=>K Qo (0:Int)))/\(Qg=(↑(nat_lit 2):Int)->Qb (decide (Qh.2.2<Qd.2.2)) true fun Qo=>K Qo (0:Int)))))))/\(Qg=(↑(nat_lit 2):Int)->((0:Int)<=Qg/\Qg<(↑(3:Nat):Int))/\((True/\(Qg=(↑(nat_lit 0):Int)->Cnd (Qh.2.2=Qd.1) (InI (Qg+1)/\w62 (Qg+1)) (((0:Int)<=Qg/\Qg<(↑(3:Nat):Int))/\((True/\(Qg=(↑(nat_lit 0):Int)->((0:Int)<=Qg/\Qg<(↑(3:Nat):Int))/\((True/\(Qg=(↑(nat_lit 0):Int)->Qb (decide (Qh.1<Qd.1)) true fun Qo=>K Qo (0:Int)))/\(Qg=(↑(nat_lit 1):Int)->Qb (decide (Qh.1<Qd.2.1)) true fun Qo=>K Qo (0:Int)))/\(Qg=(↑(nat_lit 2):Int)->Qb (decide (Qh.1<Qd.2.2)) true fun Qo=>K Qo (0:Int))))/\(Qg=(↑(nat_lit 1):Int)->((0:Int)<=Qg/\Qg<(↑(3:Nat):Int))/\((True/\(Qg=(↑(nat_lit 0):Int)->Qb (decide (Qh.2.1<Qd.1)) true fun Qo=>K Qo (0:Int)))/\(Qg=(↑(nat_lit 1):Int)->Qb (decide (Qh.2.1<Qd.2.1)) true fun Qo=>K Qo (0:Int)))/\(Qg=(↑(nat_lit 2):Int)->Qb (decide (Qh.2.1<Qd.2.2)) true fun Qo=>K Qo (0:Int))))/\(Qg=(↑(nat_lit 2):Int)->((0:Int)<=Qg/\Qg<(↑(3:Nat):Int))/\((True/\(Qg=(↑(nat_lit 0):Int)->Qb (decide (Qh.2.2<Qd.1)) true fun Qo=>K Qo (0:Int)))/\(Qg=(↑(nat_lit 1):Int)->Qb (decide (Qh.2.2<Qd.2.1)) true fun Qo=>K Qo (0:Int)))/\(Qg=(↑(nat_lit 2):Int)->Qb (decide (Qh.2.2<Qd.2.2)) true fun Qo=>K Qo (0:Int))))))/\(Qg=(↑(nat_lit 1):Int)->Cnd (Qh.2.2=Qd.2.1) (InI (Qg+1)/\w62 (Qg+1)) (((0:Int)<=Qg/\Qg<(↑(3:Nat):Int))/\((True/\(Qg=(↑(nat_lit 0):Int)->((0:Int)<=Qg/\Qg<(↑(3:Nat):Int))/\((True/\(Qg=(↑(nat_lit 0):Int)->Qb (decide (Qh.1<Qd.1)) true fun Qo=>K Qo (0:Int)))/\(Qg=(↑(nat_lit 1):Int)->Qb (decide (Qh.1<Qd.2.1)) true fun Qo=>K Qo (0:Int)))/\(Qg=(↑(nat_lit 2):Int)->Qb (decide (Qh.1<Qd.2.2)) true fun Qo=>K Qo (0:Int))))/\(Qg=(↑(nat_lit 1):Int)->((0:Int)<=Qg/\Qg<(↑(3:Nat):Int))/\((True/\(Qg=(↑(nat_lit 0):Int)->Qb (decide (Qh.2.1<Qd.1)) true fun Qo=>K Qo (0:Int)))/\(Qg=(↑(nat_lit 1):Int)->Qb (decide (Qh.2.1<Qd.2.1)) true fun Qo=>K Qo (0:Int)))/\(Qg=(↑(nat_lit 2):Int)->Qb (decide (Qh.2.1<Qd.2.2)) true fun Qo=>K Qo (0:Int))))/\(Qg=(↑(nat_lit 2):Int)->((0:Int)<=Qg/\Qg<(↑(3:Nat):Int))/\((True/\(Qg=(↑(nat_lit 0):Int)->Qb (decide (Qh.2.2<Qd.1)) true fun Qo=>K Qo (0:Int)))/\(Qg=(↑(nat_lit 1):Int)->Qb (decide (Qh.2.2<Qd.2.1)) true fun Qo=>K Qo (0:Int)))/\(Qg=(↑(nat_lit 2):Int)->Qb (decide (Qh.2.2<Qd.2.2)) true fun Qo=>K Qo (0:Int))))))/\(Qg=(↑(nat_lit 2):Int)->Cnd (Qh.2.2=Qd.2.2) (InI (Qg+1)/\w62 (Qg+1)) (((0:Int)<=Qg/\Qg<(↑(3:Nat):Int))/\((True/\(Qg=(↑(nat_lit 0):Int)->((0:Int)<=Qg/\Qg<(↑(3:Nat):Int))/\((True/\(Qg=(↑(nat_lit 0):Int)->Qb (decide (Qh.1<Qd.1)) true fun Qo=>K Qo (0:Int)))/\(Qg=(↑(nat_lit 1):Int)->Qb (decide (Qh.1<Qd.2.1)) true fun Qo=>K Qo (0:Int)))/\(Qg=(↑(nat_lit 2):Int)->Qb (decide (Qh.1<Qd.2.2)) true fun Qo=>K Qo (0:Int))))/\(Qg=(↑(nat_lit 1):Int)->((0:Int)<=Qg/\Qg<(↑(3:Nat):Int))/\((True/\(Qg=(↑(nat_lit 0):Int)->Qb (decide (Qh.2.1<Qd.1)) true fun Qo=>K Qo (0:Int)))/\(Qg=(↑(nat_lit 1):Int)->Qb (decide (Qh.2.1<Qd.2.1)) true fun Qo=>K Qo (0:Int)))/\(Qg=(↑(nat_lit 2):Int)->Qb (decide (Qh.2.1<Qd.2.2)) true fun Qo=>K Qo (0:Int))))/\(Qg=(↑(nat_lit 2):Int)->((0:Int)<=Qg/\Qg<(↑(3:Nat):Int))/\((True/\(Qg=(↑(nat_lit 0):Int)->Qb (decide (Qh.2.2<Qd.1)) true fun Qo=>K Qo (0:Int)))/\(Qg=(↑(nat_lit 1):Int)->Qb (decide (Qh.2.2<Qd.2.1)) true fun Qo=>K Qo (0:Int)))/\(Qg=(↑(nat_lit 2):Int)->Qb (decide (Qh.2.2<Qd.2.2)) true fun Qo=>K Qo (0:Int))))))) (K (0:Int) (0:Int))) (0:Int)))))) (K (0:Int) (8:Int))) (K (0:Int) Qk)) (K (0:Int) Qa)
def q4j:q4i:=z4v z6i z05 z03
abbrev z6j:Type:=Subj->Ex->(Bool->Prop)->Prop
def j2e(Gn:q0l)(z3l:z2e)(q66:z00)(W4:q0v)(Bo:Bh)(q4p:q4i):z6j:=fun s e K=>Gn (Subj.mk s.1) e.2 e.3 fun Qa Jm=>Cnd (Jm=true) (z3l e.1 fun Qk=>Cnd (Qk=true) (Cnd (e.1=6) (K true) (Cnd (e.1=8) (Lp1 (fun Qh z3i=>Fits e.4->CAt e.4 Qh (fun y4=>q66 Qa y4 fun Zc=>Cnd (Zc=true) (K true) (InI (Qh+1)/\z3i (Qh+1))) (K false)) (0:Int)) (Fits e.4->Cnd ((↑e.4.length:Int)=0) (K false) (((0:Int)<=(0:Int)/\(0:Int)<(↑e.4.length:Int))/\ ∀y3,e.4[Int.toNat (0:Int)]? =some y3->Cnd (Qa.1=3) (Cnd (e.1=7) (q66 Qa y3 fun Qr=>K Qr) (Cnd (e.1=9) (Cnd (y3.1=3) (W4 Qa.3 y3.3 (0:Int) fun Qr=>K Qr) (K false)) (Cnd (e.1=10) (Cnd (y3.1=3) (InI ((↑Qa.3.size:Int) - (↑y3.3.size:Int))/\W4 Qa.3 y3.3 ((↑Qa.3.size:Int) - (↑y3.3.size:Int)) fun Qr=>K Qr) (K false)) (Cnd (e.1=11) (Bo Qa y3 fun Qr=>K Qr) (q4p Qa y3 fun Qr q20=>Cnd (q20=0) (Cnd (e.1=12) (K (decide (Qr<0))) (Cnd (e.1=13) (K (decide (Qr<=0))) (Cnd (e.1=14) (K (decide ((0:Int)<Qr))) (K (decide ((0:Int)<=Qr)))))) (K false)))))) (Cnd (e.1=7) (q66 Qa y3 fun Qr=>K Qr) (Cnd (e.1=9) (K false) (Cnd (e.1=10) (K false) (Cnd (e.1=11) (Bo Qa y3 fun Qr=>K Qr) (q4p Qa y3 fun Qr q20=>Cnd (q20=0) (Cnd (e.1=12) (K (decide (Qr<0))) (Cnd (e.1=13) (K (decide (Qr<=0))) (Cnd (e.1=14) (K (decide ((0:Int)<Qr))) (K (decide ((0:Int)<=Qr)))))) (K false)))))))))) (K false)) (K false)
def q62:z6j:=j2e q7y z2f z01 q4h q3t q4j
abbrev G9:Type:=Subj->List (ByteArray)->Ex->(Bool->Prop)->Prop
def j2f(Qz:Ws)(v3g:z6j)(X:G9):G9:=fun s in_ e K=>Cnd (e.1=1) (K true) (Cnd (e.1=2) (Lp1 (fun Qa Hb=>Fits e.5->CAt e.5 Qa (fun y2=>X (Subj.mk s.1) in_ (Ex.mk y2.1 y2.2 y2.3 y2.4 y2.5) fun Qg=>Cnd (Qg=true) (InI (Qa+1)/\Hb (Qa+1)) (K false)) (K true)) (0:Int)) (Cnd (e.1=3) (Lp1 (fun Qa Hb=>Fits e.5->CAt e.5 Qa (fun y2=>X (Subj.mk s.1) in_ (Ex.mk y2.1 y2.2 y2.3 y2.4 y2.5) fun Qg=>Cnd (Qg=true) (K true) (InI (Qa+1)/\Hb (Qa+1))) (K false)) (0:Int)) (Cnd (e.1=4) (Fits e.5->Cnd ((0:Int)<(↑e.5.length:Int)) (((0:Int)<=(0:Int)/\(0:Int)<(↑e.5.length:Int))/\ ∀y1,e.5[Int.toNat (0:Int)]? =some y1->X (Subj.mk s.1) in_ (Ex.mk y1.1 y1.2 y1.3 y1.4 y1.5) fun Qd=>K (match decide ((Qd,()).1=true) with|true=>false|false=>true)) (K false)) (Cnd (e.1=5) (Qz in_ e.3 fun Qa=>K Qa) (v3g (Subj.mk s.1) (Ex.mk e.1 e.2 e.3 e.4 e.5) fun Qa=>K Qa)))))
def q0w:G9:=fun s in_ e K=> ∀X:G9,(∀s in_ e K,j2f Hk q62 X s in_ e K->X s in_ e K)->X s in_ e K
abbrev q4k:Type:=Seg->Subj->List (ByteArray)->(Bool->Prop)->Prop
def z4w(Zg:V1)(Qz:Ws)(Uo:G9):q4k:=fun g s in_ K=>Zg (Subj.mk s.1) g.2 fun Qa Jm=>Cnd (Jm=true) (Qz g.4 Qa.2 fun Qk=>Cnd (Qk=true) (K false) (Qz g.3 Qa.2 fun Qh=>Cnd (Qh=true) (K true) (Cnd (g.5.1=0) (K false) (Uo (Subj.mk s.1) in_ (Ex.mk g.5.1 g.5.2 g.5.3 g.5.4 g.5.5) fun Qd=>K Qd)))) (K false)
def q83:q4k:=z4w q16 Hk q0w
abbrev Gb:Type:=List (Seg)->Subj->(List (ByteArray)->Prop)->Prop
def z2g(z3m:q7x)(q9p:q4k)(q2z:z2b):Gb:=fun l s K=>z3m l fun Qa _=>Lp2 (fun Qk Hq w60=>Fits Qa->Cnd (Hq<(↑Qa.length:Int)) (Lp2 (fun Qd Uq j4z=>Fits l->CAt l Uq (fun y5=>At Qa Hq fun y7=>Cnd (y5.1=y7) (At l Uq fun y9=>q9p (Seg.mk y9.1 y9.2 y9.3 y9.4 (Ex.mk y9.5.1 y9.5.2 y9.5.3 y9.5.4 y9.5.5)) (Subj.mk s.1) Qd fun q4o=>Cnd (q4o=true) (At Qa Hq fun y12=>q2z Qd y12 fun Jn=>InI (Uq+1)/\j4z Jn (Uq+1)) (InI (Uq+1)/\j4z Qd (Uq+1))) (InI (Uq+1)/\j4z Qd (Uq+1))) (InI (Hq+1)/\w60 Qd (Hq+1))) Qk (0:Int)) (K Qk)) [] (0:Int)
def Rq:Gb:=z2g z2d q83 q8z
abbrev q7z:Type:=Envt->Subj->List (Frc)->(ByteArray->ByteArray->Int->List (Decl)->List (Seg)->List (Flg)->List (Lay_)->List (Exper)->List (Ctxt)->List (Frc)->List (ByteArray)->List (Bool)->List (Dcs)->Prop)->Prop
def z8e(Z4:Gb):q7z:=fun v s forced K=>Fits v.4->Fits v.4->(Z4 v.3 (Subj.mk s.1) fun Qh=>(((0:Int)<=(↑v.4.length:Int)/\(↑v.4.length:Int)<=(↑v.4.length:Int)/\Sml (↑v.4.length:Int).toNat)/\((0:Int)<=(↑v.4.length:Int)/\(↑v.4.length:Int)<=(↑v.4.length:Int)/\Sml (↑v.4.length:Int).toNat)/\K v.1.1 v.1.2 v.1.3 v.2 v.3 v.4 v.5 v.6 s.1 forced Qh (List.replicate (↑v.4.length:Int).toNat false) (List.replicate (↑v.4.length:Int).toNat (Dcs.mk (B8 []) (0:Int) (Val.mk (0:Int) (0:Int) (B8 []) []) (Rsn.mk (0:Int) (0:Int) (B8 []) (0:Int)) (0:Int))))/\((0:Int)<=(↑v.4.length:Int)/\(↑v.4.length:Int)<=(↑v.4.length:Int)/\Sml (↑v.4.length:Int).toNat)/\((0:Int)<=(↑v.4.length:Int)/\(↑v.4.length:Int)<=(↑v.4.length:Int)/\Sml (↑v.4.length:Int).toNat)/\K v.1.1 v.1.2 v.1.3 v.2 v.3 v.4 v.5 v.6 s.1 forced Qh (List.replicate (↑v.4.length:Int).toNat false) (List.replicate (↑v.4.length:Int).toNat (Dcs.mk (B8 []) (0:Int) (Val.mk (0:Int) (0:Int) (B8 []) []) (Rsn.mk (0:Int) (0:Int) (B8 []) (0:Int)) (0:Int))))/\(((0:Int)<=(↑v.4.length:Int)/\(↑v.4.length:Int)<=(↑v.4.length:Int)/\Sml (↑v.4.length:Int).toNat)/\(Z4 v.3 (Subj.mk s.1) fun Qh=>((0:Int)<=(↑v.4.length:Int)/\(↑v.4.length:Int)<=(↑v.4.length:Int)/\Sml (↑v.4.length:Int).toNat)/\K v.1.1 v.1.2 v.1.3 v.2 v.3 v.4 v.5 v.6 s.1 forced Qh (List.replicate (↑v.4.length:Int).toNat false) (List.replicate (↑v.4.length:Int).toNat (Dcs.mk (B8 []) (0:Int) (Val.mk (0:Int) (0:Int) (B8 []) []) (Rsn.mk (0:Int) (0:Int) (B8 []) (0:Int)) (0:Int))))/\((0:Int)<=(↑v.4.length:Int)/\(↑v.4.length:Int)<=(↑v.4.length:Int)/\Sml (↑v.4.length:Int).toNat)/\Z4 v.3 (Subj.mk s.1) fun Qh=>K v.1.1 v.1.2 v.1.3 v.2 v.3 v.4 v.5 v.6 s.1 forced Qh (List.replicate (↑v.4.length:Int).toNat false) (List.replicate (↑v.4.length:Int).toNat (Dcs.mk (B8 []) (0:Int) (Val.mk (0:Int) (0:Int) (B8 []) []) (Rsn.mk (0:Int) (0:Int) (B8 []) (0:Int)) (0:Int))))/\((0:Int)<=(↑v.4.length:Int)/\(↑v.4.length:Int)<=(↑v.4.length:Int)/\Sml (↑v.4.length:Int).toNat)/\(Z4 v.3 (Subj.mk s.1) fun Qh=>((0:Int)<=(↑v.4.length:Int)/\(↑v.4.length:Int)<=(↑v.4.length:Int)/\Sml (↑v.4.length:Int).toNat)/\K v.1.1 v.1.2 v.1.3 v.2 v.3 v.4 v.5 v.6 s.1 forced Qh (List.replicate (↑v.4.length:Int).toNat false) (List.replicate (↑v.4.length:Int).toNat (Dcs.mk (B8 []) (0:Int) (Val.mk (0:Int) (0:Int) (B8 []) []) (Rsn.mk (0:Int) (0:Int) (B8 []) (0:Int)) (0:Int))))/\((0:Int)<=(↑v.4.length:Int)/\(↑v.4.length:Int)<=(↑v.4.length:Int)/\Sml (↑v.4.length:Int).toNat)/\Z4 v.3 (Subj.mk s.1) fun Qh=>K v.1.1 v.1.2 v.1.3 v.2 v.3 v.4 v.5 v.6 s.1 forced Qh (List.replicate (↑v.4.length:Int).toNat false) (List.replicate (↑v.4.length:Int).toNat (Dcs.mk (B8 []) (0:Int) (Val.mk (0:Int) (0:Int) (B8 []) []) (Rsn.mk (0:Int) (0:Int) (B8 []) (0:Int)) (0:Int)))
def z2h:q7z:=z8e Rq
abbrev z06:Type:=Flg->Int->Rsn->(Dcs->Prop)->Prop
def q0x:z06:=fun f variation r K=>Cnd ((1:Int)<=variation) (Fits f.3->Cnd (variation<=(↑f.3.length:Int)) (InI (variation - 1)/\((0:Int)<=variation - 1/\variation - 1<(↑f.3.length:Int))/\ ∀y1,f.3[(variation - 1).toNat]? =some y1->K (Dcs.mk f.1 variation y1 r (0:Int))) (K (Dcs.mk f.1 variation (Val.mk (0:Int) (0:Int) (B8 []) []) r (0:Int)))) (K (Dcs.mk f.1 variation (Val.mk (0:Int) (0:Int) (B8 []) []) r (0:Int)))
abbrev q84:Type:=Flg->Subj->(Int->Prop)->Prop
def z4x(Zg:V1)(Qz:Ws):q84:=fun f s K=>Lp1 (fun Qa Hb=>Fits f.7->CAt f.7 Qa (fun y2=>Zg (Subj.mk s.1) y2.1 fun Qg Up=>Cnd (Up=true) (At f.7 Qa fun y5=>Qz y5.3 Qg.2 fun Qp=>Cnd (Qp=true) (InI (Qa+1)/\K (Qa+1)) (InI (Qa+1)/\Hb (Qa+1))) (InI (Qa+1)/\Hb (Qa+1))) (K (0:Int))) (0:Int)
def q0y:q84:=z4x q16 Hk
abbrev Rr:Type:=Envt->ByteArray->(Int->Prop)->Prop
def q17:Rr:=fun v key K=>Lp1 (fun Qa Hb=>Fits v.5->CAt v.5 Qa (fun y2=>Cnd (y2.1=key) (K Qa) (InI (Qa+1)/\Hb (Qa+1))) (K (-1:Int))) (0:Int)
abbrev q85:Type:=List (Frc)->ByteArray->(Frc->Bool->Prop)->Prop
def q86:q85:=fun l layer K=>Lp4 (fun Qa Jm z4b z7x y5b=>Fits l->CAt l Qa (fun y2=>Cnd (y2.1=layer) (At l Qa fun y4=>K y4 true) (InI (Qa+1)/\y5b (Qa+1) Jm z4b z7x)) (K (Frc.mk (B8 []) (B8 []) (0:Int)) false)) (0:Int) (B8 []) (B8 []) (0:Int)
abbrev Wh:Type:=Envt->ByteArray->(Int->Prop)->Prop
def Wi:Wh:=fun v key K=>Lp1 (fun Qa Hb=>Fits v.6->CAt v.6 Qa (fun y2=>Cnd (y2.1=key) (K Qa) (InI (Qa+1)/\Hb (Qa+1))) (K (-1:Int))) (0:Int)
abbrev q87:Type:=List (Rng)->Int->(Bool->Prop)->Prop
def q88:q87:=fun l arm K=>Lp1 (fun Qa Hb=>Fits l->CAt l Qa (fun y2=>Cnd (y2.3=arm) (K true) (InI (Qa+1)/\Hb (Qa+1))) (K false)) (0:Int)
abbrev q70:Type:=Envt->List (Frc)->Asg->(Asg->Bool->Prop)->Prop
def z8f(q9q:q85)(Z0:Wh)(q9r:q87):q70:=fun v forced a K=>q9q forced a.1 fun Qa Jm=>Cnd (Jm=true) (Cnd (Qa.2=B8 []) (K a Jm) (Z0 (Envt.mk (Sett.mk v.1.1 v.1.2 v.1.3) v.2 v.3 v.4 v.5 v.6) Qa.2 fun Qk=>Cnd (Qk<0) (K a false) (At v.6 Qk fun y2=>Cnd (y2.5=2) (At v.6 Qk fun y4=>Cnd (y4.2=a.1) (At v.6 Qk fun y6=>q9r y6.7 Qa.3 fun Re=>Cnd (Re=true) (K (Asg.mk a.1 Qa.2 a.3 Qa.3 a.5) true) (K a false)) (K a false)) (K a false)))) (K a Jm)
def z2i:q70:=z8f q86 Wi q88
abbrev z07:Type:=Envt->Subj->(Bool->Prop)->Prop
def j2g(Zg:V1)(Zi:U9):z07:=fun v s K=>Zg (Subj.mk s.1) v.1.2 fun Qa Jm=>Cnd (Jm=true) (Cnd ((0:Int)<v.1.3) (Zi v.1.1 Qa.2 fun Qk=>K (decide (Qk<v.1.3))) (K false)) (K false)
def z6k:z07:=j2g q16 q1u
abbrev q89:Type:=List (Spn)->Int->(Bool->Prop)->Prop
def q9a:q89:=fun l bucket K=>Lp1 (fun Qa Hb=>Fits l->CAt l Qa (fun y2=>Cnd (y2.1<=bucket) (At l Qa fun y4=>Cnd (bucket<y4.2) (K true) (InI (Qa+1)/\Hb (Qa+1))) (InI (Qa+1)/\Hb (Qa+1))) (K false)) (0:Int)
abbrev Bi:Type:=Envt->Subj->ByteArray->(Bool->Prop)->Prop
def z0b(Z0:Wh)(Z4:Gb)(Uo:G9):Bi:=fun v s experiment K=>Z0 (Envt.mk (Sett.mk v.1.1 v.1.2 v.1.3) v.2 v.3 v.4 v.5 v.6) experiment fun Qa=>Cnd ((0:Int)<=Qa) (At v.6 Qa fun y1=>Z4 v.3 (Subj.mk s.1) fun Qd=>Uo (Subj.mk s.1) Qd (Ex.mk y1.8.1 y1.8.2 y1.8.3 y1.8.4 y1.8.5) fun Qg=>K Qg) (K false)
def q3u:Bi:=z0b Wi Rq q0w
abbrev z2j:Type:=Envt->Subj->List (Frc)->ByteArray->(Asg->Int->Prop)->Prop
def z8g(Wy:Rr)(Zg:V1)(z3n:q70)(z64:z07)(q4q:q89)(Bp:Bi)(Zi:U9)(Jz:q0u):z2j:=fun v s forced key K=>Wy (Envt.mk (Sett.mk v.1.1 v.1.2 v.1.3) v.2 v.3 v.4 v.5 v.6) key fun Qa=>Cnd (Qa<0) (K (Asg.mk (B8 []) (B8 []) (0:Int) (0:Int) false) (11:Int)) (At v.5 Qa fun y1=>Zg (Subj.mk s.1) y1.2 fun Qd Uq=>Jn1 (fun Qg=>z3n (Envt.mk (Sett.mk v.1.1 v.1.2 v.1.3) v.2 v.3 v.4 v.5 v.6) forced (Asg.mk key (B8 []) Qg (0:Int) false) fun Qr q20=>Cnd (q20=true) (K Qr (0:Int)) (z64 (Envt.mk (Sett.mk v.1.1 v.1.2 v.1.3) v.2 v.3 v.4 v.5 v.6) (Subj.mk s.1) fun Zc=>Cnd (Zc=true) (K (Asg.mk key (B8 []) Qg (0:Int) true) (0:Int)) (Cnd (Uq=true) (Cnd (Qg<y1.4) (K (Asg.mk key (B8 []) Qg (0:Int) true) (0:Int)) (LpH (fun (Qp:Int×ByteArray×ByteArray×Int×Int×Bool×ByteArray×ByteArray×Int×Int×Bool×Unit) (j33:Int×ByteArray×ByteArray×Int×Int×Bool×ByteArray×ByteArray×Int×Int×Bool×Unit->Prop)=>Fits v.6->Cnd (Qp.1<(↑v.6.length:Int)) (Cnd (Uq=true) (At v.6 Qp.1 fun y9=>Cnd (y9.2=key) (Cnd (y9.5=2) (q4q y9.6 Qp.2.2.2.1 fun q4o=>Cnd (q4o=true) (Bp (Envt.mk (Sett.mk v.1.1 v.1.2 v.1.3) v.2 v.3 v.4 v.5 v.6) (Subj.mk s.1) y9.1 fun Jd=>Cnd (Jd=true) (Zi y9.4 Qd.2 fun j8m=>Jz y9.7 j8m fun Jn=>K (Asg.mk Qp.2.1 y9.1 Qp.2.2.2.1 Jn Qp.2.2.2.2.2.1) (0:Int)) (InI (Qp.1+1)/\j33 (Qp.1+1,Qp.2.1,Qp.2.2.1,Qp.2.2.2.1,Qp.2.2.2.2.1,Qp.2.2.2.2.2.1,Qp.2.2.2.2.2.2.1,Qp.2.2.2.2.2.2.2.1,Qp.2.2.2.2.2.2.2.2.1,Qp.2.2.2.2.2.2.2.2.2.1,Qp.2.2.2.2.2.2.2.2.2.2.1,()))) (InI (Qp.1+1)/\j33 (Qp.1+1,Qp.2.1,Qp.2.2.1,Qp.2.2.2.1,Qp.2.2.2.2.1,Qp.2.2.2.2.2.1,Qp.2.2.2.2.2.2.1,Qp.2.2.2.2.2.2.2.1,Qp.2.2.2.2.2.2.2.2.1,Qp.2.2.2.2.2.2.2.2.2.1,Qp.2.2.2.2.2.2.2.2.2.2.1,()))) (InI (Qp.1+1)/\j33 (Qp.1+1,Qp.2.1,Qp.2.2.1,Qp.2.2.2.1,Qp.2.2.2.2.1,Qp.2.2.2.2.2.1,Qp.2.2.2.2.2.2.1,Qp.2.2.2.2.2.2.2.1,Qp.2.2.2.2.2.2.2.2.1,Qp.2.2.2.2.2.2.2.2.2.1,Qp.2.2.2.2.2.2.2.2.2.2.1,()))) (InI (Qp.1+1)/\j33 (Qp.1+1,Qp.2.1,Qp.2.2.1,Qp.2.2.2.1,Qp.2.2.2.2.1,Qp.2.2.2.2.2.1,Qp.2.2.2.2.2.2.1,Qp.2.2.2.2.2.2.2.1,Qp.2.2.2.2.2.2.2.2.1,Qp.2.2.2.2.2.2.2.2.2.1,Qp.2.2.2.2.2.2.2.2.2.2.1,()))) (K (Asg.mk Qp.2.1 Qp.2.2.1 Qp.2.2.2.1 Qp.2.2.2.2.1 Qp.2.2.2.2.2.1) (0:Int))) (K (Asg.mk Qp.2.1 Qp.2.2.1 Qp.2.2.2.1 Qp.2.2.2.2.1 Qp.2.2.2.2.2.1) (0:Int))) ((0:Int),key,B8 [],Qg,(0:Int),false,B8 [],B8 [],(0:Int),(0:Int),false,()))) (LpH (fun (Qp:Int×ByteArray×ByteArray×Int×Int×Bool×ByteArray×ByteArray×Int×Int×Bool×Unit) (j33:Int×ByteArray×ByteArray×Int×Int×Bool×ByteArray×ByteArray×Int×Int×Bool×Unit->Prop)=>Fits v.6->Cnd (Qp.1<(↑v.6.length:Int)) (Cnd (Uq=true) (At v.6 Qp.1 fun y9=>Cnd (y9.2=key) (Cnd (y9.5=2) (q4q y9.6 Qp.2.2.2.1 fun q4o=>Cnd (q4o=true) (Bp (Envt.mk (Sett.mk v.1.1 v.1.2 v.1.3) v.2 v.3 v.4 v.5 v.6) (Subj.mk s.1) y9.1 fun Jd=>Cnd (Jd=true) (Zi y9.4 Qd.2 fun j8m=>Jz y9.7 j8m fun Jn=>K (Asg.mk Qp.2.1 y9.1 Qp.2.2.2.1 Jn Qp.2.2.2.2.2.1) (0:Int)) (InI (Qp.1+1)/\j33 (Qp.1+1,Qp.2.1,Qp.2.2.1,Qp.2.2.2.1,Qp.2.2.2.2.1,Qp.2.2.2.2.2.1,Qp.2.2.2.2.2.2.1,Qp.2.2.2.2.2.2.2.1,Qp.2.2.2.2.2.2.2.2.1,Qp.2.2.2.2.2.2.2.2.2.1,Qp.2.2.2.2.2.2.2.2.2.2.1,()))) (InI (Qp.1+1)/\j33 (Qp.1+1,Qp.2.1,Qp.2.2.1,Qp.2.2.2.1,Qp.2.2.2.2.1,Qp.2.2.2.2.2.1,Qp.2.2.2.2.2.2.1,Qp.2.2.2.2.2.2.2.1,Qp.2.2.2.2.2.2.2.2.1,Qp.2.2.2.2.2.2.2.2.2.1,Qp.2.2.2.2.2.2.2.2.2.2.1,()))) (InI (Qp.1+1)/\j33 (Qp.1+1,Qp.2.1,Qp.2.2.1,Qp.2.2.2.1,Qp.2.2.2.2.1,Qp.2.2.2.2.2.1,Qp.2.2.2.2.2.2.1,Qp.2.2.2.2.2.2.2.1,Qp.2.2.2.2.2.2.2.2.1,Qp.2.2.2.2.2.2.2.2.2.1,Qp.2.2.2.2.2.2.2.2.2.2.1,()))) (InI (Qp.1+1)/\j33 (Qp.1+1,Qp.2.1,Qp.2.2.1,Qp.2.2.2.1,Qp.2.2.2.2.1,Qp.2.2.2.2.2.1,Qp.2.2.2.2.2.2.1,Qp.2.2.2.2.2.2.2.1,Qp.2.2.2.2.2.2.2.2.1,Qp.2.2.2.2.2.2.2.2.2.1,Qp.2.2.2.2.2.2.2.2.2.2.1,()))) (K (Asg.mk Qp.2.1 Qp.2.2.1 Qp.2.2.2.1 Qp.2.2.2.2.1 Qp.2.2.2.2.2.1) (0:Int))) (K (Asg.mk Qp.2.1 Qp.2.2.1 Qp.2.2.2.1 Qp.2.2.2.2.1 Qp.2.2.2.2.2.1) (0:Int))) ((0:Int),key,B8 [],Qg,(0:Int),false,B8 [],B8 [],(0:Int),(0:Int),false,()))))) fun w31=>Cnd (Uq=true) (Zi y1.3 Qd.2 fun Qr=>w31 Qr) (w31 (-1:Int)))
def q3d:z2j:=z8g q17 q16 z2i z6k q9a q3u q1u q61
abbrev q18:Type:=Envt->Subj->Exper->(Int->Prop)->Prop
def q71(Wy:Rr)(Zg:V1)(Zi:U9):q18:=fun v s y K=>Wy (Envt.mk (Sett.mk v.1.1 v.1.2 v.1.3) v.2 v.3 v.4 v.5 v.6) y.2 fun Qa=>Cnd (Qa<0) (K (-1:Int)) (At v.5 Qa fun y1=>Zg (Subj.mk s.1) y1.2 fun Qd Uq=>Cnd (Uq=true) (Zi y.4 Qd.2 fun Qg=>K Qg) (K (-1:Int)))
def Ul:q18:=q71 q17 q16 q1u
abbrev z2k:Type:=Int->(ByteArray->Prop)->Prop
def z2l:z2k:=fun n K=>Cnd (n=0) (K (B8 [48])) (Lp2 (fun Qa Jm j8k=>Cnd (Qa=0) (Cnd (n<0) ((↑((B8 [45]).size+Jm.size):Int)<=(9223372036854775807:Int)/\K (B8 [45]++Jm)) (K Jm)) ((10:Int)≠(0:Int)/\Jn1 (fun Qk=>InI ((48:Int)+Qk)/\(↑((Go.Utf8.encode (Go.IntKind.i32.wrap ((48:Int)+Qk))).size+Jm.size):Int)<=(9223372036854775807:Int)/\(10:Int)≠(0:Int)/\InI (Qa.tdiv (10:Int))/\j8k (Qa.tdiv (10:Int)) (Go.Utf8.encode (Go.IntKind.i32.wrap ((48:Int)+Qk))++Jm)) fun v3d=>Cnd (Qa.tmod (10:Int)<(0:Int)) (InI ((0:Int) - Qa.tmod (10:Int))/\v3d ((0:Int) - Qa.tmod (10:Int))) (v3d (Qa.tmod (10:Int))))) n (B8 []))
abbrev z4y:Type:=Val->(ByteArray->Bool->Prop)->Prop
def j6k(z3o:z2k):z4y:=fun v K=>Cnd (v.1=1) (Cnd (v.2=1) (K (B8 [116,114,117,101]) true) (K (B8 [102,97,108,115,101]) true)) (Cnd (v.1=2) (z3o v.2 fun Qa=>K Qa true) (Jn1 (fun Qa=>Cnd (Qa=true) (K v.3 true) (K (B8 []) false)) fun q00=>Cnd (v.1=3) (q00 (decide (v.1=3))) (q00 (decide (v.1=4)))))
def z93:z4y:=j6k z2l
abbrev q19:Type:=Subj->ByteArray->ByteArray->ByteArray->(Int->Bool->Prop)->Prop
def z2m(Gn:q0l)(j1h:z4y)(Zi:U9):q19:=fun s kind by_ salt K=>Gn (Subj.mk s.1) kind by_ fun Qa Jm=>Cnd (Jm=true) (j1h Qa fun Qk Hq=>Cnd (Hq=true) (Zi salt Qk fun Qh=>K Qh true) (K (0:Int) false)) (K (0:Int) false)
def q55:q19:=z2m q7y z93 q1u
abbrev q72:Type:=Subj->Srv->(Int->Int->Bool->Prop)->Prop
def z8h(q6u:q19)(Jz:q0u):q72:=fun s v K=>Cnd (v.1=0) (q6u (Subj.mk s.1) v.2 v.3 v.4 fun Qa Jm=>Cnd (Jm=true) (Jz v.5 Qa fun Qk=>K Qk Qa true) (K (0:Int) (-1:Int) false)) (K v.1 (-1:Int) true)
def z2n:q72:=z8h q55 q61
abbrev Ud:Type:=ByteArray->ByteArray->Int->List (Decl)->List (Seg)->List (Flg)->List (Lay_)->List (Exper)->List (Ctxt)->List (Frc)->List (ByteArray)->List (Bool)->List (Dcs)->Flg->Srv->Rsn->(Dcs->List (Bool)->List (Dcs)->Prop)->Prop
def R5(z3p:q72)(Vo:z06):Ud:=fun _ _ _ _ _ _ _ _ ctxs _ _ done opn f v r K=>z3p (Subj.mk ctxs) v fun Qa Jm z4b=>Cnd (z4b=true) (Vo (Flg.mk f.1 f.2 f.3 f.4 f.5 f.6 f.7 f.8 (Srv.mk f.9.1 f.9.2 f.9.3 f.9.4 f.9.5)) Qa (Rsn.mk r.1 r.2 r.3 Jm) fun Qk=>K (Dcs.mk Qk.1 Qk.2 (Val.mk Qk.3.1 Qk.3.2 Qk.3.3 Qk.3.4) (Rsn.mk Qk.4.1 Qk.4.2 Qk.4.3 Qk.4.4) Qk.5) done opn) (Vo (Flg.mk f.1 f.2 f.3 f.4 f.5 f.6 f.7 f.8 (Srv.mk f.9.1 f.9.2 f.9.3 f.9.4 f.9.5)) f.5 (Rsn.mk (7:Int) r.2 (B8 []) (-1:Int)) fun Qk=>K (Dcs.mk Qk.1 Qk.2 (Val.mk Qk.3.1 Qk.3.2 Qk.3.3 Qk.3.4) (Rsn.mk Qk.4.1 Qk.4.2 Qk.4.3 Qk.4.4) Qk.5) done opn)
def Z8:Ud:=R5 z2n q0x
abbrev Jj:Type:=ByteArray->ByteArray->Int->List (Decl)->List (Seg)->List (Flg)->List (Lay_)->List (Exper)->List (Ctxt)->List (Frc)->List (ByteArray)->List (Bool)->List (Dcs)->Int->(Dcs->List (Bool)->List (Dcs)->Prop)->Prop
def q0m(q01:q4f)(Vo:z06)(w65:q84)(w9g:z2j)(j8n:q18)(Uo:G9)(q5h:Ud)(X:Jj):Jj:=fun salt hkind hold attrs segs flags layers expers ctxs fs inn done opn i K=>Jn2 (fun Qa Jm=>At Jm i fun y1=>K (Dcs.mk y1.1 y1.2 (Val.mk y1.3.1 y1.3.2 y1.3.3 y1.3.4) (Rsn.mk y1.4.1 y1.4.2 y1.4.3 y1.4.4) y1.5) Qa Jm) fun q00=>At done i fun y1=>Cnd (y1=true) (q00 done opn) (At done i fun _=>At flags i fun y5=>Two (Cnd (y5.4=true) (LpH (fun (Qp:Int×ByteArray×Int×Int×Int×ByteArray×List ByteArray×Int×Int×ByteArray×Int×Int×List Dcs×List Bool×Unit) (j33:Int×ByteArray×Int×Int×Int×ByteArray×List ByteArray×Int×Int×ByteArray×Int×Int×List Dcs×List Bool×Unit->Prop)=>Fits y5.6->CAt y5.6 Qp.1 (fun y9=>q01 (Envt.mk (Sett.mk salt hkind hold) attrs segs flags layers expers) y9.1 fun q4o=>Cnd ((0:Int)<=q4o) (At flags q4o fun y12=>Cnd (y12.4=true) (X salt hkind hold attrs segs flags layers expers ctxs fs inn Qp.2.2.2.2.2.2.2.2.2.2.2.2.2.1 Qp.2.2.2.2.2.2.2.2.2.2.2.2.1 q4o fun Jn v3h v3i=>Cnd (Jn.2=y9.2) (InI (Qp.1+1)/\j33 (Qp.1+1,Qp.2.1,Qp.2.2.1,Qp.2.2.2.1,Qp.2.2.2.2.1,Qp.2.2.2.2.2.1,Qp.2.2.2.2.2.2.1,Qp.2.2.2.2.2.2.2.1,Qp.2.2.2.2.2.2.2.2.1,Qp.2.2.2.2.2.2.2.2.2.1,Qp.2.2.2.2.2.2.2.2.2.2.1,Qp.2.2.2.2.2.2.2.2.2.2.2.1,v3i,v3h,())) (At y5.6 Qp.1 fun y15=>Vo (Flg.mk y5.1 y5.2 y5.3 y5.4 y5.5 y5.6 y5.7 y5.8 (Srv.mk y5.9.1 y5.9.2 y5.9.3 y5.9.4 y5.9.5)) y5.5 (Rsn.mk (2:Int) (0:Int) y15.1 (-1:Int)) fun j3j=>At v3i i fun _=>q00 v3h (v3i.set i.toNat (Dcs.mk j3j.1 j3j.2 (Val.mk j3j.3.1 j3j.3.2 j3j.3.3 j3j.3.4) (Rsn.mk j3j.4.1 j3j.4.2 j3j.4.3 j3j.4.4) j3j.5)))) (At y5.6 Qp.1 fun y14=>Vo (Flg.mk y5.1 y5.2 y5.3 y5.4 y5.5 y5.6 y5.7 y5.8 (Srv.mk y5.9.1 y5.9.2 y5.9.3 y5.9.4 y5.9.5)) y5.5 (Rsn.mk (2:Int) (0:Int) y14.1 (-1:Int)) fun q3l=>At Qp.2.2.2.2.2.2.2.2.2.2.2.2.1 i fun _=>q00 Qp.2.2.2.2.2.2.2.2.2.2.2.2.2.1 (Qp.2.2.2.2.2.2.2.2.2.2.2.2.1.set i.toNat (Dcs.mk q3l.1 q3l.2 (Val.mk q3l.3.1 q3l.3.2 q3l.3.3 q3l.3.4) (Rsn.mk q3l.4.1 q3l.4.2 q3l.4.3 q3l.4.4) q3l.5)))) (At y5.6 Qp.1 fun y12=>Vo (Flg.mk y5.1 y5.2 y5.3 y5.4 y5.5 y5.6 y5.7 y5.8 (Srv.mk y5.9.1 y5.9.2 y5.9.3 y5.9.4 y5.9.5)) y5.5 (Rsn.mk (2:Int) (0:Int) y12.1 (-1:Int)) fun Jn=>At Qp.2.2.2.2.2.2.2.2.2.2.2.2.1 i fun _=>q00 Qp.2.2.2.2.2.2.2.2.2.2.2.2.2.1 (Qp.2.2.2.2.2.2.2.2.2.2.2.2.1.set i.toNat (Dcs.mk Jn.1 Jn.2 (Val.mk Jn.3.1 Jn.3.2 Jn.3.3 Jn.3.4) (Rsn.mk Jn.4.1 Jn.4.2 Jn.4.3 Jn.4.4) Jn.5)))) (w65 (Flg.mk y5.1 y5.2 y5.3 y5.4 y5.5 y5.6 y5.7 y5.8 (Srv.mk y5.9.1 y5.9.2 y5.9.3 y5.9.4 y5.9.5)) (Subj.mk ctxs) fun Qo=>Cnd ((0:Int)<Qo) (InI (Qo - 1)/\((0:Int)<=Qo - 1/\Qo - 1<(↑y5.7.length:Int))/\ ∀y10,y5.7[(Qo - 1).toNat]? =some y10->Vo (Flg.mk y5.1 y5.2 y5.3 y5.4 y5.5 y5.6 y5.7 y5.8 (Srv.mk y5.9.1 y5.9.2 y5.9.3 y5.9.4 y5.9.5)) y10.2 (Rsn.mk (3:Int) Qo (B8 []) (-1:Int)) fun Jd=>At Qp.2.2.2.2.2.2.2.2.2.2.2.2.1 i fun _=>q00 Qp.2.2.2.2.2.2.2.2.2.2.2.2.2.1 (Qp.2.2.2.2.2.2.2.2.2.2.2.2.1.set i.toNat (Dcs.mk Jd.1 Jd.2 (Val.mk Jd.3.1 Jd.3.2 Jd.3.3 Jd.3.4) (Rsn.mk Jd.4.1 Jd.4.2 Jd.4.3 Jd.4.4) Jd.5))) (LpH (fun (Zj:Int×ByteArray×Int×Int×Int×ByteArray×List ByteArray×Int×Int×ByteArray×Int×Int×Unit) (v3f:Int×ByteArray×Int×Int×Int×ByteArray×List ByteArray×Int×Int×ByteArray×Int×Int×Unit->Prop)=>Fits expers->CAt expers Zj.1 (fun y12=>Cnd (y12.3=y5.1) (Cnd (y12.5=2) (w9g (Envt.mk (Sett.mk salt hkind hold) attrs segs flags layers expers) (Subj.mk ctxs) fs y12.2 fun Jn _=>Cnd (Jn.2=y12.1) (j8n (Envt.mk (Sett.mk salt hkind hold) attrs segs flags layers expers) (Subj.mk ctxs) (Exper.mk y12.1 y12.2 y12.3 y12.4 y12.5 y12.6 y12.7 (Ex.mk y12.8.1 y12.8.2 y12.8.3 y12.8.4 y12.8.5)) fun w9e=>Vo (Flg.mk y5.1 y5.2 y5.3 y5.4 y5.5 y5.6 y5.7 y5.8 (Srv.mk y5.9.1 y5.9.2 y5.9.3 y5.9.4 y5.9.5)) Jn.4 (Rsn.mk (4:Int) (0:Int) y12.1 w9e) fun q3l=>At Qp.2.2.2.2.2.2.2.2.2.2.2.2.1 i fun _=>q00 Qp.2.2.2.2.2.2.2.2.2.2.2.2.2.1 (Qp.2.2.2.2.2.2.2.2.2.2.2.2.1.set i.toNat (Dcs.mk q3l.1 q3l.2 (Val.mk q3l.3.1 q3l.3.2 q3l.3.3 q3l.3.4) (Rsn.mk q3l.4.1 q3l.4.2 q3l.4.3 q3l.4.4) q3l.5))) (InI (Zj.1+1)/\v3f (Zj.1+1,Zj.2.1,Zj.2.2.1,Zj.2.2.2.1,Zj.2.2.2.2.1,Zj.2.2.2.2.2.1,Zj.2.2.2.2.2.2.1,Zj.2.2.2.2.2.2.2.1,Zj.2.2.2.2.2.2.2.2.1,Zj.2.2.2.2.2.2.2.2.2.1,Zj.2.2.2.2.2.2.2.2.2.2.1,Zj.2.2.2.2.2.2.2.2.2.2.2.1,()))) (InI (Zj.1+1)/\v3f (Zj.1+1,Zj.2.1,Zj.2.2.1,Zj.2.2.2.1,Zj.2.2.2.2.1,Zj.2.2.2.2.2.1,Zj.2.2.2.2.2.2.1,Zj.2.2.2.2.2.2.2.1,Zj.2.2.2.2.2.2.2.2.1,Zj.2.2.2.2.2.2.2.2.2.1,Zj.2.2.2.2.2.2.2.2.2.2.1,Zj.2.2.2.2.2.2.2.2.2.2.2.1,()))) (InI (Zj.1+1)/\v3f (Zj.1+1,Zj.2.1,Zj.2.2.1,Zj.2.2.2.1,Zj.2.2.2.2.1,Zj.2.2.2.2.2.1,Zj.2.2.2.2.2.2.1,Zj.2.2.2.2.2.2.2.1,Zj.2.2.2.2.2.2.2.2.1,Zj.2.2.2.2.2.2.2.2.2.1,Zj.2.2.2.2.2.2.2.2.2.2.1,Zj.2.2.2.2.2.2.2.2.2.2.2.1,()))) (LpH (fun (Jd:Int×ByteArray×Int×Int×Int×ByteArray×List ByteArray×Int×Int×ByteArray×Int×Int×List Bool×List Dcs×Unit) (y0q:Int×ByteArray×Int×Int×Int×ByteArray×List ByteArray×Int×Int×ByteArray×Int×Int×List Bool×List Dcs×Unit->Prop)=>Fits y5.8->CAt y5.8 Jd.1 (fun y14=>Uo (Subj.mk ctxs) inn (Ex.mk y14.2.1 y14.2.2 y14.2.3 y14.2.4 y14.2.5) fun q3l=>Cnd (q3l=true) (At y5.8 Jd.1 fun y17=>InI (Jd.1+1)/\At y5.8 Jd.1 fun y19=>q5h salt hkind hold attrs segs flags layers expers ctxs fs inn Jd.2.2.2.2.2.2.2.2.2.2.2.2.1 Jd.2.2.2.2.2.2.2.2.2.2.2.2.2.1 (Flg.mk y5.1 y5.2 y5.3 y5.4 y5.5 y5.6 y5.7 y5.8 (Srv.mk y5.9.1 y5.9.2 y5.9.3 y5.9.4 y5.9.5)) (Srv.mk y17.3.1 y17.3.2 y17.3.3 y17.3.4 y17.3.5) (Rsn.mk (5:Int) (Jd.1+1) y19.1 (0:Int)) fun j8o y81 y7j=>At y7j i fun _=>q00 y81 (y7j.set i.toNat (Dcs.mk j8o.1 j8o.2 (Val.mk j8o.3.1 j8o.3.2 j8o.3.3 j8o.3.4) (Rsn.mk j8o.4.1 j8o.4.2 j8o.4.3 j8o.4.4) j8o.5))) (InI (Jd.1+1)/\y0q (Jd.1+1,Jd.2.1,Jd.2.2.1,Jd.2.2.2.1,Jd.2.2.2.2.1,Jd.2.2.2.2.2.1,Jd.2.2.2.2.2.2.1,Jd.2.2.2.2.2.2.2.1,Jd.2.2.2.2.2.2.2.2.1,Jd.2.2.2.2.2.2.2.2.2.1,Jd.2.2.2.2.2.2.2.2.2.2.1,Jd.2.2.2.2.2.2.2.2.2.2.2.1,Jd.2.2.2.2.2.2.2.2.2.2.2.2.1,Jd.2.2.2.2.2.2.2.2.2.2.2.2.2.1,()))) (q5h salt hkind hold attrs segs flags layers expers ctxs fs inn Jd.2.2.2.2.2.2.2.2.2.2.2.2.1 Jd.2.2.2.2.2.2.2.2.2.2.2.2.2.1 (Flg.mk y5.1 y5.2 y5.3 y5.4 y5.5 y5.6 y5.7 y5.8 (Srv.mk y5.9.1 y5.9.2 y5.9.3 y5.9.4 y5.9.5)) (Srv.mk y5.9.1 y5.9.2 y5.9.3 y5.9.4 y5.9.5) (Rsn.mk (6:Int) (0:Int) (B8 []) (0:Int)) fun Jn v3h v3i=>At v3i i fun _=>q00 v3h (v3i.set i.toNat (Dcs.mk Jn.1 Jn.2 (Val.mk Jn.3.1 Jn.3.2 Jn.3.3 Jn.3.4) (Rsn.mk Jn.4.1 Jn.4.2 Jn.4.3 Jn.4.4) Jn.5)))) ((0:Int),Zj.2.1,Zj.2.2.1,Zj.2.2.2.1,Zj.2.2.2.2.1,Zj.2.2.2.2.2.1,Zj.2.2.2.2.2.2.1,Zj.2.2.2.2.2.2.2.1,Zj.2.2.2.2.2.2.2.2.1,Zj.2.2.2.2.2.2.2.2.2.1,Zj.2.2.2.2.2.2.2.2.2.2.1,Zj.2.2.2.2.2.2.2.2.2.2.2.1,Qp.2.2.2.2.2.2.2.2.2.2.2.2.2.1,Qp.2.2.2.2.2.2.2.2.2.2.2.2.1,()))) ((0:Int),Qp.2.1,Qp.2.2.1,Qp.2.2.2.1,Qp.2.2.2.2.1,Qp.2.2.2.2.2.1,Qp.2.2.2.2.2.2.1,Qp.2.2.2.2.2.2.2.1,Qp.2.2.2.2.2.2.2.2.1,Qp.2.2.2.2.2.2.2.2.2.1,Qp.2.2.2.2.2.2.2.2.2.2.1,Qp.2.2.2.2.2.2.2.2.2.2.2.1,())))) ((0:Int),B8 [],(0:Int),(0:Int),(0:Int),B8 [],[],(0:Int),(0:Int),B8 [],(0:Int),(0:Int),opn,done.set i.toNat true,())) (Vo (Flg.mk y5.1 y5.2 y5.3 y5.4 y5.5 y5.6 y5.7 y5.8 (Srv.mk y5.9.1 y5.9.2 y5.9.3 y5.9.4 y5.9.5)) y5.5 (Rsn.mk (1:Int) (0:Int) (B8 []) (-1:Int)) fun Qp=>At opn i fun _=>q00 (done.set i.toNat true) (opn.set i.toNat (Dcs.mk Qp.1 Qp.2 (Val.mk Qp.3.1 Qp.3.2 Qp.3.3 Qp.3.4) (Rsn.mk Qp.4.1 Qp.4.2 Qp.4.3 Qp.4.4) Qp.5)))))
def Gc:Jj:=fun salt hkind hold attrs segs flags layers expers ctxs fs inn done opn i K=> ∀X:Jj,(∀salt hkind hold attrs segs flags layers expers ctxs fs inn done opn i K,q0m H6 q0x q0y q3d Ul q0w Z8 X salt hkind hold attrs segs flags layers expers ctxs fs inn done opn i K->X salt hkind hold attrs segs flags layers expers ctxs fs inn done opn i K)->X salt hkind hold attrs segs flags layers expers ctxs fs inn done opn i K
abbrev z08:Type:=Envt->Subj->List (Frc)->ByteArray->(Dcs->Int->Prop)->Prop
def j2h(q01:q4f)(z3q:q7z)(Gq:Jj):z08:=fun v s forced key K=>q01 (Envt.mk (Sett.mk v.1.1 v.1.2 v.1.3) v.2 v.3 v.4 v.5 v.6) key fun Qa=>Cnd (Qa<0) (K (Dcs.mk (B8 []) (0:Int) (Val.mk (0:Int) (0:Int) (B8 []) []) (Rsn.mk (0:Int) (0:Int) (B8 []) (0:Int)) (0:Int)) (11:Int)) (z3q (Envt.mk (Sett.mk v.1.1 v.1.2 v.1.3) v.2 v.3 v.4 v.5 v.6) (Subj.mk s.1) forced fun Qk Hq j3g v72 y49 y9m y9n y9o y9p y9q y82 y83 y84=>Gq Qk Hq j3g v72 y49 y9m y9n y9o y9p y9q y82 y83 y84 Qa fun Qh _ _=>K (Dcs.mk Qh.1 Qh.2 (Val.mk Qh.3.1 Qh.3.2 Qh.3.3 Qh.3.4) (Rsn.mk Qh.4.1 Qh.4.2 Qh.4.3 Qh.4.4) Qh.5) (0:Int))
def z6l:z08:=j2h H6 z2h Gc
abbrev q2a:Type:=AEnv->List (Mov)->Int->Int->Int->(Bool->Prop)->Prop
def q2b(q6v:q1s)(Vh:J1)(q9s:q4c)(Jx:Vc)(q6w:q1v)(z65:z0x)(Wc:U8)(z3r:q7s)(Ve:q38)(q33:Bg)(q9t:q4e)(z66:z08)(q8m:z8a)(Za:Hr):q2a:=fun x l id layer flag K=>q6v fun Qa=>Cnd (Qa=true) (Fits l->Cnd ((40:Int)<(↑l.length:Int)) (K true) (Vh x fun Qh=>q9s (Envt.mk (Sett.mk Qh.1.1 Qh.1.2 Qh.1.3) Qh.2 Qh.3 Qh.4 Qh.5 Qh.6) l fun Qd=>Jn2 (fun Qg Up=>Lp1 (fun Qr j32=>InI (Qd.1+1)/\Cnd (Qr<=Qd.1+1) (Jx Qd (Envt.mk (Sett.mk Qh.1.1 Qh.1.2 Qh.1.3) Qh.2 Qh.3 Qh.4 Qh.5 Qh.6) Qg Up Qr fun Zc q4m=>q6w Qd (Envt.mk (Sett.mk Qh.1.1 Qh.1.2 Qh.1.3) Qh.2 Qh.3 Qh.4 Qh.5 Qh.6) Qg Up Qr fun Qp w63=>Cnd (q4m=w63) (z65 (Rcd.mk Zc.1 Zc.2 (Slt.mk Zc.3.1 Zc.3.2 Zc.3.3 Zc.3.4 Zc.3.5 Zc.3.6 Zc.3.7) Zc.4 Zc.5) (Rcd.mk Qp.1 Qp.2 (Slt.mk Qp.3.1 Qp.3.2 Qp.3.3 Qp.3.4 Qp.3.5 Qp.3.6 Qp.3.7) Qp.4 Qp.5) fun Re=>Cnd (Re=true) (Wc (Rcd.mk Zc.1 Zc.2 (Slt.mk Zc.3.1 Zc.3.2 Zc.3.3 Zc.3.4 Zc.3.5 Zc.3.6 Zc.3.7) Zc.4 Zc.5) (Envt.mk (Sett.mk Qh.1.1 Qh.1.2 Qh.1.3) Qh.2 Qh.3 Qh.4 Qh.5 Qh.6) fun Qo=>z3r (Rcd.mk Zc.1 Zc.2 (Slt.mk Zc.3.1 Zc.3.2 Zc.3.3 Zc.3.4 Zc.3.5 Zc.3.6 Zc.3.7) Zc.4 Zc.5) (Envt.mk (Sett.mk Qh.1.1 Qh.1.2 Qh.1.3) Qh.2 Qh.3 Qh.4 Qh.5 Qh.6) fun Zj=>Cnd (Qo=Zj) ((4:Int)≠(0:Int)/\((0:Int)<=flag.tmod (4:Int)/\flag.tmod (4:Int)<(↑Qh.4.length:Int))/\ ∀y11,Qh.4[(flag.tmod (4:Int)).toNat]? =some y11->Ve Qg fun j8m=>q33 Qd (Envt.mk (Sett.mk Qh.1.1 Qh.1.2 Qh.1.3) Qh.2 Qh.3 Qh.4 Qh.5 Qh.6) (Subj.mk j8m.1) Qg y11.1 Qr fun Jn v3h=>(4:Int)≠(0:Int)/\((0:Int)<=flag.tmod (4:Int)/\flag.tmod (4:Int)<(↑Qh.4.length:Int))/\ ∀y15,Qh.4[(flag.tmod (4:Int)).toNat]? =some y15->Ve Qg fun j3j=>q9t Qd Qg Qr fun y85=>z66 (Envt.mk (Sett.mk Qh.1.1 Qh.1.2 Qh.1.3) Qh.2 Qh.3 Qh.4 Qh.5 Qh.6) (Subj.mk j3j.1) y85 y15.1 fun w66 y86=>Cnd (v3h=y86) (Cnd (Jn.2=w66.2) (Cnd (Jn.1=w66.1) (Cnd (Jn.4.1=w66.4.1/\Jn.4.2=w66.4.2/\Jn.4.3=w66.4.3/\Jn.4.4=w66.4.4) (Cnd (Jn.5=w66.5) (Cnd (Jn.3.2=w66.3.2) (InI (Qr+1)/\j32 (Qr+1)) (K false)) (K false)) (K false)) (K false)) (K false)) (K false)) (K false)) (K false)) (K false)) (K true)) (-1:Int)) fun w31=>InI id/\(3:Int)≠(0:Int)/\(q8m id fun Qr=>(Za fun Zc=>Sml (Zc++[B8 [110,111,110,101]]).length/\((0:Int)<=layer.tmod (3:Int)/\layer.tmod (3:Int)<(↑(Zc++[B8 [110,111,110,101]]).length:Int))/\ ∀y7,(Zc++[B8 [110,111,110,101]])[(layer.tmod (3:Int)).toNat]? =some y7->w31 Qr y7)/\Za fun Zc=>Sml (Zc++[B8 [110,111,110,101]]).length/\((0:Int)<=layer.tmod (3:Int)/\layer.tmod (3:Int)<(↑(Zc++[B8 [110,111,110,101]]).length:Int))/\ ∀y7,(Zc++[B8 [110,111,110,101]])[(layer.tmod (3:Int)).toNat]? =some y7->w31 Qr y7)/\q8m id fun Qr=>Za fun Zc=>Sml (Zc++[B8 [110,111,110,101]]).length/\((0:Int)<=layer.tmod (3:Int)/\layer.tmod (3:Int)<(↑(Zc++[B8 [110,111,110,101]]).length:Int))/\ ∀y7,(Zc++[B8 [110,111,110,101]])[(layer.tmod (3:Int)).toNat]? =some y7->w31 Qr y7)) (K false)
def Js:q2a:=q2b q5x Vf q8x H2 q52 z6c q1r z19 q7d q3s q80 z6l j6i q22
end Go.En
end
noncomputable section
set_option maxRecDepth 100000
namespace Go.Proofs
open Go.Shelf
def Tryz.laysM171_ren:Go.Shelf.Ren:=⟨fun|171=>282|243=>291|246=>296|283=>299|284=>300|285=>301|286=>302|129=>167|317=>303|318=>304|319=>305|320=>306|337=>307|338=>308|n=>n,fun|3=>3|9=>9|2=>2|4=>4|171=>394|0=>0|53=>169|37=>144|5=>5|173=>396|212=>399|51=>262|20=>20|213=>400|46=>223|232=>401|233=>402|n=>n,fun|17=>7|18=>8|19=>9|n=>n⟩
theorem Tryz.laysM171:Go.Proofs.LaysM.n171 Tryz.prog Tryz.laysM171_ren:={
 mixed:=by kernel_rfl
 f129:=Tryz.func167.trans (congrArg some (by kernel_rfl))
 f171:=Tryz.func282.trans (congrArg some (by kernel_rfl))
 f243:=Tryz.func291.trans (congrArg some (by kernel_rfl))
 f246:=Tryz.func296.trans (congrArg some (by kernel_rfl))
 f283:=Tryz.func299.trans (congrArg some (by kernel_rfl))
 f284:=Tryz.func300.trans (congrArg some (by kernel_rfl))
 f285:=Tryz.func301.trans (congrArg some (by kernel_rfl))
 f286:=Tryz.func302.trans (congrArg some (by kernel_rfl))
 f317:=Tryz.func303.trans (congrArg some (by kernel_rfl))
 f318:=Tryz.func304.trans (congrArg some (by kernel_rfl))
 f319:=Tryz.func305.trans (congrArg some (by kernel_rfl))
 f320:=Tryz.func306.trans (congrArg some (by kernel_rfl))
 f337:=Tryz.func307.trans (congrArg some (by kernel_rfl))
 f338:=Tryz.func308.trans (congrArg some (by kernel_rfl))
 t0:=Tryz.underlying0
 a0:=Tryz.isAgg0
 z0:=Tryz.sizeOf0
 v0:=Tryz.zeroValue0
 t2:=Tryz.underlying2
 a2:=Tryz.isAgg2
 z2:=Tryz.sizeOf2
 v2:=Tryz.zeroValue2
 t3:=Tryz.underlying3
 a3:=Tryz.isAgg3
 z3:=Tryz.sizeOf3
 v3:=Tryz.zeroValue3
 t4:=Tryz.underlying4
 a4:=Tryz.isAgg4
 z4:=Tryz.sizeOf4
 v4:=Tryz.zeroValue4
 t5:=Tryz.underlying5
 a5:=Tryz.isAgg5
 z5:=Tryz.sizeOf5
 v5:=Tryz.zeroValue5
 t9:=Tryz.underlying9
 a9:=Tryz.isAgg9
 z9:=Tryz.sizeOf9
 v9:=Tryz.zeroValue9
 t20:=Tryz.underlying20
 a20:=Tryz.isAgg20
 z20:=Tryz.sizeOf20
 v20:=Tryz.zeroValue20
 t37:=Tryz.underlying144
 a37:=Tryz.isAgg144
 z37:=Tryz.sizeOf144
 v37:=Tryz.zeroValue144
 t46:=Tryz.underlying223
 a46:=Tryz.isAgg223
 z46:=Tryz.sizeOf223
 v46:=Tryz.zeroValue223
 t51:=Tryz.underlying262
 a51:=Tryz.isAgg262
 z51:=Tryz.sizeOf262
 v51:=Tryz.zeroValue262
 t53:=Tryz.underlying169
 a53:=Tryz.isAgg169
 z53:=Tryz.sizeOf169
 v53:=Tryz.zeroValue169
 t171:=Tryz.underlying394
 a171:=Tryz.isAgg394
 z171:=Tryz.sizeOf394
 v171:=Tryz.zeroValue394
 t173:=Tryz.underlying396
 a173:=Tryz.isAgg396
 z173:=Tryz.sizeOf396
 v173:=Tryz.zeroValue396
 t212:=Tryz.underlying399
 a212:=Tryz.isAgg399
 z212:=Tryz.sizeOf399
 v212:=Tryz.zeroValue399
 t213:=Tryz.underlying400
 a213:=Tryz.isAgg400
 z213:=Tryz.sizeOf400
 t232:=Tryz.underlying401
 a232:=Tryz.isAgg401
 z232:=Tryz.sizeOf401
 v232:=Tryz.zeroValue401
 t233:=Tryz.underlying402
 a233:=Tryz.isAgg402
 z233:=Tryz.sizeOf402
 v233:=Tryz.zeroValue402
 g17:=by kernel_rfl
 g18:=by kernel_rfl
 g19:=by kernel_rfl
 i0:=by kernel_rfl
 i2:=by kernel_rfl
 i3:=by kernel_rfl
 i4:=by kernel_rfl
 i5:=by kernel_rfl
 i9:=by kernel_rfl
 i20:=by kernel_rfl
 i37:=by kernel_rfl
 i46:=by kernel_rfl
 i51:=by kernel_rfl
 i53:=by kernel_rfl
 i171:=by kernel_rfl
 i173:=by kernel_rfl
 i212:=by kernel_rfl
 i232:=by kernel_rfl
 i233:=by kernel_rfl
 m17:=by kernel_rfl
 m18:=by kernel_rfl
 m19:=by kernel_rfl}
open Go.RowKit Go.Sort Go.Lib in
theorem Tryz.strconv_Itoa (n:Int) (h0: -9223372036854775808<=n) (h1:n<=9223372036854775807) (w:World) (htab:Lib.TabIs Tryz.prog w "internal/strconv.uint64pow10" .u64 Lib.pow10Tab):
  Calls Tryz.prog 282 #[.int .i64 n] w fun e w'=>e= .returned (.string ⟨(Lib.itoa n).toArray⟩)/\ ∃k os,w'=grow (w.drewN k) os:=Any.strconv_Itoa Tryz.laysM171 n h0 h1 w htab
def Tryz.laysC172_ren:Go.Shelf.Ren:=⟨fun|172=>265|244=>277|245=>278|247=>286|279=>287|280=>288|281=>289|282=>290|287=>293|316=>294|171=>282|205=>295|321=>297|322=>298|243=>291|246=>296|283=>299|284=>300|285=>301|286=>302|129=>167|317=>303|318=>304|319=>305|320=>306|337=>307|338=>308|n=>n,fun|9=>9|3=>3|75=>358|76=>359|4=>4|5=>5|167=>377|37=>144|0=>0|85=>378|2=>2|168=>380|53=>169|175=>383|46=>223|210=>386|127=>390|145=>393|143=>391|21=>21|171=>394|173=>396|212=>399|51=>262|20=>20|213=>400|232=>401|233=>402|80=>403|n=>n,fun|15=>5|16=>6|17=>7|18=>8|19=>9|n=>n⟩
theorem Tryz.laysC172:Go.Proofs.LaysC.n172 Tryz.prog Tryz.laysC172_ren:={
 mixed:=by kernel_rfl
 f129:=Tryz.func167.trans (congrArg some (by kernel_rfl))
 f171:=Tryz.func282.trans (congrArg some (by kernel_rfl))
 f172:=Tryz.func265.trans (congrArg some (by kernel_rfl))
 f205:=Tryz.func295.trans (congrArg some (by kernel_rfl))
 f243:=Tryz.func291.trans (congrArg some (by kernel_rfl))
 f244:=Tryz.func277.trans (congrArg some (by kernel_rfl))
 f245:=Tryz.func278.trans (congrArg some (by kernel_rfl))
 f246:=Tryz.func296.trans (congrArg some (by kernel_rfl))
 f247:=Tryz.func286.trans (congrArg some (by kernel_rfl))
 f279:=Tryz.func287.trans (congrArg some (by kernel_rfl))
 f280:=Tryz.func288.trans (congrArg some (by kernel_rfl))
 f281:=Tryz.func289.trans (congrArg some (by kernel_rfl))
 f282:=Tryz.func290.trans (congrArg some (by kernel_rfl))
 f283:=Tryz.func299.trans (congrArg some (by kernel_rfl))
 f284:=Tryz.func300.trans (congrArg some (by kernel_rfl))
 f285:=Tryz.func301.trans (congrArg some (by kernel_rfl))
 f286:=Tryz.func302.trans (congrArg some (by kernel_rfl))
 f287:=Tryz.func293.trans (congrArg some (by kernel_rfl))
 f316:=Tryz.func294.trans (congrArg some (by kernel_rfl))
 f317:=Tryz.func303.trans (congrArg some (by kernel_rfl))
 f318:=Tryz.func304.trans (congrArg some (by kernel_rfl))
 f319:=Tryz.func305.trans (congrArg some (by kernel_rfl))
 f320:=Tryz.func306.trans (congrArg some (by kernel_rfl))
 f321:=Tryz.func297.trans (congrArg some (by kernel_rfl))
 f322:=Tryz.func298.trans (congrArg some (by kernel_rfl))
 f337:=Tryz.func307.trans (congrArg some (by kernel_rfl))
 f338:=Tryz.func308.trans (congrArg some (by kernel_rfl))
 t0:=Tryz.underlying0
 a0:=Tryz.isAgg0
 z0:=Tryz.sizeOf0
 v0:=Tryz.zeroValue0
 t2:=Tryz.underlying2
 a2:=Tryz.isAgg2
 z2:=Tryz.sizeOf2
 v2:=Tryz.zeroValue2
 t3:=Tryz.underlying3
 a3:=Tryz.isAgg3
 z3:=Tryz.sizeOf3
 v3:=Tryz.zeroValue3
 t4:=Tryz.underlying4
 a4:=Tryz.isAgg4
 z4:=Tryz.sizeOf4
 v4:=Tryz.zeroValue4
 t5:=Tryz.underlying5
 a5:=Tryz.isAgg5
 z5:=Tryz.sizeOf5
 v5:=Tryz.zeroValue5
 t9:=Tryz.underlying9
 a9:=Tryz.isAgg9
 z9:=Tryz.sizeOf9
 v9:=Tryz.zeroValue9
 t20:=Tryz.underlying20
 a20:=Tryz.isAgg20
 z20:=Tryz.sizeOf20
 v20:=Tryz.zeroValue20
 t21:=Tryz.underlying21
 a21:=Tryz.isAgg21
 z21:=Tryz.sizeOf21
 v21:=Tryz.zeroValue21
 t37:=Tryz.underlying144
 a37:=Tryz.isAgg144
 z37:=Tryz.sizeOf144
 v37:=Tryz.zeroValue144
 t46:=Tryz.underlying223
 a46:=Tryz.isAgg223
 z46:=Tryz.sizeOf223
 v46:=Tryz.zeroValue223
 t51:=Tryz.underlying262
 a51:=Tryz.isAgg262
 z51:=Tryz.sizeOf262
 v51:=Tryz.zeroValue262
 t53:=Tryz.underlying169
 a53:=Tryz.isAgg169
 z53:=Tryz.sizeOf169
 v53:=Tryz.zeroValue169
 t75:=Tryz.underlying358
 a75:=Tryz.isAgg358
 z75:=Tryz.sizeOf358
 v75:=Tryz.zeroValue358
 t76:=Tryz.underlying359
 a76:=Tryz.isAgg359
 z76:=Tryz.sizeOf359
 v76:=Tryz.zeroValue359
 t85:=Tryz.underlying378
 a85:=Tryz.isAgg378
 z85:=Tryz.sizeOf378
 v85:=Tryz.zeroValue378
 t127:=Tryz.underlying390
 a127:=Tryz.isAgg390
 z127:=Tryz.sizeOf390
 v127:=Tryz.zeroValue390
 t143:=Tryz.underlying391
 a143:=Tryz.isAgg391
 z143:=Tryz.sizeOf391
 v143:=Tryz.zeroValue391
 t145:=Tryz.underlying393
 a145:=Tryz.isAgg393
 z145:=Tryz.sizeOf393
 v145:=Tryz.zeroValue393
 t167:=Tryz.underlying377
 a167:=Tryz.isAgg377
 z167:=Tryz.sizeOf377
 v167:=Tryz.zeroValue377
 t168:=Tryz.underlying380
 a168:=Tryz.isAgg380
 z168:=Tryz.sizeOf380
 v168:=Tryz.zeroValue380
 t171:=Tryz.underlying394
 a171:=Tryz.isAgg394
 z171:=Tryz.sizeOf394
 v171:=Tryz.zeroValue394
 t173:=Tryz.underlying396
 a173:=Tryz.isAgg396
 z173:=Tryz.sizeOf396
 v173:=Tryz.zeroValue396
 t175:=Tryz.underlying383
 a175:=Tryz.isAgg383
 z175:=Tryz.sizeOf383
 v175:=Tryz.zeroValue383
 t210:=Tryz.underlying386
 a210:=Tryz.isAgg386
 z210:=Tryz.sizeOf386
 v210:=Tryz.zeroValue386
 t212:=Tryz.underlying399
 a212:=Tryz.isAgg399
 z212:=Tryz.sizeOf399
 v212:=Tryz.zeroValue399
 t213:=Tryz.underlying400
 a213:=Tryz.isAgg400
 z213:=Tryz.sizeOf400
 t232:=Tryz.underlying401
 a232:=Tryz.isAgg401
 z232:=Tryz.sizeOf401
 v232:=Tryz.zeroValue401
 t233:=Tryz.underlying402
 a233:=Tryz.isAgg402
 z233:=Tryz.sizeOf402
 v233:=Tryz.zeroValue402
 g15:=by kernel_rfl
 g16:=by kernel_rfl
 g17:=by kernel_rfl
 g18:=by kernel_rfl
 g19:=by kernel_rfl
 t80:=Tryz.underlying403
 a80:=Tryz.isAgg403
 z80:=Tryz.sizeOf403
 v80:=Tryz.zeroValue403
 i0:=by kernel_rfl
 i2:=by kernel_rfl
 i3:=by kernel_rfl
 i4:=by kernel_rfl
 i5:=by kernel_rfl
 i9:=by kernel_rfl
 i20:=by kernel_rfl
 i21:=by kernel_rfl
 i37:=by kernel_rfl
 i46:=by kernel_rfl
 i51:=by kernel_rfl
 i53:=by kernel_rfl
 i75:=by kernel_rfl
 i76:=by kernel_rfl
 i80:=by kernel_rfl
 i85:=by kernel_rfl
 i127:=by kernel_rfl
 i143:=by kernel_rfl
 i145:=by kernel_rfl
 i167:=by kernel_rfl
 i168:=by kernel_rfl
 i171:=by kernel_rfl
 i173:=by kernel_rfl
 i175:=by kernel_rfl
 i210:=by kernel_rfl
 i212:=by kernel_rfl
 i232:=by kernel_rfl
 i233:=by kernel_rfl
 m15:=by kernel_rfl
 m16:=by kernel_rfl
 m17:=by kernel_rfl
 m18:=by kernel_rfl
 m19:=by kernel_rfl
 c0:=by kernel_rfl
 c2:=by kernel_rfl
 c3:=by kernel_rfl
 c4:=by kernel_rfl
 c5:=by kernel_rfl
 c9:=by kernel_rfl
 c20:=by kernel_rfl
 c21:=by kernel_rfl
 c37:=by kernel_rfl
 c46:=by kernel_rfl
 c51:=by kernel_rfl
 c53:=by kernel_rfl
 c75:=by kernel_rfl
 c76:=by kernel_rfl
 c80:=by kernel_rfl
 c85:=by kernel_rfl
 c127:=by kernel_rfl
 c143:=by kernel_rfl
 c145:=by kernel_rfl
 c167:=by kernel_rfl
 c168:=by kernel_rfl
 c171:=by kernel_rfl
 c173:=by kernel_rfl
 c175:=by kernel_rfl
 c210:=by kernel_rfl
 c212:=by kernel_rfl
 c213:=by kernel_rfl
 c232:=by kernel_rfl
 c233:=by kernel_rfl}
open Go.RowKit in
theorem Tryz.strconv_Atoi_ok(s:ByteArray)(hmax:s.size<=9223372036854775806)(v:Int)(h:Lib.atoiAll s.data.toList= .ok v)(w:World):
  Calls Tryz.prog 265 #[.string s] w fun e w'=>e= .returned (.tuple #[.int .i64 v,.nilIface])/\(w'=w∨ ∃t,w'=Lib.bytesWorld w 5 t):=Any.strconv_Atoi_ok Tryz.laysC172 s hmax v h w
open Go.RowKit in
theorem Tryz.strconv_Atoi_syntax(s:ByteArray)(hlim:s.size<=281474976710656)(h:Lib.atoiAll s.data.toList=Go.Lib.NumEnd.syntax)(ev:Value)(w:World)(hv:w.cell? ⟨5,0,none⟩=some ev)(hev:ev= .nilIface∨ ∃te pe,ev= .iface te pe):
  Calls Tryz.prog 265 #[.string s] w fun e w'=> ∃N,e= .returned (.tuple #[.int .i64 (0),.iface 380 (.pointer (some ⟨N,0,none⟩))])/\w.heap.size<=N/\w'.heap[N]? =some (.cells #[.string ⟨#[65,116,111,105]⟩,.string s,ev] 386 (0,0))/\Below w.heap.size w w':=Any.strconv_Atoi_syntax Tryz.laysC172 s hlim h ev w hv hev
open Go.RowKit in
theorem Tryz.strconv_Atoi_range(s:ByteArray)(hlim:s.size<=281474976710656)(h:Lib.atoiAll s.data.toList= .range)(ev:Value)(w:World)(hv:w.cell? ⟨6,0,none⟩=some ev)(hev:ev= .nilIface∨ ∃te pe,ev= .iface te pe):
  Calls Tryz.prog 265 #[.string s] w fun e w'=> ∃N,e= .returned (.tuple #[.int .i64 (Lib.atoiSat s.data.toList),.iface 380 (.pointer (some ⟨N,0,none⟩))])/\w.heap.size<=N/\w'.heap[N]? =some (.cells #[.string ⟨#[65,116,111,105]⟩,.string s,ev] 386 (0,0))/\Below w.heap.size w w':=Any.strconv_Atoi_range Tryz.laysC172 s hlim h ev w hv hev
def Tryz.lays144_ren:Go.Shelf.Ren:=⟨fun|144=>188|143=>219|219=>241|217=>258|225=>259|224=>260|267=>261|266=>271|314=>272|n=>n,fun|9=>9|4=>4|3=>3|5=>5|46=>223|146=>364|51=>262|n=>n,fun|1=>2|n=>n⟩
theorem Tryz.lays144:Go.Proofs.Lays.n144 Tryz.prog Tryz.lays144_ren:={
 mixed:=by kernel_rfl
 f143:=Tryz.func219.trans (congrArg some (by kernel_rfl))
 f144:=Tryz.func188.trans (congrArg some (by kernel_rfl))
 f217:=Tryz.func258.trans (congrArg some (by kernel_rfl))
 f219:=Tryz.func241.trans (congrArg some (by kernel_rfl))
 f224:=Tryz.func260.trans (congrArg some (by kernel_rfl))
 f225:=Tryz.func259.trans (congrArg some (by kernel_rfl))
 f266:=Tryz.func271.trans (congrArg some (by kernel_rfl))
 f267:=Tryz.func261.trans (congrArg some (by kernel_rfl))
 f314:=Tryz.func272.trans (congrArg some (by kernel_rfl))
 t3:=Tryz.underlying3
 a3:=Tryz.isAgg3
 z3:=Tryz.sizeOf3
 v3:=Tryz.zeroValue3
 t4:=Tryz.underlying4
 a4:=Tryz.isAgg4
 z4:=Tryz.sizeOf4
 v4:=Tryz.zeroValue4
 t5:=Tryz.underlying5
 a5:=Tryz.isAgg5
 z5:=Tryz.sizeOf5
 v5:=Tryz.zeroValue5
 t9:=Tryz.underlying9
 a9:=Tryz.isAgg9
 z9:=Tryz.sizeOf9
 v9:=Tryz.zeroValue9
 t46:=Tryz.underlying223
 a46:=Tryz.isAgg223
 z46:=Tryz.sizeOf223
 v46:=Tryz.zeroValue223
 t51:=Tryz.underlying262
 a51:=Tryz.isAgg262
 z51:=Tryz.sizeOf262
 v51:=Tryz.zeroValue262
 t146:=Tryz.underlying364
 a146:=Tryz.isAgg364
 z146:=Tryz.sizeOf364
 v146:=Tryz.zeroValue364
 g1:=by kernel_rfl}
open Go.RowKit Go.Lib in
theorem Tryz.strings_Contains(s sub:ByteArray)(m:Int)(w:World)(hs:s.size<4294967281)(hm:w.cell? ⟨2,0,none⟩=some (.int .i64 m)):
  Calls Tryz.prog 188 #[.string s,.string sub] w fun e w'=>e= .returned (.bool (Lib.contains s.data.toList sub.data.toList))/\w'=w:=Any.strings_Contains Tryz.lays144 s sub m w hs hm
def Tryz.lays190_ren:Go.Shelf.Ren:=⟨fun|190=>93|125=>124|258=>123|128=>166|129=>167|302=>157|303=>158|304=>159|305=>160|306=>161|307=>162|308=>163|309=>164|310=>165|333=>197|329=>198|330=>199|334=>200|335=>201|336=>202|344=>234|n=>n,fun|31=>55|9=>9|3=>3|46=>223|0=>0|51=>262|53=>169|4=>4|183=>269|182=>268|131=>166|5=>5|218=>311|222=>315|228=>341|229=>342|n=>n,fun|n=>n⟩
theorem Tryz.lays190:Go.Proofs.Lays.n190 Tryz.prog Tryz.lays190_ren:={
 mixed:=by kernel_rfl
 f125:=Tryz.func124.trans (congrArg some (by kernel_rfl))
 f128:=Tryz.func166.trans (congrArg some (by kernel_rfl))
 f129:=Tryz.func167.trans (congrArg some (by kernel_rfl))
 f190:=Tryz.func93.trans (congrArg some (by kernel_rfl))
 f258:=Tryz.func123.trans (congrArg some (by kernel_rfl))
 f302:=Tryz.func157.trans (congrArg some (by kernel_rfl))
 f303:=Tryz.func158.trans (congrArg some (by kernel_rfl))
 f304:=Tryz.func159.trans (congrArg some (by kernel_rfl))
 f305:=Tryz.func160.trans (congrArg some (by kernel_rfl))
 f306:=Tryz.func161.trans (congrArg some (by kernel_rfl))
 f307:=Tryz.func162.trans (congrArg some (by kernel_rfl))
 f308:=Tryz.func163.trans (congrArg some (by kernel_rfl))
 f309:=Tryz.func164.trans (congrArg some (by kernel_rfl))
 f310:=Tryz.func165.trans (congrArg some (by kernel_rfl))
 f329:=Tryz.func198.trans (congrArg some (by kernel_rfl))
 f330:=Tryz.func199.trans (congrArg some (by kernel_rfl))
 f333:=Tryz.func197.trans (congrArg some (by kernel_rfl))
 f334:=Tryz.func200.trans (congrArg some (by kernel_rfl))
 f335:=Tryz.func201.trans (congrArg some (by kernel_rfl))
 f336:=Tryz.func202.trans (congrArg some (by kernel_rfl))
 f344:=Tryz.func234.trans (congrArg some (by kernel_rfl))
 t0:=Tryz.underlying0
 a0:=Tryz.isAgg0
 z0:=Tryz.sizeOf0
 v0:=Tryz.zeroValue0
 t3:=Tryz.underlying3
 a3:=Tryz.isAgg3
 z3:=Tryz.sizeOf3
 v3:=Tryz.zeroValue3
 t4:=Tryz.underlying4
 a4:=Tryz.isAgg4
 z4:=Tryz.sizeOf4
 v4:=Tryz.zeroValue4
 t5:=Tryz.underlying5
 a5:=Tryz.isAgg5
 z5:=Tryz.sizeOf5
 v5:=Tryz.zeroValue5
 t9:=Tryz.underlying9
 a9:=Tryz.isAgg9
 z9:=Tryz.sizeOf9
 v9:=Tryz.zeroValue9
 t31:=Tryz.underlying55
 a31:=Tryz.isAgg55
 z31:=Tryz.sizeOf55
 v31:=Tryz.zeroValue55
 t46:=Tryz.underlying223
 a46:=Tryz.isAgg223
 z46:=Tryz.sizeOf223
 v46:=Tryz.zeroValue223
 t51:=Tryz.underlying262
 a51:=Tryz.isAgg262
 z51:=Tryz.sizeOf262
 v51:=Tryz.zeroValue262
 t53:=Tryz.underlying169
 a53:=Tryz.isAgg169
 z53:=Tryz.sizeOf169
 v53:=Tryz.zeroValue169
 t131:=Tryz.underlying166
 a131:=Tryz.isAgg166
 z131:=Tryz.sizeOf166
 v131:=Tryz.zeroValue166
 t182:=Tryz.underlying268
 a182:=Tryz.isAgg268
 z182:=Tryz.sizeOf268
 v182:=Tryz.zeroValue268
 t183:=Tryz.underlying269
 a183:=Tryz.isAgg269
 z183:=Tryz.sizeOf269
 v183:=Tryz.zeroValue269
 t218:=Tryz.underlying311
 a218:=Tryz.isAgg311
 z218:=Tryz.sizeOf311
 v218:=Tryz.zeroValue311
 t222:=Tryz.underlying315
 a222:=Tryz.isAgg315
 z222:=Tryz.sizeOf315
 v222:=Tryz.zeroValue315
 t228:=Tryz.underlying341
 a228:=Tryz.isAgg341
 z228:=Tryz.sizeOf341
 v228:=Tryz.zeroValue341
 t229:=Tryz.underlying342
 a229:=Tryz.isAgg342
 z229:=Tryz.sizeOf342
 v229:=Tryz.zeroValue342}
open Go.Sort Go.RowKit in
theorem Tryz.slices_Sort_string(blk off cap:Nat)(ss:List (List UInt8))(w:World)(hH:Holds encStr w blk off ss.toArray)(hblk:blk<w.heap.size)(hsz:ss.length<4611686018427387904):
  Calls Tryz.prog 93 #[.slice (some ⟨blk,off,none⟩) ss.length cap] w fun e w'=>
   e= .returned (.tuple #[])/\ ∃n os,w'=grow (putRow encStr (Sort.ahead w n) blk off (ss.mergeSort fun x y=>decide (x<=y)).toArray) os:=Any.slices_Sort_string Tryz.lays190 blk off cap ss w hH hblk hsz
def Tryz.lays146_ren:Go.Shelf.Ren:=⟨fun|146=>245|221=>263|268=>274|138=>275|143=>219|195=>283|197=>284|218=>285|219=>241|260=>292|217=>258|225=>259|224=>260|267=>261|266=>271|314=>272|n=>n,fun|9=>9|31=>55|3=>3|4=>4|0=>0|105=>375|21=>21|5=>5|46=>223|119=>209|139=>369|138=>368|146=>364|51=>262|n=>n,fun|1=>2|3=>3|4=>4|n=>n⟩
theorem Tryz.lays146:Go.Proofs.Lays.n146 Tryz.prog Tryz.lays146_ren:={
 mixed:=by kernel_rfl
 f138:=Tryz.func275.trans (congrArg some (by kernel_rfl))
 f143:=Tryz.func219.trans (congrArg some (by kernel_rfl))
 f146:=Tryz.func245.trans (congrArg some (by kernel_rfl))
 f195:=Tryz.func283.trans (congrArg some (by kernel_rfl))
 f197:=Tryz.func284.trans (congrArg some (by kernel_rfl))
 f217:=Tryz.func258.trans (congrArg some (by kernel_rfl))
 f218:=Tryz.func285.trans (congrArg some (by kernel_rfl))
 f219:=Tryz.func241.trans (congrArg some (by kernel_rfl))
 f221:=Tryz.func263.trans (congrArg some (by kernel_rfl))
 f224:=Tryz.func260.trans (congrArg some (by kernel_rfl))
 f225:=Tryz.func259.trans (congrArg some (by kernel_rfl))
 f260:=Tryz.func292.trans (congrArg some (by kernel_rfl))
 f266:=Tryz.func271.trans (congrArg some (by kernel_rfl))
 f267:=Tryz.func261.trans (congrArg some (by kernel_rfl))
 f268:=Tryz.func274.trans (congrArg some (by kernel_rfl))
 f314:=Tryz.func272.trans (congrArg some (by kernel_rfl))
 t0:=Tryz.underlying0
 a0:=Tryz.isAgg0
 z0:=Tryz.sizeOf0
 v0:=Tryz.zeroValue0
 t3:=Tryz.underlying3
 a3:=Tryz.isAgg3
 z3:=Tryz.sizeOf3
 v3:=Tryz.zeroValue3
 t4:=Tryz.underlying4
 a4:=Tryz.isAgg4
 z4:=Tryz.sizeOf4
 v4:=Tryz.zeroValue4
 t5:=Tryz.underlying5
 a5:=Tryz.isAgg5
 z5:=Tryz.sizeOf5
 v5:=Tryz.zeroValue5
 t9:=Tryz.underlying9
 a9:=Tryz.isAgg9
 z9:=Tryz.sizeOf9
 v9:=Tryz.zeroValue9
 t21:=Tryz.underlying21
 a21:=Tryz.isAgg21
 z21:=Tryz.sizeOf21
 v21:=Tryz.zeroValue21
 t31:=Tryz.underlying55
 a31:=Tryz.isAgg55
 z31:=Tryz.sizeOf55
 v31:=Tryz.zeroValue55
 t46:=Tryz.underlying223
 a46:=Tryz.isAgg223
 z46:=Tryz.sizeOf223
 v46:=Tryz.zeroValue223
 t51:=Tryz.underlying262
 a51:=Tryz.isAgg262
 z51:=Tryz.sizeOf262
 v51:=Tryz.zeroValue262
 t105:=Tryz.underlying375
 a105:=Tryz.isAgg375
 z105:=Tryz.sizeOf375
 v105:=Tryz.zeroValue375
 t119:=Tryz.underlying209
 a119:=Tryz.isAgg209
 z119:=Tryz.sizeOf209
 t138:=Tryz.underlying368
 a138:=Tryz.isAgg368
 z138:=Tryz.sizeOf368
 v138:=Tryz.zeroValue368
 t139:=Tryz.underlying369
 a139:=Tryz.isAgg369
 z139:=Tryz.sizeOf369
 v139:=Tryz.zeroValue369
 t146:=Tryz.underlying364
 a146:=Tryz.isAgg364
 z146:=Tryz.sizeOf364
 v146:=Tryz.zeroValue364
 g1:=by kernel_rfl
 g3:=by kernel_rfl
 g4:=by kernel_rfl}
open Go.RowKit Go.Lib in
theorem Tryz.strings_Split(s sep:ByteArray)(m:Int)(w:World)(hs:s.size<4294967281)(hm:w.cell? ⟨2,0,none⟩=some (.int .i64 m))(h1:1<=sep.size):
  Calls Tryz.prog 245 #[.string s,.string sep] w fun e w'=>
   e= .returned (.slice (some ⟨w.heap.size,0,none⟩) (Lib.countB s sep+1) (Lib.countB s sep+1))/\w'=w.alloc (.cells ((Lib.splitB sep 0 (Lib.countB s sep) s).map Value.string).toArray 9):=Any.strings_Split Tryz.lays146 (by kernel_rfl) s sep m w hs hm h1
def Tryz.lays157_ren:Go.Shelf.Ren:=⟨fun|157=>85|229=>117|199=>118|261=>151|311=>194|312=>195|n=>n,fun|9=>9|31=>55|3=>3|5=>5|4=>4|119=>209|0=>0|40=>211|152=>259|21=>21|154=>261|51=>262|141=>264|196=>304|193=>301|198=>306|49=>22|194=>302|201=>309|226=>339|46=>223|227=>340|n=>n,fun|0=>0|6=>1|n=>n⟩
theorem Tryz.lays157:Go.Proofs.Lays.n157 Tryz.prog Tryz.lays157_ren:={
 mixed:=by kernel_rfl
 f157:=Tryz.func85.trans (congrArg some (by kernel_rfl))
 f199:=Tryz.func118.trans (congrArg some (by kernel_rfl))
 f229:=Tryz.func117.trans (congrArg some (by kernel_rfl))
 f261:=Tryz.func151.trans (congrArg some (by kernel_rfl))
 f311:=Tryz.func194.trans (congrArg some (by kernel_rfl))
 f312:=Tryz.func195.trans (congrArg some (by kernel_rfl))
 t0:=Tryz.underlying0
 a0:=Tryz.isAgg0
 z0:=Tryz.sizeOf0
 v0:=Tryz.zeroValue0
 t3:=Tryz.underlying3
 a3:=Tryz.isAgg3
 z3:=Tryz.sizeOf3
 v3:=Tryz.zeroValue3
 t4:=Tryz.underlying4
 a4:=Tryz.isAgg4
 z4:=Tryz.sizeOf4
 v4:=Tryz.zeroValue4
 t5:=Tryz.underlying5
 a5:=Tryz.isAgg5
 z5:=Tryz.sizeOf5
 v5:=Tryz.zeroValue5
 t9:=Tryz.underlying9
 a9:=Tryz.isAgg9
 z9:=Tryz.sizeOf9
 v9:=Tryz.zeroValue9
 t21:=Tryz.underlying21
 a21:=Tryz.isAgg21
 z21:=Tryz.sizeOf21
 v21:=Tryz.zeroValue21
 t31:=Tryz.underlying55
 a31:=Tryz.isAgg55
 z31:=Tryz.sizeOf55
 v31:=Tryz.zeroValue55
 t40:=Tryz.underlying211
 a40:=Tryz.isAgg211
 z40:=Tryz.sizeOf211
 v40:=Tryz.zeroValue211
 t46:=Tryz.underlying223
 a46:=Tryz.isAgg223
 z46:=Tryz.sizeOf223
 v46:=Tryz.zeroValue223
 t49:=Tryz.underlying22
 a49:=Tryz.isAgg22
 z49:=Tryz.sizeOf22
 v49:=Tryz.zeroValue22
 t51:=Tryz.underlying262
 a51:=Tryz.isAgg262
 z51:=Tryz.sizeOf262
 v51:=Tryz.zeroValue262
 t119:=Tryz.underlying209
 a119:=Tryz.isAgg209
 z119:=Tryz.sizeOf209
 t141:=Tryz.underlying264
 a141:=Tryz.isAgg264
 z141:=Tryz.sizeOf264
 v141:=Tryz.zeroValue264
 t152:=Tryz.underlying259
 a152:=Tryz.isAgg259
 z152:=Tryz.sizeOf259
 v152:=Tryz.zeroValue259
 t154:=Tryz.underlying261
 a154:=Tryz.isAgg261
 z154:=Tryz.sizeOf261
 v154:=Tryz.zeroValue261
 t193:=Tryz.underlying301
 a193:=Tryz.isAgg301
 z193:=Tryz.sizeOf301
 v193:=Tryz.zeroValue301
 t194:=Tryz.underlying302
 a194:=Tryz.isAgg302
 z194:=Tryz.sizeOf302
 v194:=Tryz.zeroValue302
 t196:=Tryz.underlying304
 a196:=Tryz.isAgg304
 z196:=Tryz.sizeOf304
 v196:=Tryz.zeroValue304
 t198:=Tryz.underlying306
 a198:=Tryz.isAgg306
 z198:=Tryz.sizeOf306
 v198:=Tryz.zeroValue306
 t201:=Tryz.underlying309
 a201:=Tryz.isAgg309
 z201:=Tryz.sizeOf309
 v201:=Tryz.zeroValue309
 t226:=Tryz.underlying339
 a226:=Tryz.isAgg339
 z226:=Tryz.sizeOf339
 v226:=Tryz.zeroValue339
 t227:=Tryz.underlying340
 a227:=Tryz.isAgg340
 z227:=Tryz.sizeOf340
 v227:=Tryz.zeroValue340
 g0:=by kernel_rfl
 g6:=by kernel_rfl}
def Tryz.lays194_ren:Go.Shelf.Ren:=⟨fun|194=>94|n=>n,fun|31=>55|9=>9|3=>3|4=>4|0=>0|n=>n,fun|n=>n⟩
theorem Tryz.lays194:Go.Proofs.Lays.n194 Tryz.prog Tryz.lays194_ren:={
 mixed:=by kernel_rfl
 f194:=Tryz.func94.trans (congrArg some (by kernel_rfl))
 t0:=Tryz.underlying0
 a0:=Tryz.isAgg0
 z0:=Tryz.sizeOf0
 v0:=Tryz.zeroValue0
 t3:=Tryz.underlying3
 a3:=Tryz.isAgg3
 z3:=Tryz.sizeOf3
 v3:=Tryz.zeroValue3
 t4:=Tryz.underlying4
 a4:=Tryz.isAgg4
 z4:=Tryz.sizeOf4
 v4:=Tryz.zeroValue4
 t9:=Tryz.underlying9
 a9:=Tryz.isAgg9
 z9:=Tryz.sizeOf9
 v9:=Tryz.zeroValue9
 t31:=Tryz.underlying55
 a31:=Tryz.isAgg55
 z31:=Tryz.sizeOf55
 v31:=Tryz.zeroValue55}
open Go.RowKit Go.Lib Go.Sort in
theorem Tryz.slices_Compact_string(blk off cap:Nat)(zs:List (List UInt8))(w:World)(hH:Holds encStr w blk off zs.toArray)(hsz:zs.length<=9223372036854775807)(hcap:zs.length<=cap):
  Calls Tryz.prog 94 #[.slice (some ⟨blk,off,none⟩) zs.length cap] w fun e w'=>e= .returned (.slice (some ⟨blk,off,none⟩) (Lib.compact zs).length cap)/\ ∃q,w'=putRow encStr (Sort.ahead w q) blk off (Lib.compact zs++List.replicate (zs.length - (Lib.compact zs).length) []).toArray:=Any.slices_Compact_string Tryz.lays194 blk off cap zs w hH hsz hcap
open Go.RowKit Go.Lib Go.Sort in
theorem Tryz.slices_Compact_string_empty(a:Option Addr)(cap:Nat)(w:World):
  Calls Tryz.prog 94 #[.slice a 0 cap] w fun e w'=>e= .returned (.slice a 0 cap)/\w'=w:=Any.slices_Compact_string_empty Tryz.lays194 a cap w
def Tryz.laysNm224_ren:Go.Shelf.Ren:=⟨fun|24=>232|n=>n,fun|24=>55|9=>9|3=>3|4=>4|0=>0|n=>n,fun|n=>n⟩
theorem Tryz.laysNm224:Go.Proofs.Lays2.n24 Tryz.prog Tryz.laysNm224_ren:={
 mixed:=by kernel_rfl
 f24:=Tryz.func232.trans (congrArg some (by kernel_rfl))
 t0:=Tryz.underlying0
 a0:=Tryz.isAgg0
 z0:=Tryz.sizeOf0
 v0:=Tryz.zeroValue0
 t3:=Tryz.underlying3
 a3:=Tryz.isAgg3
 z3:=Tryz.sizeOf3
 v3:=Tryz.zeroValue3
 t4:=Tryz.underlying4
 a4:=Tryz.isAgg4
 z4:=Tryz.sizeOf4
 v4:=Tryz.zeroValue4
 t9:=Tryz.underlying9
 a9:=Tryz.isAgg9
 z9:=Tryz.sizeOf9
 v9:=Tryz.zeroValue9
 t24:=Tryz.underlying55
 a24:=Tryz.isAgg55
 z24:=Tryz.sizeOf55
 v24:=Tryz.zeroValue55
 i9:=by kernel_rfl}
open Go.RowKit Go.Lib Go.Sort in
theorem Tryz.slices_Delete_string(blk off cap i j:Nat)(zs:List (List UInt8))(w:World)(hH:Holds encStr w blk off zs.toArray)(hcap:zs.length<=cap)(hm:cap<=9223372036854775807)(hij:i<=j)(hj:j<=zs.length):
  Calls Tryz.prog 232 #[.slice (some ⟨blk,off,none⟩) zs.length cap,.int .i64 i,.int .i64 j] w fun e w'=>e= .returned (.slice (some ⟨blk,off,none⟩) (zs.length - (j - i)) cap)/\ ∃q,w'=putRow encStr (Sort.ahead w q) blk off (zs.take i++zs.drop j++List.replicate (j - i) []).toArray:=Any.slices_Delete_string Tryz.laysNm224 blk off cap i j zs w hH hcap hm hij hj
open Go.RowKit Go.Sort in
theorem Tryz.slices_Sort_string_none(p:Option Addr)(cap:Nat)(w:World):
  Calls Tryz.prog 93 #[.slice p 0 cap] w fun e w'=>e= .returned (.tuple #[])/\w'=w:=Any.slices_Sort_string_none Tryz.lays190 p cap w
def Tryz.lays196_ren:Go.Shelf.Ren:=⟨fun|196=>262|259=>273|n=>n,fun|9=>9|4=>4|3=>3|5=>5|12=>12|119=>209|0=>0|46=>223|139=>369|138=>368|53=>169|n=>n,fun|3=>3|4=>4|n=>n⟩
theorem Tryz.lays196:Go.Proofs.Lays.n196 Tryz.prog Tryz.lays196_ren:={
 mixed:=by kernel_rfl
 f196:=Tryz.func262.trans (congrArg some (by kernel_rfl))
 f259:=Tryz.func273.trans (congrArg some (by kernel_rfl))
 t0:=Tryz.underlying0
 a0:=Tryz.isAgg0
 z0:=Tryz.sizeOf0
 v0:=Tryz.zeroValue0
 t3:=Tryz.underlying3
 a3:=Tryz.isAgg3
 z3:=Tryz.sizeOf3
 v3:=Tryz.zeroValue3
 t4:=Tryz.underlying4
 a4:=Tryz.isAgg4
 z4:=Tryz.sizeOf4
 v4:=Tryz.zeroValue4
 t5:=Tryz.underlying5
 a5:=Tryz.isAgg5
 z5:=Tryz.sizeOf5
 v5:=Tryz.zeroValue5
 t9:=Tryz.underlying9
 a9:=Tryz.isAgg9
 z9:=Tryz.sizeOf9
 v9:=Tryz.zeroValue9
 t12:=Tryz.underlying12
 a12:=Tryz.isAgg12
 z12:=Tryz.sizeOf12
 v12:=Tryz.zeroValue12
 t46:=Tryz.underlying223
 a46:=Tryz.isAgg223
 z46:=Tryz.sizeOf223
 v46:=Tryz.zeroValue223
 t53:=Tryz.underlying169
 a53:=Tryz.isAgg169
 z53:=Tryz.sizeOf169
 v53:=Tryz.zeroValue169
 t119:=Tryz.underlying209
 a119:=Tryz.isAgg209
 z119:=Tryz.sizeOf209
 t138:=Tryz.underlying368
 a138:=Tryz.isAgg368
 z138:=Tryz.sizeOf368
 v138:=Tryz.zeroValue368
 t139:=Tryz.underlying369
 a139:=Tryz.isAgg369
 z139:=Tryz.sizeOf369
 v139:=Tryz.zeroValue369
 g3:=by kernel_rfl
 g4:=by kernel_rfl}
def Tryz.sorted226_ren:Go.Shelf.Ren:=⟨fun|6=>226|8=>250|9=>93|11=>269|13=>124|12=>123|23=>166|24=>167|14=>157|15=>158|16=>159|17=>160|18=>161|19=>162|20=>163|21=>164|22=>165|25=>197|26=>198|27=>199|28=>200|29=>201|30=>202|31=>234|n=>n,fun|26=>9|28=>333|24=>55|0=>0|3=>3|37=>223|48=>262|50=>169|4=>4|40=>269|39=>268|45=>166|5=>5|9=>9|51=>311|55=>315|57=>341|58=>342|33=>118|n=>n,fun|n=>n⟩
theorem Tryz.sorted226:Go.Proofs.SlLaysZ.n6 Tryz.prog Tryz.sorted226_ren:={
 mixed:=by kernel_rfl
 f6:=⟨Tryz.f226.name,by decide,Tryz.func226.trans (congrArg some (by kernel_rfl))⟩
 f8:=⟨Tryz.f250.name,by decide,Tryz.func250.trans (congrArg some (by kernel_rfl))⟩
 f11:=⟨Tryz.f269.name,by decide,Tryz.func269.trans (congrArg some (by kernel_rfl))⟩
 t0:=Tryz.underlying0
 a0:=Tryz.isAgg0
 z0:=Tryz.sizeOf0
 v0:=Tryz.zeroValue0
 t24:=Tryz.underlying55
 a24:=Tryz.isAgg55
 z24:=Tryz.sizeOf55
 v24:=Tryz.zeroValue55
 t26:=Tryz.underlying9
 a26:=Tryz.isAgg9
 z26:=Tryz.sizeOf9
 v26:=Tryz.zeroValue9
 t28:=Tryz.underlying333
 a28:=Tryz.isAgg333
 z28:=Tryz.sizeOf333
 v28:=Tryz.zeroValue333
 i26:=by kernel_rfl}
end Go.Proofs
end
noncomputable section
set_option maxRecDepth 100000
namespace Go.Fl
open Go Go.Proofs Go.RowKit Go.Maps Go.Sort Go.Shelf
variable {P:Program}{ρ:Ren}
def v5w(F:Fence)(n:Nat)(P:Program)(g:Nat)(lb:Array Value)(ss:List (List UInt8))(w:World):Prop:=
 ∀(l:Nat) (J:List (List UInt8)->World->Prop) (W:World),Below w.heap.size w W->AbidesFrom W.heap.size J->(∀pre W1,J pre W1->Below w.heap.size w W1)->
  (∀pre x W1,J pre W1->pre.length<ss.length->YieldAt F (n - 1) P l #[encStr x] W1 fun e W'=>e= .returned (.bool true)/\J (pre++[x]) W'/\KeepsWalks W1 W')->
  J [] W->CallsIn F n P g (#[.func (.yield l) #[] #[]]++lb) W fun e W'=>(∃v,e= .returned v)/\J ss W'
theorem j97{W:World}{base j:Nat}{e:TypeId}{v:Value}{k:Nat}{xs:List Value}{o:Obj}(h:W.ownsRow base e 1 v k xs)(hj:W.heap[j]? =some o)(hno: ∀cur,o≠ .cells cur e (0,0))(o':Obj):(W.putObj j o').ownsRow base e 1 v k xs:=
 h.kept (grownBy_putObj_a W j o') (ownsRow_ne_a h hj hno)
set_option maxHeartbeats 2000000 in
theorem j6l(L:SlLaysZ.n11 P ρ)(F:Fence)(n:Nat)(hf:F.fn (ρ.f 11))(hro:F.round=none)(hn:2<=n)(g:Nat)(lb:Array Value)(hg:F.fn g)(eg: ∀args w,(callFunc g args).run P w= .ok (.enter g args) w)
  (ss:List (List UInt8))(hN:ss.length<=maxLen)(hNb:ss.length*16<=140737488355328)(w:World)(hseq:v5w F (n - 1) P g lb ss w):
  CallsIn F n P (ρ.f 11) #[.slice none 0 0,.func (.func g) #[] lb] w fun e w'=> ∃v,e= .returned v/\w'.ownsRow w.heap.size (ρ.t 26) 1 v ss.length (ss.map encStr)/\Below w.heap.size w w':=by
 have mixed:=L.mixed;have t0:=L.t0;have a0:=L.a0;have z0:=L.z0;have v0:=L.v0;have t24:=L.t24;have a24:=L.a24;have z24:=L.z24;have v24:=L.v24;have t26:=L.t26;have a26:=L.a26;have z26:=L.z26;have v26:=L.v26
 have u0:=run_underlying L.t0;have u24:=run_underlying L.t24;have u26:=run_underlying L.t26
 have apart:ρ.t 24≠ρ.t 26:=fun e=>by have h:=L.t24;rw[e,L.t26] at h;cases h
 obtain⟨_,_,body⟩:=L.f11
 refine callsIn_of_wp_marks body rfl hf ?_ hro
 simp only[SlBodyZ.n11_ntmps ρ,List.size_toArray,List.length_cons,List.length_nil,Nat.reduceAdd,Nat.reduceSub,Array.replicate_succ,Array.replicate_zero,List.push_toArray,List.append_toArray,List.nil_append,List.cons_append]
 gi_wp2
 refine wpIn_rangeFunc fun fn hfn=> ?_
 rw[hro]
 generalize hA:w.alloc (.cells #[.slice none 0 0] (ρ.t 24))=A
 have sA:A.heap.size=w.heap.size+1:=by rw[←hA];simp
 have bA:Below w.heap.size w A:=by rw[←hA];exact (Below.refl _ w).alloc (Nat.le_refl _) _
 have xA:A.heap[w.heap.size]? =some (.cells #[.slice none 0 0] (ρ.t 24) (0,0)):=by rw[←hA];exact World.alloc_heap_new w _
 generalize hrec:AnyZ.apRec ρ fn (.func (.func g) #[] lb) w.heap.size A.heap.size .ready none=rec
 generalize hB:(A.alloc (.deferred (some []))).alloc (.loop rec)=B
 have oldB: ∀k,k<A.heap.size->B.heap[k]? =A.heap[k]? :=fun k hk=>by rw[←hB];exact (Below.heap_alloc _ _ k (by simp;omega)).trans (Below.heap_alloc _ _ k hk)
 have bB:Below w.heap.size w B:=by rw[←hB];exact (bA.alloc bA.size _).alloc (by have:=bA.size;simp;omega) _
 have dB:B.heap[A.heap.size]? =some (.deferred (some [])):=by rw[←hB];exact (Below.heap_alloc _ _ _ (by simp)).trans (World.alloc_heap_new A _)
 have lB:B.heap[A.heap.size+1]? =some (.loop rec):=by rw[←hB];have:=World.alloc_heap_new (A.alloc (.deferred (some []))) (.loop rec);rwa [World.size_alloc] at this
 have start:AnyZ.ApAt ρ w fn (.func (.func g) #[] lb) w.heap.size (A.heap.size+1) A.heap.size [] B:=
  ⟨⟨_,(oldB _ (by omega)).trans xA,⟨rfl,.inl ⟨rfl,rfl⟩⟩,by simp⟩,by rw[hrec];exact lB,dB,bB⟩
 refine⟨A.heap.size+1,[{target:= .collected A.heap.size,args:= #[]}],B,{target:= .fn (.func g) lb,args:= #[.func (.yield (A.heap.size+1)) #[] #[]]},B,g,#[.func (.yield (A.heap.size+1)) #[] #[]]++lb,B,?_,?_,?_,?_,fun _=>(by omega),?_⟩
 ·rw[←hB,←hrec];exact run_enterLoop_outer _ _ _ _ _
 ·simp[resolve,go_sem]
 ·intro f' h';simp[Target.leads] at h';exact h'▸hg
 ·simp[invoke,go_sem,eg]
 refine (hseq _ (AnyZ.ApAt ρ w fn (.func (.func g) #[] lb) w.heap.size (A.heap.size+1) A.heap.size) B bB (AnyZ.ap_abides ρ _ _ _ _ _ _ _ bB.size) (fun _ _ h=>h.below)
  (fun pre x W h hl=>AnyZ.apYield {L with} F _ w fn hfn _ _ _ _ (by omega) (by omega) (by omega) (Nat.le_refl _) (by omega) ss.length hN hNb pre x W h hl) start).mono ?_
 rintro e C ⟨⟨_,rfl⟩,hC⟩
 obtain⟨v,hv,hrow,_⟩:=hC.box
 have hend:=run_endLoop (P:=P) hC.L (by simp[AnyZ.apRec])
 generalize hD:C.putObj (A.heap.size+1) (.loop {AnyZ.apRec ρ fn (.func (.func g) #[] lb) w.heap.size A.heap.size .ready none with state:= .exhausted})=D at hend
 have rowD:D.ownsRow w.heap.size (ρ.t 26) 1 v ss.length (ss.map encStr):=by rw[←hD];exact j97 hrow hC.L (fun _ h=>by cases h) _
 have boxD:D.heap[w.heap.size]? =some (.cells #[v] (ρ.t 24) (0,0)):=by rw[←hD];exact (World.putObj_heap_other (by omega)).trans hv
 have defD:D.heap[A.heap.size]? =some (.deferred (some [])):=by rw[←hD];exact (World.putObj_heap_other (by omega)).trans hC.K
 have belD:Below w.heap.size w D:=by rw[←hD];exact hC.below.grown (grownBy_putObj_a _ _ _) hC.below.size (fun k h=>by cases h;omega)
 obtain⟨cellD,markD⟩:=cell_of_box_a boxD
 clear hD
 refine⟨none,D,hend,?_⟩
 gi_wp2
 rw[←sA]
 refine⟨by simp,.inl ⟨_,_,rfl,run_takeDeferred defD,?_⟩⟩
 exact⟨_,results_tmp rfl _ _ _,v,rfl,j97 rowD defD (fun _ h=>by cases h) _,belD.grown (grownBy_putObj_a _ _ _) belD.size (fun k h=>by cases h;omega)⟩
end Go.Fl
end
noncomputable section
set_option maxRecDepth 100000
namespace Go.Proofs.YtjepffgpbidclaaGreatDoor
open Go Go.Proofs Go.RowKit Go.Fl Go.Maps Go.Sort Go.Shelf
attribute [local go_sem] Oper.semAt_some
set_option maxHeartbeats 2000000 in
theorem w70(n:Nat)(hn:1<=n)(w W:World)(l Bs b off cap:Nat)(zs:List (List UInt8))(hreach:zs.length<=140737488355328)(hBs:Bs<w.heap.size)(hb:b<w.heap.size)(J:List (List UInt8)->World->Prop)
  (hJ: ∀pre W1,J pre W1->Below w.heap.size w W1)(hc:w.cell? ⟨Bs,0,none⟩=some (.slice (some ⟨b,off,none⟩) zs.length cap))(hcs: ∀j,j<zs.length->w.cell? ⟨b,off+j,none⟩=some (encStr (zs[j]?.getD [])))
  (hY: ∀pre x W1,J pre W1->pre.length<zs.length->YieldAt Fence.wide (n - 1) Tryz.prog l #[encStr x] W1 fun e W'=>e= .returned (.bool true)/\J (pre++[x]) W'/\KeepsWalks W1 W')(h0:J [] W):
  CallsIn Fence.wide n Tryz.prog 251 #[.func (.yield l) #[] #[],.pointer (some ⟨Bs,0,none⟩)] W fun e W'=>(∃v,e= .returned v)/\J zs W':=by
 have hc0:=((hJ _ _ h0).cell (p:=⟨Bs,0,none⟩) hBs).trans hc
 refine callsIn_of_wp Tryz.func251 rfl trivial ?_ rfl
 simp only[Tryz.ntmps251,List.size_toArray,List.length_cons,List.length_nil,Nat.reduceAdd,Nat.reduceSub,Array.replicate_succ,Array.replicate_zero,List.push_toArray,List.append_toArray,List.nil_append,List.cons_append]
 gi_wp2
 gi_loopw [7] (fun i wr=> ∃k:Nat,k<=zs.length/\i= .int .i64 k/\J (zs.take k) wr) (fun i _=>zs.length - (intOf i).toNat)
 case atStart=>exact⟨0,Nat.zero_le _,rfl,h0⟩
 case round=>
  obtain⟨k,hk,rfl,hJk⟩:=hrel
  by_cases hlt:k<zs.length
  ·have hck:=((hJ _ _ hJk).cell (p:=⟨b,off+k,none⟩) hb).trans (hcs k hlt)
   obtain⟨fn,tmps,assign,body,hy,hR⟩:=hY _ zs[k] wr hJk (by rw[List.length_take];omega)
   gi_wp2
   refine hR.mono ?_
   rintro e W3 ⟨rfl,hJ3,_⟩
   gi_wp2
   go_roundw
   case rel=>exact⟨k+1,by omega,by simp,by rw[List.take_succ_eq_append_getElem hlt];exact hJ3⟩
   case measure=>simp[intOf];omega
  ·obtain rfl:k=zs.length:=by omega
   rw[List.take_length] at hJk
   gi_wp2
   go_end0
   exact⟨⟨_,rfl⟩,hJk⟩
set_option maxHeartbeats 2000000 in
theorem w71(n:Nat)(w W:World)(l Bs cap:Nat)(a:Option Addr)(hBs:Bs<w.heap.size)(J:List (List UInt8)->World->Prop)(hJ: ∀pre W1,J pre W1->Below w.heap.size w W1)(hc:w.cell? ⟨Bs,0,none⟩=some (.slice a 0 cap))(h0:J [] W):
  CallsIn Fence.wide n Tryz.prog 251 #[.func (.yield l) #[] #[],.pointer (some ⟨Bs,0,none⟩)] W fun e W'=>(∃v,e= .returned v)/\J [] W':=by
 have hc0:=((hJ _ _ h0).cell (p:=⟨Bs,0,none⟩) hBs).trans hc
 refine callsIn_of_wp Tryz.func251 rfl trivial ?_ rfl
 simp only[Tryz.ntmps251,List.size_toArray,List.length_cons,List.length_nil,Nat.reduceAdd,Nat.reduceSub,Array.replicate_succ,Array.replicate_zero,List.push_toArray,List.append_toArray,List.nil_append,List.cons_append]
 gi_wp2
 gi_loopw [7] (fun i wr=>i= .int .i64 0/\J [] wr) (fun _ _=>0)
 case atStart=>exact⟨rfl,h0⟩
 case round=>
  obtain⟨rfl,hJs⟩:=hrel
  gi_wp2
  go_end0
  exact⟨⟨_,rfl⟩,hJs⟩
theorem y8g{σ:Hv}{w:World}(Bs:Nat)(v:Value)(l:List ByteArray)(hV:View σ w)(hB:σ Bs=some (.cells #[v] 55 (0,0)))(hr:RSl 1 (REnc Qj) σ v l)(hs:Sml l.length):
  Calls Tryz.prog 269 #[.slice none 0 0,.func (.func 251) #[] #[.pointer (some ⟨Bs,0,none⟩)]] w fun e w1=> ∃v1,e= .returned v1/\Grow [] σ w σ w1/\((vec v1 9 1 l.length (l.flatMap Qj)).ok w1/\ ∀k,(vec v1 9 1 l.length (l.flatMap Qj)).foot=some k->w.heap.size<=k/\σ k=none):=by
 have hBw:=hV _ _ hB
 have hBl:=lt_of_block hBw
 have hBc:w.cell? ⟨Bs,0,none⟩=some v:=by simp[World.cell?,hBw]
 have hlen:(l.map (·.data.toList)).length=l.length:=List.length_map _
 have hgive:v5w Fence.wide 2 Tryz.prog 251 #[.pointer (some ⟨Bs,0,none⟩)] (l.map (·.data.toList)) w:=by
  intro lp J W _ _ hJB hY h0
  obtain⟨a,cap,rfl,h1,h2,hel⟩:=hr
  cases hl0:l with
  |nil=>
   subst hl0
   exact w71 2 w W lp Bs cap a hBl J hJB hBc h0
  |cons x l'=>
   obtain⟨ad,cs,rfl,_,hrow0,hcs0⟩:=hel 0 x (by rw[hl0];rfl)
   have cell0:=(hrow0.row hV) 0 _ (by rw[hcs0];rfl)
   obtain⟨ab,ao,asp⟩:=ad
   have hsp:asp=none:=by
    cases asp with
    |none=>rfl
    |some s=>
     have:=hrow0 0 (.string x) (by rw[hcs0];rfl)
     simp[Hv.cell,Addr.add] at this
     split at this<;>simp at this
   subst hsp
   have hbl:ab<w.heap.size:=by
    have:=hrow0 0 (.string x) (by rw[hcs0];rfl)
    simp only[Vp] at this
    unfold Hv.cell at this
    simp only at this
    cases hq:σ ab with
    |none=>rw[hq] at this;simp at this
    |some o=>exact lt_of_block (hV _ _ hq)
   rw[←hl0]
   have hcome:=w70 2 (by omega) w W lp Bs ab ao cap (l.map (·.data.toList)) (by rw[hlen];exact h2) hBl hbl J hJB (by rw[hlen];exact hBc) (fun j hj=>by
    rw[hlen] at hj
    obtain⟨y,hy⟩:=getq hj
    obtain⟨ad',cs',had,_,hrow,hcs⟩:=hel j y hy
    cases had
    have hc:=(hrow.row hV) 0 (.string y) (by rw[hcs];rfl)
    rw[Bq,Vp] at hc
    rw[List.getElem?_map,hy]
    simpa [encStr] using hc) hY h0
   exact hcome
 refine (callsIn_wide (n:=3)).1 ((j6l (ρ:=Tryz.sorted226_ren) {Tryz.sorted226 with} Fence.wide 3 trivial rfl (by omega) 251 _ trivial (enters_of Tryz.func251 (by kernel_rfl) rfl) (l.map (·.data.toList)) (by rw[hlen];exact (q37 hs (show 16<=32768 by omega)).2) (by rw[hlen];exact (q37 hs (by omega)).1) w hgive).mono ?_)
 rintro e w1 ⟨v1,rfl,hown,hbel⟩
 rw[hlen] at hown
 have hfl:(l.map (·.data.toList)).map encStr=l.flatMap Qj:=(Rg l).symm
 rw[hfl] at hown
 have hsame: ∀b,b<w.heap.size->w1.heap[b]? =w.heap[b]? :=fun b hb=>hbel.block b hb
 refine⟨v1,rfl,⟨⟨hbel.os,hbel.tape,hbel.output,hbel.size,fun k hk _=>hbel.block k hk⟩,fun b o hb=>(hbel.block b (lt_of_block (hV b o hb))).trans (hV b o hb),.refl _,fun _ _ _=>rfl⟩,?_,?_⟩
 ·exact⟨hown.1,hown.2.imp id fun ⟨g,cap,cur,e1,_,e3⟩=>⟨g,cap,cur,e1,Nat.zero_le _,e3⟩⟩
 ·intro k hk
  have hge:w.heap.size<=k:=(hown.lt k hk).1
  refine⟨hge,?_⟩
  cases hq:σ k with
  |none=>rfl
  |some o=>have:=lt_of_block (hV k o hq);omega
end Go.Proofs.YtjepffgpbidclaaGreatDoor
end
