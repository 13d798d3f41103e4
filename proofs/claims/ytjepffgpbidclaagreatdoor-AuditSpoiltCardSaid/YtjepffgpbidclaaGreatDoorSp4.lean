/- For every input AuditSpoilt returns true and leaves its arguments as they were. This is part 4 of 10. Conditions: those in the statements. -/
import Derived.Test.YtjepffgpbidclaaGreatDoorProg
import Derived.Test.YtjepffgpbidclaaGreatDoorSp3
import Derived.Lib.ValidU
import Derived.Lib.ItoaNum
import Derived.KernelRfl
import Derived.Conc.MuLone
import Derived.Shelf.Small.Bits
import Derived.Shelf.Utf8.RuneCount
import Derived.Shelf.Strconv.Atoi
import Derived.Shelf.Strconv.Itoa0
import Derived.Shelf.Strconv.Itoa1
import Derived.Shelf.LaysM
import Derived.Shelf.Strconv.Itoa2
import Derived.Shelf.Strconv.Itoa3
import Derived.Shelf.Strconv.AtoiErrFast
import Derived.Shelf.Strconv.ParseIntEmpty
import Derived.Shelf.Strconv.AtoiFail
import Derived.Shelf.Strconv.Clone
import Derived.Shelf.Strconv.SyntaxError
import Derived.Shelf.LaysC
import Derived.Shelf.Strconv.ToError
import Derived.Shelf.Strconv.Lower
import Derived.Shelf.Strconv.ParseUint10
import Derived.Shelf.Strconv.ParseUint10Empty
import Derived.Shelf.Strconv.ParseUint10Any
import Derived.Shelf.Strconv.ParseInt10
import Derived.Shelf.Strconv.AtoiLong
import Derived.Shelf.Strconv.AtoiInnerAll
import Derived.Shelf.Strconv.RangeError
import Derived.Shelf.Strconv.ToErrorRange
import Derived.Shelf.Strconv.AtoiAll
import Derived.Shelf.Strconv.ErrVarAll
import Derived.Shelf.Strings.Search1
import Derived.Shelf.Strings.Search2
import Derived.Shelf.Strings.Search3
import Derived.Shelf.Strings.Count
import Derived.Shelf.Strings.Shaped
import Derived.Shelf.Sort.Plain
import Derived.Shelf.Strings.Split
import Derived.Shelf.Strings.Fields
import Derived.Shelf.Strings.SplitShaped
import Derived.Shelf.Unicode.Latin
import Derived.Shelf.Unicode.Decode
import Derived.Shelf.Strings.RuneCount
import Derived.Shelf.Strings.Explode
import Derived.Shelf.Unicode.DecodeSlow
import Derived.Shelf.Unicode.DecodeAny
import Derived.Shelf.Unicode.Is16White
import Derived.Shelf.Unicode.IsSpaceAny
import Derived.Shelf.Unicode.Is16Any
import Derived.Shelf.Unicode.Is32Any
import Derived.Shelf.Unicode.ExclAny
import Derived.Ground.Names2Prog
import Derived.Shelf.Slices.Clone
import Derived.Shelf.Slices.CompactS
import Derived.Shelf.Slices.SearchI
import Derived.Shelf.Slices.Delete
import Derived.Shelf.Slices.Cells
import Derived.Shelf.Slices.In.SortNone
import Derived.Shelf.Slices.Empties
import Derived.Ground.SlgnProg
import Derived.Shelf.SlicesE.Clone
import Derived.Ground.NamesProg
import Derived.Shelf.Unicode.ValidAny
import Derived.Shelf.SlIter.Sorted
import Derived.Ground.GgzProg
import Derived.Shelf.SlIter.Collect
import Derived.WalkKit
import Derived.OwnWalkIn
import Derived.TacticsInMore
import Derived.LoopNIn
import Derived.LoopIn
import Derived.RangeFuncLeaves
import Derived.Lib.AppendIntMem
noncomputable section
set_option maxRecDepth 100000
open Go Go.RowKit Go.Fl Go.Fl.Lk Go.Fx
namespace Go.En
abbrev Two(p:Prop):Prop:=p/\p
abbrev Wy:Type:=(List (ByteArray)->Prop)->Prop
def Bk:Wy:=fun K=>K [B8 [104,111,109,101],B8 [115,104,111,112]]
abbrev Js:Type:=Int->Int->Int->Int->Int->(Envt->Prop)->Prop
def q0m(Q0:Wy):Js:=fun salt hold cut one two K=>(26:Int)≠(0:Int)/\(↑((B8 [115]).size+(bsOf [Go.IntKind.u8.wrap ((97:Int)+salt.tmod (26:Int))]).size):Int)<=(9223372036854775807:Int)/\InI hold/\(50:Int)≠(0:Int)/\InI (hold.tmod (50:Int)*(20:Int))/\Lp2 (fun Qa Vy j8r=>[B8 [102,97,115,116,45,102,108,97,103],B8 [115,104,111,112,45,102,108,97,103],B8 [115,108,111,119,45,102,108,97,103],B8 [116,111,112,45,102,108,97,103]].length<=(9223372036854775807:Nat)->Cnd (Qa<(↑[B8 [102,97,115,116,45,102,108,97,103],B8 [115,104,111,112,45,102,108,97,103],B8 [115,108,111,119,45,102,108,97,103],B8 [116,111,112,45,102,108,97,103]].length:Int)) (((0:Int)<=Qa/\Qa<(↑[B8 [102,97,115,116,45,102,108,97,103],B8 [115,104,111,112,45,102,108,97,103],B8 [115,108,111,119,45,102,108,97,103],B8 [116,111,112,45,102,108,97,103]].length:Int))/\ ∀y2,[B8 [102,97,115,116,45,102,108,97,103],B8 [115,104,111,112,45,102,108,97,103],B8 [115,108,111,119,45,102,108,97,103],B8 [116,111,112,45,102,108,97,103]][Qa.toNat]? =some y2->Lp2 (fun Qg Ut j7l=>Cnd (Qg<=3) (InI (Qg*10)/\Sml (Ut++[Val.mk (2:Int) (Qg*10) (B8 []) []]).length/\InI (Qg+1)/\j7l (Qg+1) (Ut++[Val.mk (2:Int) (Qg*10) (B8 []) []])) (Sml (Vy++[Flg.mk y2 (2:Int) Ut true (3:Int) [] [] [] (Srv.mk (3:Int) (B8 []) (B8 []) (B8 []) [])]).length/\InI (Qa+1)/\j8r (Qa+1) (Vy++[Flg.mk y2 (2:Int) Ut true (3:Int) [] [] [] (Srv.mk (3:Int) (B8 []) (B8 []) (B8 []) [])]))) (1:Int) []) (Lp2 (fun Qf Hk j7m=>Cnd (Qf<2) (Q0 fun Qe=>At Qe Qf fun y4=>Q0 fun W0=>At W0 Qf fun y7=>(↑((B8 [115]++bsOf [Go.IntKind.u8.wrap ((97:Int)+salt.tmod (26:Int))]).size+y7.size):Int)<=(9223372036854775807:Int)/\Sml (Hk++[Lay_.mk y4 (B8 [117,115,101,114]) (B8 [115]++bsOf [Go.IntKind.u8.wrap ((97:Int)+salt.tmod (26:Int))]++y7) (hold.tmod (50:Int)*(20:Int)) (0:Int) []]).length/\InI (Qf+1)/\j7m (Qf+1) (Hk++[Lay_.mk y4 (B8 [117,115,101,114]) (B8 [115]++bsOf [Go.IntKind.u8.wrap ((97:Int)+salt.tmod (26:Int))]++y7) (hold.tmod (50:Int)*(20:Int)) (0:Int) []])) (InI one/\(9998:Int)≠(0:Int)/\InI ((1:Int)+one.tmod (9998:Int))/\InI ((1:Int)+one.tmod (9998:Int)+(1:Int))/\InI two/\InI ((9999:Int) - ((1:Int)+one.tmod (9998:Int)))/\(9999:Int) - ((1:Int)+one.tmod (9998:Int))≠(0:Int)/\InI ((1:Int)+one.tmod (9998:Int)+(1:Int)+two.tmod ((9999:Int) - ((1:Int)+one.tmod (9998:Int))))/\InI (hold.tmod (50:Int)*(20:Int)+(1:Int))/\InI cut/\InI ((10000:Int) - hold.tmod (50:Int)*(20:Int))/\InI ((10000:Int) - hold.tmod (50:Int)*(20:Int) - (1:Int))/\(10000:Int) - hold.tmod (50:Int)*(20:Int) - (1:Int)≠(0:Int)/\InI (hold.tmod (50:Int)*(20:Int)+(1:Int)+cut.tmod ((10000:Int) - hold.tmod (50:Int)*(20:Int) - (1:Int)))/\Lp2 (fun Qe Hl z8p=>Cnd (Qe<4) ((2:Int)≠(0:Int)/\((0:Int)<=Qe/\Qe<(↑[B8 [102,97,115,116,45,102,108,97,103],B8 [115,104,111,112,45,102,108,97,103],B8 [115,108,111,119,45,102,108,97,103],B8 [116,111,112,45,102,108,97,103]].length:Int))/\ ∀y4,[B8 [102,97,115,116,45,102,108,97,103],B8 [115,104,111,112,45,102,108,97,103],B8 [115,108,111,119,45,102,108,97,103],B8 [116,111,112,45,102,108,97,103]][Qe.toNat]? =some y4->(((0:Int)<=Qe/\Qe<(↑[B8 [98,108,117,101],B8 [102,97,115,116],B8 [103,114,101,101,110],B8 [115,108,111,119]].length:Int))/\ ∀y6,[B8 [98,108,117,101],B8 [102,97,115,116],B8 [103,114,101,101,110],B8 [115,108,111,119]][Qe.toNat]? =some y6->(Q0 fun q4v=>((0:Int)<=Qe.tmod (2:Int)/\Qe.tmod (2:Int)<(↑q4v.length:Int))/\ ∀y9,q4v[(Qe.tmod (2:Int)).toNat]? =some y9->(↑((B8 [115]++bsOf [Go.IntKind.u8.wrap ((97:Int)+salt.tmod (26:Int))]).size+(bsOf [Go.IntKind.u8.wrap ((48:Int)+Go.IntKind.u8.wrap Qe)]).size):Int)<=(9223372036854775807:Int)/\Cnd ((2:Int)<=Qe) (Sml (Hl++[Exper.mk y6 y9 y4 (B8 [115]++bsOf [Go.IntKind.u8.wrap ((97:Int)+salt.tmod (26:Int))]++bsOf [Go.IntKind.u8.wrap ((48:Int)+Go.IntKind.u8.wrap Qe)]) (2:Int) [Spn.mk (hold.tmod (50:Int)*(20:Int)+(1:Int)+cut.tmod ((10000:Int) - hold.tmod (50:Int)*(20:Int) - (1:Int))) (10000:Int)] [Rng.mk (0:Int) ((1:Int)+one.tmod (9998:Int)) (1:Int),Rng.mk ((1:Int)+one.tmod (9998:Int)) ((1:Int)+one.tmod (9998:Int)+(1:Int)+two.tmod ((9999:Int) - ((1:Int)+one.tmod (9998:Int)))) (2:Int),Rng.mk ((1:Int)+one.tmod (9998:Int)+(1:Int)+two.tmod ((9999:Int) - ((1:Int)+one.tmod (9998:Int)))) (10000:Int) (3:Int)] (Ex.mk (1:Int) (B8 []) (B8 []) [] [])]).length/\InI (Qe+1)/\z8p (Qe+1) (Hl++[Exper.mk y6 y9 y4 (B8 [115]++bsOf [Go.IntKind.u8.wrap ((97:Int)+salt.tmod (26:Int))]++bsOf [Go.IntKind.u8.wrap ((48:Int)+Go.IntKind.u8.wrap Qe)]) (2:Int) [Spn.mk (hold.tmod (50:Int)*(20:Int)+(1:Int)+cut.tmod ((10000:Int) - hold.tmod (50:Int)*(20:Int) - (1:Int))) (10000:Int)] [Rng.mk (0:Int) ((1:Int)+one.tmod (9998:Int)) (1:Int),Rng.mk ((1:Int)+one.tmod (9998:Int)) ((1:Int)+one.tmod (9998:Int)+(1:Int)+two.tmod ((9999:Int) - ((1:Int)+one.tmod (9998:Int)))) (2:Int),Rng.mk ((1:Int)+one.tmod (9998:Int)+(1:Int)+two.tmod ((9999:Int) - ((1:Int)+one.tmod (9998:Int)))) (10000:Int) (3:Int)] (Ex.mk (1:Int) (B8 []) (B8 []) [] [])])) (Sml (Hl++[Exper.mk y6 y9 y4 (B8 [115]++bsOf [Go.IntKind.u8.wrap ((97:Int)+salt.tmod (26:Int))]++bsOf [Go.IntKind.u8.wrap ((48:Int)+Go.IntKind.u8.wrap Qe)]) (2:Int) [Spn.mk (hold.tmod (50:Int)*(20:Int)) (hold.tmod (50:Int)*(20:Int)+(1:Int)+cut.tmod ((10000:Int) - hold.tmod (50:Int)*(20:Int) - (1:Int)))] [Rng.mk (0:Int) ((1:Int)+one.tmod (9998:Int)) (1:Int),Rng.mk ((1:Int)+one.tmod (9998:Int)) ((1:Int)+one.tmod (9998:Int)+(1:Int)+two.tmod ((9999:Int) - ((1:Int)+one.tmod (9998:Int)))) (2:Int),Rng.mk ((1:Int)+one.tmod (9998:Int)+(1:Int)+two.tmod ((9999:Int) - ((1:Int)+one.tmod (9998:Int)))) (10000:Int) (3:Int)] (Ex.mk (1:Int) (B8 []) (B8 []) [] [])]).length/\InI (Qe+1)/\z8p (Qe+1) (Hl++[Exper.mk y6 y9 y4 (B8 [115]++bsOf [Go.IntKind.u8.wrap ((97:Int)+salt.tmod (26:Int))]++bsOf [Go.IntKind.u8.wrap ((48:Int)+Go.IntKind.u8.wrap Qe)]) (2:Int) [Spn.mk (hold.tmod (50:Int)*(20:Int)) (hold.tmod (50:Int)*(20:Int)+(1:Int)+cut.tmod ((10000:Int) - hold.tmod (50:Int)*(20:Int) - (1:Int)))] [Rng.mk (0:Int) ((1:Int)+one.tmod (9998:Int)) (1:Int),Rng.mk ((1:Int)+one.tmod (9998:Int)) ((1:Int)+one.tmod (9998:Int)+(1:Int)+two.tmod ((9999:Int) - ((1:Int)+one.tmod (9998:Int)))) (2:Int),Rng.mk ((1:Int)+one.tmod (9998:Int)+(1:Int)+two.tmod ((9999:Int) - ((1:Int)+one.tmod (9998:Int)))) (10000:Int) (3:Int)] (Ex.mk (1:Int) (B8 []) (B8 []) [] [])])))/\(↑((B8 [115]++bsOf [Go.IntKind.u8.wrap ((97:Int)+salt.tmod (26:Int))]).size+(bsOf [Go.IntKind.u8.wrap ((48:Int)+Go.IntKind.u8.wrap Qe)]).size):Int)<=(9223372036854775807:Int)/\Q0 fun q4v=>((0:Int)<=Qe.tmod (2:Int)/\Qe.tmod (2:Int)<(↑q4v.length:Int))/\ ∀y9,q4v[(Qe.tmod (2:Int)).toNat]? =some y9->Cnd ((2:Int)<=Qe) (Sml (Hl++[Exper.mk y6 y9 y4 (B8 [115]++bsOf [Go.IntKind.u8.wrap ((97:Int)+salt.tmod (26:Int))]++bsOf [Go.IntKind.u8.wrap ((48:Int)+Go.IntKind.u8.wrap Qe)]) (2:Int) [Spn.mk (hold.tmod (50:Int)*(20:Int)+(1:Int)+cut.tmod ((10000:Int) - hold.tmod (50:Int)*(20:Int) - (1:Int))) (10000:Int)] [Rng.mk (0:Int) ((1:Int)+one.tmod (9998:Int)) (1:Int),Rng.mk ((1:Int)+one.tmod (9998:Int)) ((1:Int)+one.tmod (9998:Int)+(1:Int)+two.tmod ((9999:Int) - ((1:Int)+one.tmod (9998:Int)))) (2:Int),Rng.mk ((1:Int)+one.tmod (9998:Int)+(1:Int)+two.tmod ((9999:Int) - ((1:Int)+one.tmod (9998:Int)))) (10000:Int) (3:Int)] (Ex.mk (1:Int) (B8 []) (B8 []) [] [])]).length/\InI (Qe+1)/\z8p (Qe+1) (Hl++[Exper.mk y6 y9 y4 (B8 [115]++bsOf [Go.IntKind.u8.wrap ((97:Int)+salt.tmod (26:Int))]++bsOf [Go.IntKind.u8.wrap ((48:Int)+Go.IntKind.u8.wrap Qe)]) (2:Int) [Spn.mk (hold.tmod (50:Int)*(20:Int)+(1:Int)+cut.tmod ((10000:Int) - hold.tmod (50:Int)*(20:Int) - (1:Int))) (10000:Int)] [Rng.mk (0:Int) ((1:Int)+one.tmod (9998:Int)) (1:Int),Rng.mk ((1:Int)+one.tmod (9998:Int)) ((1:Int)+one.tmod (9998:Int)+(1:Int)+two.tmod ((9999:Int) - ((1:Int)+one.tmod (9998:Int)))) (2:Int),Rng.mk ((1:Int)+one.tmod (9998:Int)+(1:Int)+two.tmod ((9999:Int) - ((1:Int)+one.tmod (9998:Int)))) (10000:Int) (3:Int)] (Ex.mk (1:Int) (B8 []) (B8 []) [] [])])) (Sml (Hl++[Exper.mk y6 y9 y4 (B8 [115]++bsOf [Go.IntKind.u8.wrap ((97:Int)+salt.tmod (26:Int))]++bsOf [Go.IntKind.u8.wrap ((48:Int)+Go.IntKind.u8.wrap Qe)]) (2:Int) [Spn.mk (hold.tmod (50:Int)*(20:Int)) (hold.tmod (50:Int)*(20:Int)+(1:Int)+cut.tmod ((10000:Int) - hold.tmod (50:Int)*(20:Int) - (1:Int)))] [Rng.mk (0:Int) ((1:Int)+one.tmod (9998:Int)) (1:Int),Rng.mk ((1:Int)+one.tmod (9998:Int)) ((1:Int)+one.tmod (9998:Int)+(1:Int)+two.tmod ((9999:Int) - ((1:Int)+one.tmod (9998:Int)))) (2:Int),Rng.mk ((1:Int)+one.tmod (9998:Int)+(1:Int)+two.tmod ((9999:Int) - ((1:Int)+one.tmod (9998:Int)))) (10000:Int) (3:Int)] (Ex.mk (1:Int) (B8 []) (B8 []) [] [])]).length/\InI (Qe+1)/\z8p (Qe+1) (Hl++[Exper.mk y6 y9 y4 (B8 [115]++bsOf [Go.IntKind.u8.wrap ((97:Int)+salt.tmod (26:Int))]++bsOf [Go.IntKind.u8.wrap ((48:Int)+Go.IntKind.u8.wrap Qe)]) (2:Int) [Spn.mk (hold.tmod (50:Int)*(20:Int)) (hold.tmod (50:Int)*(20:Int)+(1:Int)+cut.tmod ((10000:Int) - hold.tmod (50:Int)*(20:Int) - (1:Int)))] [Rng.mk (0:Int) ((1:Int)+one.tmod (9998:Int)) (1:Int),Rng.mk ((1:Int)+one.tmod (9998:Int)) ((1:Int)+one.tmod (9998:Int)+(1:Int)+two.tmod ((9999:Int) - ((1:Int)+one.tmod (9998:Int)))) (2:Int),Rng.mk ((1:Int)+one.tmod (9998:Int)+(1:Int)+two.tmod ((9999:Int) - ((1:Int)+one.tmod (9998:Int)))) (10000:Int) (3:Int)] (Ex.mk (1:Int) (B8 []) (B8 []) [] [])])))/\(Q0 fun W0=>((0:Int)<=Qe.tmod (2:Int)/\Qe.tmod (2:Int)<(↑W0.length:Int))/\ ∀y7,W0[(Qe.tmod (2:Int)).toNat]? =some y7->(((0:Int)<=Qe/\Qe<(↑[B8 [98,108,117,101],B8 [102,97,115,116],B8 [103,114,101,101,110],B8 [115,108,111,119]].length:Int))/\ ∀y9,[B8 [98,108,117,101],B8 [102,97,115,116],B8 [103,114,101,101,110],B8 [115,108,111,119]][Qe.toNat]? =some y9->(↑((B8 [115]++bsOf [Go.IntKind.u8.wrap ((97:Int)+salt.tmod (26:Int))]).size+(bsOf [Go.IntKind.u8.wrap ((48:Int)+Go.IntKind.u8.wrap Qe)]).size):Int)<=(9223372036854775807:Int)/\Cnd ((2:Int)<=Qe) (Sml (Hl++[Exper.mk y9 y7 y4 (B8 [115]++bsOf [Go.IntKind.u8.wrap ((97:Int)+salt.tmod (26:Int))]++bsOf [Go.IntKind.u8.wrap ((48:Int)+Go.IntKind.u8.wrap Qe)]) (2:Int) [Spn.mk (hold.tmod (50:Int)*(20:Int)+(1:Int)+cut.tmod ((10000:Int) - hold.tmod (50:Int)*(20:Int) - (1:Int))) (10000:Int)] [Rng.mk (0:Int) ((1:Int)+one.tmod (9998:Int)) (1:Int),Rng.mk ((1:Int)+one.tmod (9998:Int)) ((1:Int)+one.tmod (9998:Int)+(1:Int)+two.tmod ((9999:Int) - ((1:Int)+one.tmod (9998:Int)))) (2:Int),Rng.mk ((1:Int)+one.tmod (9998:Int)+(1:Int)+two.tmod ((9999:Int) - ((1:Int)+one.tmod (9998:Int)))) (10000:Int) (3:Int)] (Ex.mk (1:Int) (B8 []) (B8 []) [] [])]).length/\InI (Qe+1)/\z8p (Qe+1) (Hl++[Exper.mk y9 y7 y4 (B8 [115]++bsOf [Go.IntKind.u8.wrap ((97:Int)+salt.tmod (26:Int))]++bsOf [Go.IntKind.u8.wrap ((48:Int)+Go.IntKind.u8.wrap Qe)]) (2:Int) [Spn.mk (hold.tmod (50:Int)*(20:Int)+(1:Int)+cut.tmod ((10000:Int) - hold.tmod (50:Int)*(20:Int) - (1:Int))) (10000:Int)] [Rng.mk (0:Int) ((1:Int)+one.tmod (9998:Int)) (1:Int),Rng.mk ((1:Int)+one.tmod (9998:Int)) ((1:Int)+one.tmod (9998:Int)+(1:Int)+two.tmod ((9999:Int) - ((1:Int)+one.tmod (9998:Int)))) (2:Int),Rng.mk ((1:Int)+one.tmod (9998:Int)+(1:Int)+two.tmod ((9999:Int) - ((1:Int)+one.tmod (9998:Int)))) (10000:Int) (3:Int)] (Ex.mk (1:Int) (B8 []) (B8 []) [] [])])) (Sml (Hl++[Exper.mk y9 y7 y4 (B8 [115]++bsOf [Go.IntKind.u8.wrap ((97:Int)+salt.tmod (26:Int))]++bsOf [Go.IntKind.u8.wrap ((48:Int)+Go.IntKind.u8.wrap Qe)]) (2:Int) [Spn.mk (hold.tmod (50:Int)*(20:Int)) (hold.tmod (50:Int)*(20:Int)+(1:Int)+cut.tmod ((10000:Int) - hold.tmod (50:Int)*(20:Int) - (1:Int)))] [Rng.mk (0:Int) ((1:Int)+one.tmod (9998:Int)) (1:Int),Rng.mk ((1:Int)+one.tmod (9998:Int)) ((1:Int)+one.tmod (9998:Int)+(1:Int)+two.tmod ((9999:Int) - ((1:Int)+one.tmod (9998:Int)))) (2:Int),Rng.mk ((1:Int)+one.tmod (9998:Int)+(1:Int)+two.tmod ((9999:Int) - ((1:Int)+one.tmod (9998:Int)))) (10000:Int) (3:Int)] (Ex.mk (1:Int) (B8 []) (B8 []) [] [])]).length/\InI (Qe+1)/\z8p (Qe+1) (Hl++[Exper.mk y9 y7 y4 (B8 [115]++bsOf [Go.IntKind.u8.wrap ((97:Int)+salt.tmod (26:Int))]++bsOf [Go.IntKind.u8.wrap ((48:Int)+Go.IntKind.u8.wrap Qe)]) (2:Int) [Spn.mk (hold.tmod (50:Int)*(20:Int)) (hold.tmod (50:Int)*(20:Int)+(1:Int)+cut.tmod ((10000:Int) - hold.tmod (50:Int)*(20:Int) - (1:Int)))] [Rng.mk (0:Int) ((1:Int)+one.tmod (9998:Int)) (1:Int),Rng.mk ((1:Int)+one.tmod (9998:Int)) ((1:Int)+one.tmod (9998:Int)+(1:Int)+two.tmod ((9999:Int) - ((1:Int)+one.tmod (9998:Int)))) (2:Int),Rng.mk ((1:Int)+one.tmod (9998:Int)+(1:Int)+two.tmod ((9999:Int) - ((1:Int)+one.tmod (9998:Int)))) (10000:Int) (3:Int)] (Ex.mk (1:Int) (B8 []) (B8 []) [] [])])))/\(↑((B8 [115]++bsOf [Go.IntKind.u8.wrap ((97:Int)+salt.tmod (26:Int))]).size+(bsOf [Go.IntKind.u8.wrap ((48:Int)+Go.IntKind.u8.wrap Qe)]).size):Int)<=(9223372036854775807:Int)/\((0:Int)<=Qe/\Qe<(↑[B8 [98,108,117,101],B8 [102,97,115,116],B8 [103,114,101,101,110],B8 [115,108,111,119]].length:Int))/\ ∀y9,[B8 [98,108,117,101],B8 [102,97,115,116],B8 [103,114,101,101,110],B8 [115,108,111,119]][Qe.toNat]? =some y9->Cnd ((2:Int)<=Qe) (Sml (Hl++[Exper.mk y9 y7 y4 (B8 [115]++bsOf [Go.IntKind.u8.wrap ((97:Int)+salt.tmod (26:Int))]++bsOf [Go.IntKind.u8.wrap ((48:Int)+Go.IntKind.u8.wrap Qe)]) (2:Int) [Spn.mk (hold.tmod (50:Int)*(20:Int)+(1:Int)+cut.tmod ((10000:Int) - hold.tmod (50:Int)*(20:Int) - (1:Int))) (10000:Int)] [Rng.mk (0:Int) ((1:Int)+one.tmod (9998:Int)) (1:Int),Rng.mk ((1:Int)+one.tmod (9998:Int)) ((1:Int)+one.tmod (9998:Int)+(1:Int)+two.tmod ((9999:Int) - ((1:Int)+one.tmod (9998:Int)))) (2:Int),Rng.mk ((1:Int)+one.tmod (9998:Int)+(1:Int)+two.tmod ((9999:Int) - ((1:Int)+one.tmod (9998:Int)))) (10000:Int) (3:Int)] (Ex.mk (1:Int) (B8 []) (B8 []) [] [])]).length/\InI (Qe+1)/\z8p (Qe+1) (Hl++[Exper.mk y9 y7 y4 (B8 [115]++bsOf [Go.IntKind.u8.wrap ((97:Int)+salt.tmod (26:Int))]++bsOf [Go.IntKind.u8.wrap ((48:Int)+Go.IntKind.u8.wrap Qe)]) (2:Int) [Spn.mk (hold.tmod (50:Int)*(20:Int)+(1:Int)+cut.tmod ((10000:Int) - hold.tmod (50:Int)*(20:Int) - (1:Int))) (10000:Int)] [Rng.mk (0:Int) ((1:Int)+one.tmod (9998:Int)) (1:Int),Rng.mk ((1:Int)+one.tmod (9998:Int)) ((1:Int)+one.tmod (9998:Int)+(1:Int)+two.tmod ((9999:Int) - ((1:Int)+one.tmod (9998:Int)))) (2:Int),Rng.mk ((1:Int)+one.tmod (9998:Int)+(1:Int)+two.tmod ((9999:Int) - ((1:Int)+one.tmod (9998:Int)))) (10000:Int) (3:Int)] (Ex.mk (1:Int) (B8 []) (B8 []) [] [])])) (Sml (Hl++[Exper.mk y9 y7 y4 (B8 [115]++bsOf [Go.IntKind.u8.wrap ((97:Int)+salt.tmod (26:Int))]++bsOf [Go.IntKind.u8.wrap ((48:Int)+Go.IntKind.u8.wrap Qe)]) (2:Int) [Spn.mk (hold.tmod (50:Int)*(20:Int)) (hold.tmod (50:Int)*(20:Int)+(1:Int)+cut.tmod ((10000:Int) - hold.tmod (50:Int)*(20:Int) - (1:Int)))] [Rng.mk (0:Int) ((1:Int)+one.tmod (9998:Int)) (1:Int),Rng.mk ((1:Int)+one.tmod (9998:Int)) ((1:Int)+one.tmod (9998:Int)+(1:Int)+two.tmod ((9999:Int) - ((1:Int)+one.tmod (9998:Int)))) (2:Int),Rng.mk ((1:Int)+one.tmod (9998:Int)+(1:Int)+two.tmod ((9999:Int) - ((1:Int)+one.tmod (9998:Int)))) (10000:Int) (3:Int)] (Ex.mk (1:Int) (B8 []) (B8 []) [] [])]).length/\InI (Qe+1)/\z8p (Qe+1) (Hl++[Exper.mk y9 y7 y4 (B8 [115]++bsOf [Go.IntKind.u8.wrap ((97:Int)+salt.tmod (26:Int))]++bsOf [Go.IntKind.u8.wrap ((48:Int)+Go.IntKind.u8.wrap Qe)]) (2:Int) [Spn.mk (hold.tmod (50:Int)*(20:Int)) (hold.tmod (50:Int)*(20:Int)+(1:Int)+cut.tmod ((10000:Int) - hold.tmod (50:Int)*(20:Int) - (1:Int)))] [Rng.mk (0:Int) ((1:Int)+one.tmod (9998:Int)) (1:Int),Rng.mk ((1:Int)+one.tmod (9998:Int)) ((1:Int)+one.tmod (9998:Int)+(1:Int)+two.tmod ((9999:Int) - ((1:Int)+one.tmod (9998:Int)))) (2:Int),Rng.mk ((1:Int)+one.tmod (9998:Int)+(1:Int)+two.tmod ((9999:Int) - ((1:Int)+one.tmod (9998:Int)))) (10000:Int) (3:Int)] (Ex.mk (1:Int) (B8 []) (B8 []) [] [])])))/\(↑((B8 [115]++bsOf [Go.IntKind.u8.wrap ((97:Int)+salt.tmod (26:Int))]).size+(bsOf [Go.IntKind.u8.wrap ((48:Int)+Go.IntKind.u8.wrap Qe)]).size):Int)<=(9223372036854775807:Int)/\(((0:Int)<=Qe/\Qe<(↑[B8 [98,108,117,101],B8 [102,97,115,116],B8 [103,114,101,101,110],B8 [115,108,111,119]].length:Int))/\ ∀y6,[B8 [98,108,117,101],B8 [102,97,115,116],B8 [103,114,101,101,110],B8 [115,108,111,119]][Qe.toNat]? =some y6->Q0 fun q4v=>((0:Int)<=Qe.tmod (2:Int)/\Qe.tmod (2:Int)<(↑q4v.length:Int))/\ ∀y9,q4v[(Qe.tmod (2:Int)).toNat]? =some y9->Cnd ((2:Int)<=Qe) (Sml (Hl++[Exper.mk y6 y9 y4 (B8 [115]++bsOf [Go.IntKind.u8.wrap ((97:Int)+salt.tmod (26:Int))]++bsOf [Go.IntKind.u8.wrap ((48:Int)+Go.IntKind.u8.wrap Qe)]) (2:Int) [Spn.mk (hold.tmod (50:Int)*(20:Int)+(1:Int)+cut.tmod ((10000:Int) - hold.tmod (50:Int)*(20:Int) - (1:Int))) (10000:Int)] [Rng.mk (0:Int) ((1:Int)+one.tmod (9998:Int)) (1:Int),Rng.mk ((1:Int)+one.tmod (9998:Int)) ((1:Int)+one.tmod (9998:Int)+(1:Int)+two.tmod ((9999:Int) - ((1:Int)+one.tmod (9998:Int)))) (2:Int),Rng.mk ((1:Int)+one.tmod (9998:Int)+(1:Int)+two.tmod ((9999:Int) - ((1:Int)+one.tmod (9998:Int)))) (10000:Int) (3:Int)] (Ex.mk (1:Int) (B8 []) (B8 []) [] [])]).length/\InI (Qe+1)/\z8p (Qe+1) (Hl++[Exper.mk y6 y9 y4 (B8 [115]++bsOf [Go.IntKind.u8.wrap ((97:Int)+salt.tmod (26:Int))]++bsOf [Go.IntKind.u8.wrap ((48:Int)+Go.IntKind.u8.wrap Qe)]) (2:Int) [Spn.mk (hold.tmod (50:Int)*(20:Int)+(1:Int)+cut.tmod ((10000:Int) - hold.tmod (50:Int)*(20:Int) - (1:Int))) (10000:Int)] [Rng.mk (0:Int) ((1:Int)+one.tmod (9998:Int)) (1:Int),Rng.mk ((1:Int)+one.tmod (9998:Int)) ((1:Int)+one.tmod (9998:Int)+(1:Int)+two.tmod ((9999:Int) - ((1:Int)+one.tmod (9998:Int)))) (2:Int),Rng.mk ((1:Int)+one.tmod (9998:Int)+(1:Int)+two.tmod ((9999:Int) - ((1:Int)+one.tmod (9998:Int)))) (10000:Int) (3:Int)] (Ex.mk (1:Int) (B8 []) (B8 []) [] [])])) (Sml (Hl++[Exper.mk y6 y9 y4 (B8 [115]++bsOf [Go.IntKind.u8.wrap ((97:Int)+salt.tmod (26:Int))]++bsOf [Go.IntKind.u8.wrap ((48:Int)+Go.IntKind.u8.wrap Qe)]) (2:Int) [Spn.mk (hold.tmod (50:Int)*(20:Int)) (hold.tmod (50:Int)*(20:Int)+(1:Int)+cut.tmod ((10000:Int) - hold.tmod (50:Int)*(20:Int) - (1:Int)))] [Rng.mk (0:Int) ((1:Int)+one.tmod (9998:Int)) (1:Int),Rng.mk ((1:Int)+one.tmod (9998:Int)) ((1:Int)+one.tmod (9998:Int)+(1:Int)+two.tmod ((9999:Int) - ((1:Int)+one.tmod (9998:Int)))) (2:Int),Rng.mk ((1:Int)+one.tmod (9998:Int)+(1:Int)+two.tmod ((9999:Int) - ((1:Int)+one.tmod (9998:Int)))) (10000:Int) (3:Int)] (Ex.mk (1:Int) (B8 []) (B8 []) [] [])]).length/\InI (Qe+1)/\z8p (Qe+1) (Hl++[Exper.mk y6 y9 y4 (B8 [115]++bsOf [Go.IntKind.u8.wrap ((97:Int)+salt.tmod (26:Int))]++bsOf [Go.IntKind.u8.wrap ((48:Int)+Go.IntKind.u8.wrap Qe)]) (2:Int) [Spn.mk (hold.tmod (50:Int)*(20:Int)) (hold.tmod (50:Int)*(20:Int)+(1:Int)+cut.tmod ((10000:Int) - hold.tmod (50:Int)*(20:Int) - (1:Int)))] [Rng.mk (0:Int) ((1:Int)+one.tmod (9998:Int)) (1:Int),Rng.mk ((1:Int)+one.tmod (9998:Int)) ((1:Int)+one.tmod (9998:Int)+(1:Int)+two.tmod ((9999:Int) - ((1:Int)+one.tmod (9998:Int)))) (2:Int),Rng.mk ((1:Int)+one.tmod (9998:Int)+(1:Int)+two.tmod ((9999:Int) - ((1:Int)+one.tmod (9998:Int)))) (10000:Int) (3:Int)] (Ex.mk (1:Int) (B8 []) (B8 []) [] [])])))/\Q0 fun W0=>((0:Int)<=Qe.tmod (2:Int)/\Qe.tmod (2:Int)<(↑W0.length:Int))/\ ∀y7,W0[(Qe.tmod (2:Int)).toNat]? =some y7->((0:Int)<=Qe/\Qe<(↑[B8 [98,108,117,101],B8 [102,97,115,116],B8 [103,114,101,101,110],B8 [115,108,111,119]].length:Int))/\ ∀y9,[B8 [98,108,117,101],B8 [102,97,115,116],B8 [103,114,101,101,110],B8 [115,108,111,119]][Qe.toNat]? =some y9->Cnd ((2:Int)<=Qe) (Sml (Hl++[Exper.mk y9 y7 y4 (B8 [115]++bsOf [Go.IntKind.u8.wrap ((97:Int)+salt.tmod (26:Int))]++bsOf [Go.IntKind.u8.wrap ((48:Int)+Go.IntKind.u8.wrap Qe)]) (2:Int) [Spn.mk (hold.tmod (50:Int)*(20:Int)+(1:Int)+cut.tmod ((10000:Int) - hold.tmod (50:Int)*(20:Int) - (1:Int))) (10000:Int)] [Rng.mk (0:Int) ((1:Int)+one.tmod (9998:Int)) (1:Int),Rng.mk ((1:Int)+one.tmod (9998:Int)) ((1:Int)+one.tmod (9998:Int)+(1:Int)+two.tmod ((9999:Int) - ((1:Int)+one.tmod (9998:Int)))) (2:Int),Rng.mk ((1:Int)+one.tmod (9998:Int)+(1:Int)+two.tmod ((9999:Int) - ((1:Int)+one.tmod (9998:Int)))) (10000:Int) (3:Int)] (Ex.mk (1:Int) (B8 []) (B8 []) [] [])]).length/\InI (Qe+1)/\z8p (Qe+1) (Hl++[Exper.mk y9 y7 y4 (B8 [115]++bsOf [Go.IntKind.u8.wrap ((97:Int)+salt.tmod (26:Int))]++bsOf [Go.IntKind.u8.wrap ((48:Int)+Go.IntKind.u8.wrap Qe)]) (2:Int) [Spn.mk (hold.tmod (50:Int)*(20:Int)+(1:Int)+cut.tmod ((10000:Int) - hold.tmod (50:Int)*(20:Int) - (1:Int))) (10000:Int)] [Rng.mk (0:Int) ((1:Int)+one.tmod (9998:Int)) (1:Int),Rng.mk ((1:Int)+one.tmod (9998:Int)) ((1:Int)+one.tmod (9998:Int)+(1:Int)+two.tmod ((9999:Int) - ((1:Int)+one.tmod (9998:Int)))) (2:Int),Rng.mk ((1:Int)+one.tmod (9998:Int)+(1:Int)+two.tmod ((9999:Int) - ((1:Int)+one.tmod (9998:Int)))) (10000:Int) (3:Int)] (Ex.mk (1:Int) (B8 []) (B8 []) [] [])])) (Sml (Hl++[Exper.mk y9 y7 y4 (B8 [115]++bsOf [Go.IntKind.u8.wrap ((97:Int)+salt.tmod (26:Int))]++bsOf [Go.IntKind.u8.wrap ((48:Int)+Go.IntKind.u8.wrap Qe)]) (2:Int) [Spn.mk (hold.tmod (50:Int)*(20:Int)) (hold.tmod (50:Int)*(20:Int)+(1:Int)+cut.tmod ((10000:Int) - hold.tmod (50:Int)*(20:Int) - (1:Int)))] [Rng.mk (0:Int) ((1:Int)+one.tmod (9998:Int)) (1:Int),Rng.mk ((1:Int)+one.tmod (9998:Int)) ((1:Int)+one.tmod (9998:Int)+(1:Int)+two.tmod ((9999:Int) - ((1:Int)+one.tmod (9998:Int)))) (2:Int),Rng.mk ((1:Int)+one.tmod (9998:Int)+(1:Int)+two.tmod ((9999:Int) - ((1:Int)+one.tmod (9998:Int)))) (10000:Int) (3:Int)] (Ex.mk (1:Int) (B8 []) (B8 []) [] [])]).length/\InI (Qe+1)/\z8p (Qe+1) (Hl++[Exper.mk y9 y7 y4 (B8 [115]++bsOf [Go.IntKind.u8.wrap ((97:Int)+salt.tmod (26:Int))]++bsOf [Go.IntKind.u8.wrap ((48:Int)+Go.IntKind.u8.wrap Qe)]) (2:Int) [Spn.mk (hold.tmod (50:Int)*(20:Int)) (hold.tmod (50:Int)*(20:Int)+(1:Int)+cut.tmod ((10000:Int) - hold.tmod (50:Int)*(20:Int) - (1:Int)))] [Rng.mk (0:Int) ((1:Int)+one.tmod (9998:Int)) (1:Int),Rng.mk ((1:Int)+one.tmod (9998:Int)) ((1:Int)+one.tmod (9998:Int)+(1:Int)+two.tmod ((9999:Int) - ((1:Int)+one.tmod (9998:Int)))) (2:Int),Rng.mk ((1:Int)+one.tmod (9998:Int)+(1:Int)+two.tmod ((9999:Int) - ((1:Int)+one.tmod (9998:Int)))) (10000:Int) (3:Int)] (Ex.mk (1:Int) (B8 []) (B8 []) [] [])]))) (K (Envt.mk (Sett.mk (B8 []) (B8 []) (0:Int)) [] [] Vy Hk Hl))) (0:Int) [])) (0:Int) [])) (0:Int) []
def V3:Js:=q0m Bk
abbrev q4q:Type:=ByteArray->(Subj->Prop)->Prop
def q62:q4q:=fun id K=>K (Subj.mk [Ctxt.mk (B8 [117,115,101,114]) id []])
abbrev W7:Type:=Subj->ByteArray->(Int->Prop)->Prop
def Uu:W7:=fun s kind K=>Fits s.1->Lp1 (fun Qt q4w=>CAt s.1 Qt (fun y2=>Cnd (y2.1=kind) (K Qt) (InI (Qt+1)/\q4w (Qt+1))) (K (-1:Int))) (0:Int)
abbrev Wo:Type:=Val->(Val->Prop)->Prop
def Wp:Wo:=fun v K=> ∀n0,(n0=true->v.4=[])->Cnd (n0=true) (K (Val.mk v.1 v.2 v.3 [])) (Sml ([]++v.4).length/\K (Val.mk v.1 v.2 v.3 ([]++v.4)))
abbrev W8:Type:=Attr->(Attr->Prop)->Prop
def Bl(Zl:Wo):W8:=fun a K=>Zl (Val.mk a.2.1 a.2.2 a.2.3 a.2.4) fun Qa=>K (Attr.mk a.1 Qa)
def Ge:W8:=Bl Wp
abbrev Uv:Type:=Ctxt->(Ctxt->Prop)->Prop
def q2f(Gm:W8):Uv:=fun c K=>Fits c.3->((0:Int)<=(0:Int)/\(0:Int)<=(↑c.3.length:Int)/\Sml (↑c.3.length:Int).toNat)/\(Fits c.3->Lp2 (fun Qf Hk j7m=>CAt c.3 Hk (fun y3=>Gm (Attr.mk y3.1 (Val.mk y3.2.1 y3.2.2 y3.2.3 y3.2.4)) fun Q2=>Sml (Qf++[Attr.mk Q2.1 (Val.mk Q2.2.1 Q2.2.2 Q2.2.3 Q2.2.4)]).length/\InI (Hk+1)/\j7m (Qf++[Attr.mk Q2.1 (Val.mk Q2.2.1 Q2.2.2 Q2.2.3 Q2.2.4)]) (Hk+1)) (K (Ctxt.mk c.1 c.2 Qf))) (List.replicate (Int.toNat (0:Int)) (Attr.mk (B8 []) (Val.mk (0:Int) (0:Int) (B8 []) []))) (0:Int))
def Ra:Uv:=q2f Ge
abbrev Jh:Type:=Subj->ByteArray->(Ctxt->Bool->Prop)->Prop
def q3v(Z6:W7)(Bb:Uv):Jh:=fun s kind K=>Z6 (Subj.mk s.1) kind fun Qa=>Cnd (Qa<0) (K (Ctxt.mk (B8 []) (B8 []) []) false) (At s.1 Qa fun y1=>Bb y1 fun Qe=>K Qe true)
def Ud:Jh:=q3v Uu Ra
abbrev Bz:Type:=List (List Int)->(List (Int)->Prop)->Prop
def B0:Bz:=fun fields K=>Fits fields->Lp2 (fun Qt q3n w2z=>CAt fields q3n (fun y2=>Lp2 (fun Qg Ut j7l=>Cnd ((0:Int)<=Ut) (Fits y2->InI ((8:Int)*Ut)/\(0:Int)<=(8:Int)*Ut/\Sml (Qg++[Go.IntKind.u8.wrap ((Go.IntKind.u64.wrap (↑y2.length:Int)).fdiv ((2:Int) ^ Min.min ((8:Int)*Ut).toNat (64:Nat)))]).length/\InI (Ut - 1)/\j7l (Qg++[Go.IntKind.u8.wrap ((Go.IntKind.u64.wrap (↑y2.length:Int)).fdiv ((2:Int) ^ Min.min ((8:Int)*Ut).toNat (64:Nat)))]) (Ut - 1)) (Sml (Qg++y2).length/\InI (q3n+1)/\w2z (Qg++y2) (q3n+1))) Qt (7:Int)) (K Qt)) [] (0:Int)
abbrev Vh:Type:=Int->Int->(Int->Prop)->Prop
def Vi:Vh:=fun x k K=>(0:Int)<=Go.IntKind.u64.wrap (↑(BitVec.ofInt (64:Nat) (Go.IntKind.u64.wrap k) &&& BitVec.ofInt (64:Nat) (63:Int)).toNat:Int)/\(0:Int)<=Go.IntKind.u64.wrap ((64:Int) - Go.IntKind.u64.wrap (↑(BitVec.ofInt (64:Nat) (Go.IntKind.u64.wrap k) &&& BitVec.ofInt (64:Nat) (63:Int)).toNat:Int))/\K (Go.IntKind.u64.wrap (↑(BitVec.ofInt (64:Nat) (Go.IntKind.u64.wrap (x*2 ^ Min.min (Go.IntKind.u64.wrap (↑(BitVec.ofInt (64:Nat) (Go.IntKind.u64.wrap k) &&& BitVec.ofInt (64:Nat) (63:Int)).toNat:Int)).toNat (64:Nat)))|||BitVec.ofInt (64:Nat) (x.fdiv ((2:Int) ^ Min.min (Go.IntKind.u64.wrap ((64:Int) - Go.IntKind.u64.wrap (↑(BitVec.ofInt (64:Nat) (Go.IntKind.u64.wrap k) &&& BitVec.ofInt (64:Nat) (63:Int)).toNat:Int))).toNat (64:Nat)))).toNat:Int))
abbrev Zq:Type:=Int->Int->Int->Int->Int->(Int->Int->Int->Int->Prop)->Prop
def Gv(Zf:Vh):Zq:=fun v0 v1 v2 v3 n K=>Lp5 (fun Qa Vy z3i z3j j1v w9o=>Cnd (Qa<n) (Zf z3i (13:Int) fun Qt=>Zf (Go.IntKind.u64.wrap (Vy+z3i)) (32:Int) fun Qf=>Zf j1v (16:Int) fun Qe=>Zf (Go.IntKind.u64.wrap (↑(BitVec.ofInt (64:Nat) Qe ^^^ BitVec.ofInt (64:Nat) (Go.IntKind.u64.wrap (z3j+j1v))).toNat:Int)) (21:Int) fun Qg=>Zf (Go.IntKind.u64.wrap (↑(BitVec.ofInt (64:Nat) Qt ^^^ BitVec.ofInt (64:Nat) (Go.IntKind.u64.wrap (Vy+z3i))).toNat:Int)) (17:Int) fun Q2=>Zf (Go.IntKind.u64.wrap (Go.IntKind.u64.wrap (z3j+j1v)+Go.IntKind.u64.wrap (↑(BitVec.ofInt (64:Nat) Qt ^^^ BitVec.ofInt (64:Nat) (Go.IntKind.u64.wrap (Vy+z3i))).toNat:Int))) (32:Int) fun W0=>InI (Qa+1)/\w9o (Qa+1) (Go.IntKind.u64.wrap (Qf+Go.IntKind.u64.wrap (↑(BitVec.ofInt (64:Nat) Qe ^^^ BitVec.ofInt (64:Nat) (Go.IntKind.u64.wrap (z3j+j1v))).toNat:Int))) (Go.IntKind.u64.wrap (↑(BitVec.ofInt (64:Nat) Q2 ^^^ BitVec.ofInt (64:Nat) (Go.IntKind.u64.wrap (Go.IntKind.u64.wrap (z3j+j1v)+Go.IntKind.u64.wrap (↑(BitVec.ofInt (64:Nat) Qt ^^^ BitVec.ofInt (64:Nat) (Go.IntKind.u64.wrap (Vy+z3i))).toNat:Int)))).toNat:Int)) W0 (Go.IntKind.u64.wrap (↑(BitVec.ofInt (64:Nat) Qg ^^^ BitVec.ofInt (64:Nat) (Go.IntKind.u64.wrap (Qf+Go.IntKind.u64.wrap (↑(BitVec.ofInt (64:Nat) Qe ^^^ BitVec.ofInt (64:Nat) (Go.IntKind.u64.wrap (z3j+j1v))).toNat:Int)))).toNat:Int))) (K Vy z3i z3j j1v)) (0:Int) v0 v1 v2 v3
def Zh:Zq:=Gv Vi
abbrev Wq:Type:=Int->Int->Int->Int->Int->(Int->Int->Int->Int->Prop)->Prop
def Rb(Q7:Zq):Wq:=fun v0 v1 v2 v3 m K=>Q7 v0 v1 v2 (Go.IntKind.u64.wrap (↑(BitVec.ofInt (64:Nat) v3 ^^^ BitVec.ofInt (64:Nat) m).toNat:Int)) (2:Int) fun Qa Vy z3i z3j=>K (Go.IntKind.u64.wrap (↑(BitVec.ofInt (64:Nat) Qa ^^^ BitVec.ofInt (64:Nat) m).toNat:Int)) Vy z3i z3j
def Uk:Wq:=Rb Zh
abbrev q0d:Type:=Int->Int->List (Int)->(Int->Prop)->Prop
def q63(Ww:Wq)(Q7:Zq):q0d:=fun k0 k1 b K=>Fits b->(0:Int)<=(56:Int)/\Lp5 (fun Qt q3n j8s w9p v1t v3a=>InI (Qt+8)/\(Fits b->Cnd (Qt+8<=(↑b.length:Int)) (Lp2 (fun Qe Hl z8p=>Cnd (Hl<8) (InI (Qt+Hl)/\At b (Qt+Hl) fun y4=>InI ((8:Int)*Hl)/\(0:Int)<=(8:Int)*Hl/\InI (Hl+1)/\z8p (Go.IntKind.u64.wrap (↑(BitVec.ofInt (64:Nat) Qe|||BitVec.ofInt (64:Nat) (Go.IntKind.u64.wrap (Go.IntKind.u64.wrap y4*2 ^ Min.min ((8:Int)*Hl).toNat (64:Nat)))).toNat:Int)) (Hl+1)) (Ww q3n j8s w9p v1t Qe fun Qg Ut v3b v3c=>InI (Qt+8)/\v3a (Qt+8) Qg Ut v3b v3c)) (0:Int) (0:Int)) (Fits b->(8:Int)≠(0:Int)/\Lp2 (fun Qg Ut j7l=>Cnd (Ut<(↑b.length:Int).tmod (8:Int)) (Fits b->Fits b->(8:Int)≠(0:Int)/\InI ((↑b.length:Int) - (↑b.length:Int).tmod (8:Int))/\InI ((↑b.length:Int) - (↑b.length:Int).tmod (8:Int)+Ut)/\((0:Int)<=(↑b.length:Int) - (↑b.length:Int).tmod (8:Int)+Ut/\(↑b.length:Int) - (↑b.length:Int).tmod (8:Int)+Ut<(↑b.length:Int))/\ ∀y7,b[((↑b.length:Int) - (↑b.length:Int).tmod (8:Int)+Ut).toNat]? =some y7->InI ((8:Int)*Ut)/\(0:Int)<=(8:Int)*Ut/\InI (Ut+1)/\j7l (Go.IntKind.u64.wrap (↑(BitVec.ofInt (64:Nat) Qg|||BitVec.ofInt (64:Nat) (Go.IntKind.u64.wrap (Go.IntKind.u64.wrap y7*2 ^ Min.min ((8:Int)*Ut).toNat (64:Nat)))).toNat:Int)) (Ut+1)) (Ww q3n j8s w9p v1t Qg fun Q2 q1r j8w v3d=>Q7 Q2 q1r (Go.IntKind.u64.wrap (↑(BitVec.ofInt (64:Nat) j8w ^^^ BitVec.ofInt (64:Nat) (255:Int)).toNat:Int)) v3d (4:Int) fun W0 z0b v3e v3f=>K (Go.IntKind.u64.wrap (↑(BitVec.ofInt (64:Nat) (Go.IntKind.u64.wrap (↑(BitVec.ofInt (64:Nat) (Go.IntKind.u64.wrap (↑(BitVec.ofInt (64:Nat) W0 ^^^ BitVec.ofInt (64:Nat) z0b).toNat:Int)) ^^^ BitVec.ofInt (64:Nat) v3e).toNat:Int)) ^^^ BitVec.ofInt (64:Nat) v3f).toNat:Int)))) (Go.IntKind.u64.wrap (Go.IntKind.u64.wrap (↑b.length:Int)*2 ^ Min.min (Int.toNat (56:Int)) (64:Nat))) (0:Int)))) (0:Int) (Go.IntKind.u64.wrap (↑(BitVec.ofInt (64:Nat) k0 ^^^ BitVec.ofInt (64:Nat) (8317987319222330741:Int)).toNat:Int)) (Go.IntKind.u64.wrap (↑(BitVec.ofInt (64:Nat) k1 ^^^ BitVec.ofInt (64:Nat) (7237128888997146477:Int)).toNat:Int)) (Go.IntKind.u64.wrap (↑(BitVec.ofInt (64:Nat) k0 ^^^ BitVec.ofInt (64:Nat) (7816392313619706465:Int)).toNat:Int)) (Go.IntKind.u64.wrap (↑(BitVec.ofInt (64:Nat) k1 ^^^ BitVec.ofInt (64:Nat) (8387220255154660723:Int)).toNat:Int))
def q3d:q0d:=q63 Uk Zh
abbrev Rc:Type:=Int->List (List Int)->(Int->Prop)->Prop
def q47(B5:Bz)(q3o:q0d):Rc:=fun domain fields K=>B5 fields fun Qa=>q3o domain (0:Int) Qa fun Qt=>K Qt
def q06:Rc:=q47 B0 q3d
abbrev J5:Type:=ByteArray->ByteArray->(Int->Prop)->Prop
def q9l(q1s:Rc):J5:=fun salt key K=>Sml salt.size/\Sml key.size/\q1s (1:Int) [List.map (fun b=>(↑b.toNat:Int)) (salt,key,()).1.data.toList,List.map (fun b=>(↑b.toNat:Int)) (salt,key,()).2.1.data.toList] fun Qa=>(10000:Int)≠(0:Int)/\InI (Qa.tmod (10000:Int))/\K (Qa.tmod (10000:Int))
def Vj:J5:=q9l q06
abbrev Rd:Type:=List (Frc)->ByteArray->(Frc->Bool->Prop)->Prop
def Re:Rd:=fun l layer K=>Fits l->Lp4 (fun Qt q3n j8s w9p v3u=>CAt l Qt (fun y2=>Cnd (y2.1=layer) (K y2 true) (InI (Qt+1)/\v3u (Qt+1) q3n j8s w9p)) (K (Frc.mk (B8 []) (B8 []) (0:Int)) false)) (0:Int) (B8 []) (B8 []) (0:Int)
abbrev q07:Type:=Envt->Frc->(Bool->Prop)->Prop
def q08:q07:=fun v f K=>Fits v.6->Lp1 (fun Qt q4w=>CAt v.6 Qt (fun y2=>Cnd (y2.1=f.2) (Cnd (y2.2=f.1) (Cnd (y2.5=2) (Fits y2.7->Lp1 (fun Q2 j7n=>CAt y2.7 Q2 (fun y6=>Cnd (y6.3=f.3) (Cnd ((0:Int)<=Q2) (K (decide ((0:Int)<=Qt))) (InI (Qt+1)/\q4w (Qt+1))) (InI (Q2+1)/\j7n (Q2+1))) (Cnd ((0:Int)<=(-1:Int)) (K (decide ((0:Int)<=Qt))) (InI (Qt+1)/\q4w (Qt+1)))) (0:Int)) (InI (Qt+1)/\q4w (Qt+1))) (InI (Qt+1)/\q4w (Qt+1))) (InI (Qt+1)/\q4w (Qt+1))) (K (decide ((0:Int)<=(-1:Int))))) (0:Int)
abbrev Rf:Type:=Envt->Subj->(Bool->Prop)->Prop
def q48(Zb:Jh)(Q1:J5):Rf:=fun v s K=>Cnd (v.1.3<=0) (K false) (Zb (Subj.mk s.1) v.1.2 fun Qa Vy=>Cnd (Vy=true) (Q1 v.1.1 Qa.2 fun Qt=>K (decide (Qt<v.1.3))) (K false))
def q09:Rf:=q48 Ud Vj
abbrev Gf:Type:=Int->(Bool->Prop)->Prop
def Vk:Gf:=fun op K=>Cnd ((6:Int)<=op) (K (decide (op<=15))) (K false)
abbrev Q5:Type:=List (ByteArray)->List (ByteArray)->(Bool->Prop)->Prop
def Zg:Q5:=fun s1 s2 K=>Fits s1->Fits s2->Cnd ((↑s1.length:Int)=(↑s2.length:Int)) (Fits s1->Lp1 (fun Qe q8t=>CAt s1 Qe (fun y4=>At s2 Qe fun y6=>Cnd (y4=y6) (InI (Qe+1)/\q8t (Qe+1)) (K false)) (K true)) (0:Int)) (K false)
abbrev q0e:Type:=Val->Val->(Bool->Prop)->Prop
def q64(Qq:Q5):q0e:=fun a b K=>Cnd (a.1=b.1) (Cnd (a.2=b.2) (Cnd (a.3=b.3) (Qq a.4 b.4 fun Qa=>K Qa) (K false)) (K false)) (K false)
def H3:q0e:=q64 Zg
abbrev Uw:Type:=Ex->Ex->(Bool->Prop)->Prop
def q9m(q3p:q0e)(X:Uw):Uw:=fun a b K=>Cnd (a.1=b.1) (Cnd (a.2=b.2) (Cnd (a.3=b.3) (Fits a.4->Fits b.4->Cnd ((↑a.4.length:Int)=(↑b.4.length:Int)) (Fits a.4->Lp1 (fun Qe q8t=>CAt a.4 Qe (fun y4=>At b.4 Qe fun y6=>q3p y4 y6 fun q4v=>Cnd (q4v=true) (InI (Qe+1)/\q8t (Qe+1)) (K false)) (Fits a.5->Fits b.5->Cnd ((↑a.5.length:Int)=(↑b.5.length:Int)) (Fits a.5->Lp1 (fun q01 w9l=>CAt a.5 q01 (fun y8=>At b.5 q01 fun y10=>X (Ex.mk y8.1 y8.2 y8.3 y8.4 y8.5) (Ex.mk y10.1 y10.2 y10.3 y10.4 y10.5) fun q6u=>Cnd (q6u=true) (InI (q01+1)/\w9l (q01+1)) (K false)) (K true)) (0:Int)) (K false))) (0:Int)) (K false)) (K false)) (K false)) (K false)
def Hr:Uw:=fun a b K=> ∀X:Uw,(∀a b K,q9m H3 X a b K->X a b K)->X a b K
abbrev J2:Type:=List (Ex)->Ex->(List (Ex)->Prop)->Prop
def q3w(Jx:Gf)(q27:Uw)(X:J2):J2:=fun l e K=>Jn1 (fun Qa=>Fits e.5->Lp2 (fun Qf Hk j7m=>CAt e.5 Hk (fun y3=>X Qf (Ex.mk y3.1 y3.2 y3.3 y3.4 y3.5) fun Q2=>InI (Hk+1)/\j7m Q2 (Hk+1)) (K Qf)) Qa (0:Int)) fun q9d=>Jx e.1 fun Qt=>Cnd (Qt=true) (Fits l->Lp1 (fun Qe q8t=>CAt l Qe (fun y4=>q27 (Ex.mk y4.1 y4.2 y4.3 y4.4 y4.5) (Ex.mk e.1 e.2 e.3 e.4 e.5) fun W0=>Cnd (W0=true) (Cnd ((0:Int)<=Qe) (q9d l) (Sml (l++[Ex.mk e.1 e.2 e.3 e.4 e.5]).length/\q9d (l++[Ex.mk e.1 e.2 e.3 e.4 e.5]))) (InI (Qe+1)/\q8t (Qe+1))) (Cnd ((0:Int)<=(-1:Int)) (q9d l) (Sml (l++[Ex.mk e.1 e.2 e.3 e.4 e.5]).length/\q9d (l++[Ex.mk e.1 e.2 e.3 e.4 e.5])))) (0:Int)) (Cnd (e.1=5) (Fits l->Lp1 (fun Qe q8t=>CAt l Qe (fun y4=>q27 (Ex.mk y4.1 y4.2 y4.3 y4.4 y4.5) (Ex.mk e.1 e.2 e.3 e.4 e.5) fun W0=>Cnd (W0=true) (Cnd ((0:Int)<=Qe) (q9d l) (Sml (l++[Ex.mk e.1 e.2 e.3 e.4 e.5]).length/\q9d (l++[Ex.mk e.1 e.2 e.3 e.4 e.5]))) (InI (Qe+1)/\q8t (Qe+1))) (Cnd ((0:Int)<=(-1:Int)) (q9d l) (Sml (l++[Ex.mk e.1 e.2 e.3 e.4 e.5]).length/\q9d (l++[Ex.mk e.1 e.2 e.3 e.4 e.5])))) (0:Int)) (q9d l))
def B1:J2:=fun l e K=> ∀X:J2,(∀l e K,q3w Vk Hr X l e K->X l e K)->X l e K
abbrev Vd:Type:=Ex->(Ex->Prop)->Prop
def q65(Zl:Wo)(X:Vd):Vd:=fun e K=>Fits e.4->((0:Int)<=(0:Int)/\(0:Int)<=(↑e.4.length:Int)/\Sml (↑e.4.length:Int).toNat)/\(Fits e.4->Lp2 (fun Qf Hk j7m=>CAt e.4 Hk (fun y3=>Zl y3 fun Q2=>Sml (Qf++[Q2]).length/\InI (Hk+1)/\j7m (Qf++[Q2]) (Hk+1)) (Fits e.5->((0:Int)<=(0:Int)/\(0:Int)<=(↑e.5.length:Int)/\Sml (↑e.5.length:Int).toNat)/\(Fits e.5->Lp2 (fun Q2 q1r v1j=>CAt e.5 q1r (fun y6=>X (Ex.mk y6.1 y6.2 y6.3 y6.4 y6.5) fun q4v=>Sml (Q2++[Ex.mk q4v.1 q4v.2 q4v.3 q4v.4 q4v.5]).length/\InI (q1r+1)/\v1j (Q2++[Ex.mk q4v.1 q4v.2 q4v.3 q4v.4 q4v.5]) (q1r+1)) (K (Ex.mk e.1 e.2 e.3 Qf Q2))) (List.replicate (Int.toNat (0:Int)) (Ex.mk (0:Int) (B8 []) (B8 []) [] [])) (0:Int)))) (List.replicate (Int.toNat (0:Int)) (Val.mk (0:Int) (0:Int) (B8 []) [])) (0:Int))
def q3e:Vd:=fun e K=> ∀X:Vd,(∀e K,q65 Wp X e K->X e K)->X e K
abbrev G3:Type:=Ex->(List (Ex)->Prop)->Prop
def q3x(B6:J2)(q3q:Vd):G3:=fun e K=>B6 [] (Ex.mk e.1 e.2 e.3 e.4 e.5) fun Qa=>Fits Qa->((0:Int)<=(0:Int)/\(0:Int)<=(↑Qa.length:Int)/\Sml (↑Qa.length:Int).toNat)/\(Fits Qa->Lp2 (fun Qe Hl z8p=>CAt Qa Hl (fun y4=>q3q (Ex.mk y4.1 y4.2 y4.3 y4.4 y4.5) fun W0=>Sml (Qe++[Ex.mk W0.1 W0.2 W0.3 W0.4 W0.5]).length/\InI (Hl+1)/\z8p (Qe++[Ex.mk W0.1 W0.2 W0.3 W0.4 W0.5]) (Hl+1)) (K Qe)) (List.replicate (Int.toNat (0:Int)) (Ex.mk (0:Int) (B8 []) (B8 []) [] [])) (0:Int))
def q3y:G3:=q3x B1 q3e
abbrev Zi:Type:=List (ByteArray)->(List (ByteArray)->Prop)->Prop
def Z1(x:List (ByteArray))(K:List (ByteArray)->Prop):Prop:=K (srt x)
abbrev Jd:Type:=List (ByteArray)->(List (ByteArray)->Prop)->Prop
def Je(s:List (ByteArray))(K:List (ByteArray)->Prop):Prop:=K (cpt s)
abbrev V4:Type:=Ex->(List (ByteArray)->Prop)->Prop
def q0n(B7:G3)(Qs:Zi)(Zo:Jd):V4:=fun e K=>B7 (Ex.mk e.1 e.2 e.3 e.4 e.5) fun Qa=>Fits Qa->Lp2 (fun Qf Hk j7m=>CAt Qa Hk (fun y3=>Cnd (y3.1=5) (Sml (Qf++[y3.3]).length/\InI (Hk+1)/\j7m (Qf++[y3.3]) (Hk+1)) (InI (Hk+1)/\j7m Qf (Hk+1))) (Qs Qf fun Qe=>Zo Qe fun Qg=>K Qg)) [] (0:Int)
def Hc:V4:=q0n q3y Z1 Je
abbrev q49:Type:=List (ByteArray)->List (Edg)->(List (ByteArray)->Int->Prop)->Prop
def P_graph_Order(nodes:List (ByteArray))(edges:List (Edg))(K:List (ByteArray)->Int->Prop):Prop:=Go.Fl.P_graph_Order nodes (edges.map fun e=>(e.1,e.2)) K
abbrev Ux:Type:=List (Seg)->(List (ByteArray)->Int->Prop)->Prop
def q2g(Hm:V4)(q1t:q49):Ux:=fun l K=>Fits l->Lp3 (fun Qt q3n j8s v1u=>CAt l j8s (fun y2=>Sml (Qt++[y2.1]).length/\Hm (Ex.mk y2.5.1 y2.5.2 y2.5.3 y2.5.4 y2.5.5) fun Qg=>Fits Qg->Lp2 (fun W0 z0b w5r=>CAt Qg z0b (fun y7=>Sml (W0++[Edg.mk y2.1 y7]).length/\InI (z0b+1)/\w5r (W0++[Edg.mk y2.1 y7]) (z0b+1)) (InI (j8s+1)/\v1u (Qt++[y2.1]) W0 (j8s+1))) q3n (0:Int)) (q1t Qt q3n fun Qf Hk=>K Qf Hk)) [] [] (0:Int)
def Rg:Ux:=q2g Hc P_graph_Order
abbrev V5:Type:=Subj->ByteArray->ByteArray->(Val->Bool->Prop)->Prop
def q0o(Z6:W7)(Zl:Wo):V5:=fun s kind name K=>Z6 (Subj.mk s.1) kind fun Qa=>Cnd (Qa<0) (K (Val.mk (0:Int) (0:Int) (B8 []) []) false) (At s.1 Qa fun y1=>Cnd (name=B8 [107,101,121]) (K (Val.mk (3:Int) (0:Int) y1.2 []) true) (Fits y1.3->Lp5 (fun Qg Ut v3b v3c (v3v:List ByteArray) v3w=>CAt y1.3 Qg (fun y5=>Cnd (y5.1=name) (Zl (Val.mk y5.2.1 y5.2.2 y5.2.3 y5.2.4) fun q01=>K q01 true) (InI (Qg+1)/\v3w (Qg+1) Ut v3b v3c v3v)) (K (Val.mk (0:Int) (0:Int) (B8 []) []) false)) (0:Int) (0:Int) (0:Int) (B8 []) []))
def Hd:V5:=q0o Uu Wp
abbrev Rh:Type:=Val->Val->(Bool->Prop)->Prop
def q5a(Qq:Q5):Rh:=fun a b K=>Cnd (a.1=b.1) (Cnd (a.2=b.2) (Cnd (a.3=b.3) (Qq a.4 b.4 fun Qa=>K Qa) (K false)) (K false)) (K false)
def Ri:Rh:=q5a Zg
abbrev Zn:Type:=ByteArray->ByteArray->(Bool->Prop)->Prop
def Z2:Zn:=fun s prefix_ K=>Cnd ((↑prefix_.size:Int)<=(↑s.size:Int)) (((0:Int)<=(0:Int)/\(0:Int)<=(↑prefix_.size:Int)/\(↑prefix_.size:Int)<=(↑s.size:Int))/\K (decide (s.extract (Int.toNat (0:Int)) (↑prefix_.size:Int).toNat=prefix_))) (K false)
abbrev J6:Type:=ByteArray->ByteArray->(Bool->Prop)->Prop
def Hs(Q3:Zn):J6:=fun s prefix_ K=>Q3 s prefix_ fun Qa=>K Qa
def Vl:J6:=Hs Z2
abbrev Jv:Type:=ByteArray->ByteArray->(Bool->Prop)->Prop
def Vm:Jv:=fun s suffix K=>Cnd ((↑suffix.size:Int)<=(↑s.size:Int)) (InI ((↑s.size:Int) - (↑suffix.size:Int))/\((0:Int)<=(↑s.size:Int) - (↑suffix.size:Int)/\(↑s.size:Int) - (↑suffix.size:Int)<=(↑s.size:Int)/\(↑s.size:Int)<=(↑s.size:Int))/\K (decide (s.extract ((↑s.size:Int) - (↑suffix.size:Int)).toNat (↑s.size:Int).toNat=suffix))) (K false)
abbrev J7:Type:=ByteArray->ByteArray->(Bool->Prop)->Prop
def Ht(Jy:Jv):J7:=fun s suffix K=>Jy s suffix fun Qa=>K Qa
def Vn:J7:=Ht Vm
abbrev Rj:Type:=ByteArray->ByteArray->(Bool->Prop)->Prop
def Rk(s:ByteArray)(substr:ByteArray)(K:Bool->Prop):Prop:=s.size<4294967281/\K (Go.Lib.contains s.data.toList substr.data.toList)
abbrev q1a:Type:=Val->(Bool->Prop)->Prop
def q1b:q1a:=fun v K=>Jn1 (fun Qa=>Cnd (Qa=true) (Cnd (v.3=B8 []) (Fits v.4->K (decide ((↑v.4.length:Int)=0))) (K false)) (Jn1 (fun Qt=>Cnd (Qt=true) (Cnd (v.2=0) (Fits v.4->K (decide ((↑v.4.length:Int)=0))) (K false)) (Cnd (v.2=0) (K (decide (v.3=B8 []))) (K false))) fun w9q=>Cnd (v.1=3) (w9q (decide (v.1=3))) (w9q (decide (v.1=4))))) fun q9d=>Cnd (v.1=1) (q9d (decide (v.1=1))) (q9d (decide (v.1=2)))
abbrev Ul:Type:=ByteArray->(Bool->Prop)->Prop
def Wr(s:ByteArray)(K:Bool->Prop):Prop:=s.size<=(9223372036854775807:Nat)/\K (Go.Lib.validD s.data.toList)
abbrev q0f:Type:=ByteArray->(Bool->Prop)->Prop
def q66(Jq:Ul):q0f:=fun s K=>Cnd ((200:Int)<(↑s.size:Int)) (K false) (Jq s fun Qa=>Cnd (Qa=true) (Lp1 (fun (Qt:ByteArray×Nat) q4w=>Cnd (Qt.2<Qt.1.size) (Cnd ((↑(Go.Utf8.decode Qt.1 Qt.2).1:Int)<(32:Int)) (K false) (Cnd ((↑(Go.Utf8.decode Qt.1 Qt.2).1:Int)=(127:Int)) (K false) (q4w (Qt.1,Qt.2+(Go.Utf8.decode Qt.1 Qt.2).2)))) (K true)) (s,(0:Nat))) (K false))
def q3f:q0f:=q66 Wr
abbrev q2h:Type:=ByteArray->ByteArray->(List (ByteArray)->Prop)->Prop
def q2i(s:ByteArray)(sep:ByteArray)(K:List (ByteArray)->Prop):Prop:=sep.size=1/\s.size<4294967281/\K (H2 s sep)
abbrev Z3:Type:=ByteArray->ByteArray->(ByteArray->Bool->Prop)->Prop
def Vo(Q3:Zn):Z3:=fun s prefix_ K=>Q3 s prefix_ fun Qa=>Cnd (Qa=true) (((0:Int)<=(↑prefix_.size:Int)/\(↑prefix_.size:Int)<=(↑s.size:Int)/\(↑s.size:Int)<=(↑s.size:Int))/\K (s.extract (↑prefix_.size:Int).toNat (↑s.size:Int).toNat) true) (K s false)
def Vp:Z3:=Vo Z2
abbrev J8:Type:=ByteArray->ByteArray->(ByteArray->Bool->Prop)->Prop
def Hu(Jz:Z3):J8:=fun s prefix_ K=>Jz s prefix_ fun Qa Vy=>K Qa Vy
def Vq:J8:=Hu Vp
abbrev q3z:Type:=ByteArray->(Int->Bool->Prop)->Prop
def B2(s:ByteArray)(K:Int->Bool->Prop):Prop:=s.size<=281474976710656/\w4w s K
abbrev Ws:Type:=ByteArray->(Int->Int->Prop)->Prop
def Rl(Vz:J8)(Ha:q3z):Ws:=fun s K=>Vz s (B8 [45]) fun Qa Vy=>Cnd (Qa=B8 []) (K (0:Int) (1:Int)) (((0:Int)<=(0:Int)/\(0:Int)<(↑Qa.size:Int))/\ ∀b1,Qa[Int.toNat (0:Int)]? =some b1->Cnd ((↑b1.toNat:Int)=48) (Cnd ((1:Int)<(↑Qa.size:Int)) (K (0:Int) (1:Int)) (Cnd (Vy=true) (K (0:Int) (1:Int)) (Lp1 (fun (Qe:ByteArray×Nat) q8t=>Cnd (Qe.2<Qe.1.size) (Cnd ((↑(Go.Utf8.decode Qe.1 Qe.2).1:Int)<(48:Int)) (K (0:Int) (1:Int)) (Cnd ((57:Int)<(↑(Go.Utf8.decode Qe.1 Qe.2).1:Int)) (K (0:Int) (1:Int)) (q8t (Qe.1,Qe.2+(Go.Utf8.decode Qe.1 Qe.2).2)))) (Ha s fun Qg Ut=>Cnd ((match (Qg,Ut,()).2.1 with|true=>false|false=>true)=true) (K (0:Int) (3:Int)) (Cnd (Qg<(-1099511627776:Int)) (K (0:Int) (3:Int)) (Cnd ((1099511627776:Int)<Qg) (K (0:Int) (3:Int)) (K Qg (0:Int)))))) (Qa,(0:Nat))))) (Lp1 (fun (Qe:ByteArray×Nat) q8t=>Cnd (Qe.2<Qe.1.size) (Cnd ((↑(Go.Utf8.decode Qe.1 Qe.2).1:Int)<(48:Int)) (K (0:Int) (1:Int)) (Cnd ((57:Int)<(↑(Go.Utf8.decode Qe.1 Qe.2).1:Int)) (K (0:Int) (1:Int)) (q8t (Qe.1,Qe.2+(Go.Utf8.decode Qe.1 Qe.2).2)))) (Ha s fun Qg Ut=>Cnd ((match (Qg,Ut,()).2.1 with|true=>false|false=>true)=true) (K (0:Int) (3:Int)) (Cnd (Qg<(-1099511627776:Int)) (K (0:Int) (3:Int)) (Cnd ((1099511627776:Int)<Qg) (K (0:Int) (3:Int)) (K Qg (0:Int)))))) (Qa,(0:Nat))))
def Um:Ws:=Rl Vq B2
abbrev Vr:Type:=ByteArray->(A3->Bool->Prop)->Prop
def q5b(Bc:q2h)(Up:Ws):Vr:=fun s K=>Bc s (B8 [46]) fun Qa=>Fits Qa->Cnd ((↑Qa.length:Int)=3) (Fits Qa->LpH (fun (Qe:Int×Int×Int×Int×Int×Int×Int×Unit) q8t=>CAt Qa Qe.1 (fun y4=>Up y4 fun W0 z0b=>Cnd (z0b=0) (Cnd (W0<0) (K ((0:Int),(0:Int),(0:Int)) false) (Cnd ((999999:Int)<W0) (K ((0:Int),(0:Int),(0:Int)) false) (((0:Int)<=Qe.1/\Qe.1<(↑(3:Nat):Int))/\((True/\(Qe.1=(↑(nat_lit 0):Int)->InI (Qe.1+1)/\q8t (Qe.1+1,W0,Qe.2.2.1,Qe.2.2.2.1,Qe.2.2.2.2.1,Qe.2.2.2.2.2.1,Qe.2.2.2.2.2.2.1,())))/\(Qe.1=(↑(nat_lit 1):Int)->InI (Qe.1+1)/\q8t (Qe.1+1,Qe.2.1,W0,Qe.2.2.2.1,Qe.2.2.2.2.1,Qe.2.2.2.2.2.1,Qe.2.2.2.2.2.2.1,())))/\(Qe.1=(↑(nat_lit 2):Int)->InI (Qe.1+1)/\q8t (Qe.1+1,Qe.2.1,Qe.2.2.1,W0,Qe.2.2.2.2.1,Qe.2.2.2.2.2.1,Qe.2.2.2.2.2.2.1,()))))) (K ((0:Int),(0:Int),(0:Int)) false)) (K (Qe.2.1,Qe.2.2.1,Qe.2.2.2.1) true)) ((0:Int),(0:Int),(0:Int),(0:Int),(0:Int),(0:Int),(0:Int),())) (K ((0:Int),(0:Int),(0:Int)) false)
def Rm:Vr:=q5b q2i Um
abbrev Rn:Type:=Val->(Int->Prop)->Prop
def q5c(q1u:q1a)(q0h:q0f)(Jl:Vr):Rn:=fun v K=>Cnd (v.1<1) (K (7:Int)) (Cnd ((5:Int)<v.1) (K (7:Int)) (q1u v fun Qa=>Cnd (Qa=true) (Cnd (v.1=1) (Cnd (v.2=0) (K (0:Int)) (Cnd (v.2=1) (K (0:Int)) (K (3:Int)))) (Cnd (v.1=2) (Cnd (v.2<(-1099511627776:Int)) (K (3:Int)) (Cnd ((1099511627776:Int)<v.2) (K (3:Int)) (K (0:Int)))) (Cnd (v.1=3) (q0h v.3 fun Qt=>Cnd (Qt=true) (K (0:Int)) (K (2:Int))) (Cnd (v.1=4) (Jl v.3 fun (_:Int×Int×Int) q3n=>Cnd (q3n=true) (K (0:Int)) (K (1:Int))) (Cnd (v.1=5) (Fits v.4->Cnd ((20:Int)<(↑v.4.length:Int)) (K (5:Int)) (Fits v.4->Lp1 (fun Qe q8t=>CAt v.4 Qe (fun y4=>q0h y4 fun W0=>Cnd (W0=true) (InI (Qe+1)/\q8t (Qe+1)) (K (2:Int))) (Fits v.4->Lp1 (fun Q2 j7n=>Cnd (Q2<(↑v.4.length:Int)) (Cnd ((0:Int)<Q2) (InI (Q2 - 1)/\((0:Int)<=Q2 - 1/\Q2 - 1<(↑v.4.length:Int))/\ ∀y6,v.4[(Q2 - 1).toNat]? =some y6->At v.4 Q2 fun y8=>Cnd (Lk.blt y6 y8) (InI (Q2+1)/\j7n (Q2+1)) (K (9:Int))) (InI (Q2+1)/\j7n (Q2+1))) (K (0:Int))) (0:Int))) (0:Int))) (K (0:Int))))))) (K (15:Int))))
def q1c:Rn:=q5c q1b q3f Rm
abbrev Uy:Type:=Val->Val->(Int->Int->Prop)->Prop
def q2j(Bd:Rn)(Jl:Vr):Uy:=fun a b K=>Bd a fun Qa=>Cnd (Qa=0) (Bd b fun Qt=>Cnd (Qt=0) (Cnd (a.1=b.1) (Cnd (a.1=1) (K (0:Int) (8:Int)) (Cnd (a.1=5) (K (0:Int) (8:Int)) (Cnd (a.1=2) (Cnd (a.2=a.2) (Cnd (b.2=b.2) (Cnd (a.2<b.2) (K (-1:Int) (0:Int)) (Cnd (b.2<a.2) (K (1:Int) (0:Int)) (K (0:Int) (0:Int)))) (K (1:Int) (0:Int))) (Cnd (b.2=b.2) (K (-1:Int) (0:Int)) (K (0:Int) (0:Int)))) (Cnd (a.1=3) (Cnd (a.3=a.3) (Cnd (b.3=b.3) (Cnd (Lk.blt a.3 b.3) (K (-1:Int) (0:Int)) (Cnd (Lk.blt b.3 a.3) (K (1:Int) (0:Int)) (K (0:Int) (0:Int)))) (K (1:Int) (0:Int))) (Cnd (b.3=b.3) (K (-1:Int) (0:Int)) (K (0:Int) (0:Int)))) (Jl a.3 fun (Qf:Int×Int×Int) _=>Jl b.3 fun (Qe:Int×Int×Int) _=>Two (([Qf.1,Qf.2.1,Qf.2.2].length<=(9223372036854775807:Nat)->Lp1 (fun Q2 j7n=>Cnd (Q2<(↑[Qf.1,Qf.2.1,Qf.2.2].length:Int)) (((0:Int)<=Q2/\Q2<(↑[Qf.1,Qf.2.1,Qf.2.2].length:Int))/\ ∀y6,[Qf.1,Qf.2.1,Qf.2.2][Q2.toNat]? =some y6->[Qe.1,Qe.2.1,Qe.2.2].length<=(9223372036854775807:Nat)->Cnd ((↑[Qe.1,Qe.2.1,Qe.2.2].length:Int)<=Q2) (K (1:Int) (0:Int)) (((0:Int)<=Q2/\Q2<(↑[Qe.1,Qe.2.1,Qe.2.2].length:Int))/\ ∀y9,[Qe.1,Qe.2.1,Qe.2.2][Q2.toNat]? =some y9->Cnd (y6=y6) (Cnd (y9=y9) (Cnd (y6<y9) (Cnd ((-1:Int)=(0:Int)) (InI (Q2+1)/\j7n (Q2+1)) (K (-1:Int) (0:Int))) (Cnd (y9<y6) (Cnd ((1:Int)=(0:Int)) (InI (Q2+1)/\j7n (Q2+1)) (K (1:Int) (0:Int))) (Cnd ((0:Int)=(0:Int)) (InI (Q2+1)/\j7n (Q2+1)) (K (0:Int) (0:Int))))) (Cnd ((1:Int)=(0:Int)) (InI (Q2+1)/\j7n (Q2+1)) (K (1:Int) (0:Int)))) (Cnd (y9=y9) (Cnd ((-1:Int)=(0:Int)) (InI (Q2+1)/\j7n (Q2+1)) (K (-1:Int) (0:Int))) (Cnd ((0:Int)=(0:Int)) (InI (Q2+1)/\j7n (Q2+1)) (K (0:Int) (0:Int)))))) ([Qf.1,Qf.2.1,Qf.2.2].length<=(9223372036854775807:Nat)->[Qe.1,Qe.2.1,Qe.2.2].length<=(9223372036854775807:Nat)->Cnd ((↑[Qf.1,Qf.2.1,Qf.2.2].length:Int)<(↑[Qe.1,Qe.2.1,Qe.2.2].length:Int)) (K (-1:Int) (0:Int)) (K (0:Int) (0:Int)))) (0:Int)))))))) (K (0:Int) (8:Int))) (K (0:Int) Qt)) (K (0:Int) Qa)
def Uz:Uy:=q2j q1c Rm
abbrev Rp:Type:=Subj->Ex->(Bool->Prop)->Prop
def q5d(Hn:V5)(Jx:Gf)(Gn:Rh)(V0:J6)(V1:J7)(Uq:Rj)(U9:Uy):Rp:=fun s e K=>Hn (Subj.mk s.1) e.2 e.3 fun Qa Vy=>Cnd (Vy=true) (Jx e.1 fun Qt=>Cnd (Qt=true) (Cnd (e.1=6) (K true) (Cnd (e.1=8) (Fits e.4->Lp1 (fun Qe q8t=>CAt e.4 Qe (fun y4=>Gn Qa y4 fun W0=>Cnd (W0=true) (K (decide ((0:Int)<=Qe))) (InI (Qe+1)/\q8t (Qe+1))) (K (decide ((0:Int)<=(-1:Int))))) (0:Int)) (Fits e.4->Cnd ((↑e.4.length:Int)=0) (K false) (((0:Int)<=(0:Int)/\(0:Int)<(↑e.4.length:Int))/\ ∀y3,e.4[Int.toNat (0:Int)]? =some y3->Cnd (Qa.1=3) (Cnd (e.1=7) (Gn Qa y3 fun Q2=>K Q2) (Cnd (e.1=9) (Cnd (y3.1=3) (V0 Qa.3 y3.3 fun Q2=>K Q2) (K false)) (Cnd (e.1=10) (Cnd (y3.1=3) (V1 Qa.3 y3.3 fun Q2=>K Q2) (K false)) (Cnd (e.1=11) (Cnd (y3.1=3) (Uq Qa.3 y3.3 fun Q2=>Cnd (Q2=true) (K true) (Cnd (y3.1=3) (Cnd (Qa.1=5) (Fits Qa.4->Lp1 (fun q01 w9l=>CAt Qa.4 q01 (fun y8=>Cnd (y3.3=y8) (K (decide ((0:Int)<=q01))) (InI (q01+1)/\w9l (q01+1))) (K (decide ((0:Int)<=(-1:Int))))) (0:Int)) (K false)) (K false))) (Cnd (y3.1=3) (Cnd (Qa.1=5) (Fits Qa.4->Lp1 (fun W0 v1k=>CAt Qa.4 W0 (fun y7=>Cnd (y3.3=y7) (K (decide ((0:Int)<=W0))) (InI (W0+1)/\v1k (W0+1))) (K (decide ((0:Int)<=(-1:Int))))) (0:Int)) (K false)) (K false))) (U9 Qa y3 fun Q2 q1r=>Cnd (q1r=0) (Cnd (e.1=12) (K (decide (Q2<0))) (Cnd (e.1=13) (K (decide (Q2<=0))) (Cnd (e.1=14) (K (decide ((0:Int)<Q2))) (K (decide ((0:Int)<=Q2)))))) (K false)))))) (Cnd (e.1=7) (Gn Qa y3 fun Q2=>K Q2) (Cnd (e.1=9) (K false) (Cnd (e.1=10) (K false) (Cnd (e.1=11) (Cnd (y3.1=3) (Cnd (Qa.1=5) (Fits Qa.4->Lp1 (fun W0 v1k=>CAt Qa.4 W0 (fun y7=>Cnd (y3.3=y7) (K (decide ((0:Int)<=W0))) (InI (W0+1)/\v1k (W0+1))) (K (decide ((0:Int)<=(-1:Int))))) (0:Int)) (K false)) (K false)) (U9 Qa y3 fun Q2 q1r=>Cnd (q1r=0) (Cnd (e.1=12) (K (decide (Q2<0))) (Cnd (e.1=13) (K (decide (Q2<=0))) (Cnd (e.1=14) (K (decide ((0:Int)<Q2))) (K (decide ((0:Int)<=Q2)))))) (K false)))))))))) (K false)) (K false)
def Gg:Rp:=q5d Hd Vk Ri Vl Vn Rk Uz
abbrev Ji:Type:=Subj->List (ByteArray)->Ex->(Bool->Prop)->Prop
def q5e(q1v:Rp)(X:Ji):Ji:=fun s in_ e K=>Cnd (e.1=1) (K true) (Cnd (e.1=2) (Fits e.5->Lp1 (fun Qt q4w=>CAt e.5 Qt (fun y2=>X (Subj.mk s.1) in_ (Ex.mk y2.1 y2.2 y2.3 y2.4 y2.5) fun Qg=>Cnd (Qg=true) (InI (Qt+1)/\q4w (Qt+1)) (K (match decide ((0:Int)<=Qt) with|true=>false|false=>true))) (K true)) (0:Int)) (Cnd (e.1=3) (Fits e.5->Lp1 (fun Qt q4w=>CAt e.5 Qt (fun y2=>X (Subj.mk s.1) in_ (Ex.mk y2.1 y2.2 y2.3 y2.4 y2.5) fun Qg=>Cnd (Qg=true) (K (decide ((0:Int)<=Qt))) (InI (Qt+1)/\q4w (Qt+1))) (K (decide ((0:Int)<=(-1:Int))))) (0:Int)) (Cnd (e.1=4) (Fits e.5->Cnd ((0:Int)<(↑e.5.length:Int)) (((0:Int)<=(0:Int)/\(0:Int)<(↑e.5.length:Int))/\ ∀y1,e.5[Int.toNat (0:Int)]? =some y1->X (Subj.mk s.1) in_ (Ex.mk y1.1 y1.2 y1.3 y1.4 y1.5) fun Qe=>K (match decide ((Qe,()).1=true) with|true=>false|false=>true)) (K false)) (Cnd (e.1=5) (Fits in_->Lp1 (fun Qt q4w=>CAt in_ Qt (fun y2=>Cnd (e.3=y2) (K (decide ((0:Int)<=Qt))) (InI (Qt+1)/\q4w (Qt+1))) (K (decide ((0:Int)<=(-1:Int))))) (0:Int)) (q1v (Subj.mk s.1) (Ex.mk e.1 e.2 e.3 e.4 e.5) fun Qa=>K Qa)))))
def Rq:Ji:=fun s in_ e K=> ∀X:Ji,(∀s in_ e K,q5e Gg X s in_ e K->X s in_ e K)->X s in_ e K
abbrev Wt:Type:=Seg->Subj->List (ByteArray)->(Bool->Prop)->Prop
def Rr(Zb:Jh)(Zt:Ji):Wt:=fun g s in_ K=>Zb (Subj.mk s.1) g.2 fun Qa Vy=>Cnd (Vy=true) (Fits g.4->Lp1 (fun Qf z45=>CAt g.4 Qf (fun y3=>Cnd (Qa.2=y3) (Cnd ((0:Int)<=Qf) (K false) (Fits g.3->Lp1 (fun W0 v1k=>CAt g.3 W0 (fun y7=>Cnd (Qa.2=y7) (Cnd ((0:Int)<=W0) (K true) (Cnd (g.5.1=0) (K false) (Zt (Subj.mk s.1) in_ (Ex.mk g.5.1 g.5.2 g.5.3 g.5.4 g.5.5) fun Ql=>K Ql))) (InI (W0+1)/\v1k (W0+1))) (Cnd ((0:Int)<=(-1:Int)) (K true) (Cnd (g.5.1=0) (K false) (Zt (Subj.mk s.1) in_ (Ex.mk g.5.1 g.5.2 g.5.3 g.5.4 g.5.5) fun q01=>K q01)))) (0:Int))) (InI (Qf+1)/\z45 (Qf+1))) (Cnd ((0:Int)<=(-1:Int)) (K false) (Fits g.3->Lp1 (fun Qg j8t=>CAt g.3 Qg (fun y5=>Cnd (Qa.2=y5) (Cnd ((0:Int)<=Qg) (K true) (Cnd (g.5.1=0) (K false) (Zt (Subj.mk s.1) in_ (Ex.mk g.5.1 g.5.2 g.5.3 g.5.4 g.5.5) fun q01=>K q01))) (InI (Qg+1)/\j8t (Qg+1))) (Cnd ((0:Int)<=(-1:Int)) (K true) (Cnd (g.5.1=0) (K false) (Zt (Subj.mk s.1) in_ (Ex.mk g.5.1 g.5.2 g.5.3 g.5.4 g.5.5) fun Q2=>K Q2)))) (0:Int)))) (0:Int)) (K false)
def Un:Wt:=Rr Ud Rq
abbrev W9:Type:=List (Seg)->Subj->(List (ByteArray)->Prop)->Prop
def Bm(Be:Ux)(Ur:Wt)(Qs:Zi):W9:=fun l s K=>Be l fun Qa Vy=>Cnd (Vy=0) (Fits l->Lp2 (fun Qf z45 j7m=>CAt l Qf (fun y3=>InI (Qf+1)/\j7m (Qf+1) (put z45 y3.1 (Seg.mk y3.1 y3.2 y3.3 y3.4 (Ex.mk y3.5.1 y3.5.2 y3.5.3 y3.5.4 y3.5.5)))) (Fits Qa->Lp2 (fun Qg Ut j7l=>CAt Qa Ut (fun y5=>Ur (Seg.mk ((z45 y5).getD (Seg.mk (B8 []) (B8 []) [] [] (Ex.mk (0:Int) (B8 []) (B8 []) [] []))).1 ((z45 y5).getD (Seg.mk (B8 []) (B8 []) [] [] (Ex.mk (0:Int) (B8 []) (B8 []) [] []))).2 ((z45 y5).getD (Seg.mk (B8 []) (B8 []) [] [] (Ex.mk (0:Int) (B8 []) (B8 []) [] []))).3 ((z45 y5).getD (Seg.mk (B8 []) (B8 []) [] [] (Ex.mk (0:Int) (B8 []) (B8 []) [] []))).4 (Ex.mk ((z45 y5).getD (Seg.mk (B8 []) (B8 []) [] [] (Ex.mk (0:Int) (B8 []) (B8 []) [] []))).5.1 ((z45 y5).getD (Seg.mk (B8 []) (B8 []) [] [] (Ex.mk (0:Int) (B8 []) (B8 []) [] []))).5.2 ((z45 y5).getD (Seg.mk (B8 []) (B8 []) [] [] (Ex.mk (0:Int) (B8 []) (B8 []) [] []))).5.3 ((z45 y5).getD (Seg.mk (B8 []) (B8 []) [] [] (Ex.mk (0:Int) (B8 []) (B8 []) [] []))).5.4 ((z45 y5).getD (Seg.mk (B8 []) (B8 []) [] [] (Ex.mk (0:Int) (B8 []) (B8 []) [] []))).5.5)) (Subj.mk s.1) Qg fun q01=>Cnd (q01=true) (Sml (Qg++[y5]).length/\InI (Ut+1)/\j7l (Qg++[y5]) (Ut+1)) (InI (Ut+1)/\j7l Qg (Ut+1))) (Qs Qg fun Q2=>K Q2)) [] (0:Int))) (0:Int) fun _=>none) (K [])
def Gh:W9:=Bm Rg Un Z1
abbrev Va:Type:=Envt->Subj->ByteArray->(Bool->Prop)->Prop
def Bn(Gq:W9)(Zt:Ji):Va:=fun v s experiment K=>Fits v.6->Lp1 (fun Qt q4w=>CAt v.6 Qt (fun y2=>Cnd (y2.1=experiment) (Gq v.3 (Subj.mk s.1) fun Qg=>Zt (Subj.mk s.1) Qg (Ex.mk y2.8.1 y2.8.2 y2.8.3 y2.8.4 y2.8.5) fun Q2=>K Q2) (InI (Qt+1)/\q4w (Qt+1))) (K false)) (0:Int)
def Gi:Va:=Bn Gh Rq
abbrev Gj:Type:=List (Rng)->Int->(Int->Prop)->Prop
def Rs:Gj:=fun l bucket K=>Fits l->Lp1 (fun Qt q4w=>CAt l Qt (fun y2=>Cnd (y2.1<=bucket) (Cnd (bucket<y2.2) (K y2.3) (InI (Qt+1)/\q4w (Qt+1))) (InI (Qt+1)/\q4w (Qt+1))) (K (0:Int))) (0:Int)
abbrev Wz:Type:=Envt->Subj->List (Frc)->ByteArray->(Asg->Int->Prop)->Prop
def q30(Zb:Jh)(Bf:Rd)(Q1:J5)(Zu:Gj)(Gs:Va)(q1w:Rf)(q1x:q07):Wz:=fun v s forced key K=>Jn1 (fun Qa=>Cnd (Qa<0) (K (Asg.mk (B8 []) (B8 []) (0:Int) (0:Int) false) (11:Int)) (At v.5 Qa fun y1=>Zb (Subj.mk s.1) y1.2 fun Qe Hl=>Jn1 (fun Qg=>Bf forced key fun Q2 q1r=>Jn1 (fun W0=>Cnd (W0=true) (Cnd (Q2.2=B8 []) (K (Asg.mk key (B8 []) Qg (0:Int) false) (0:Int)) (K (Asg.mk key Q2.2 Qg Q2.3 false) (0:Int))) (Jn1 (fun q01=>Cnd (q01=true) (K (Asg.mk key (B8 []) Qg (0:Int) true) (0:Int)) (Cnd (Hl=true) (Fits v.6->Lp3 (fun Ql v3r v3s v3x=>CAt v.6 Ql (fun y10=>Jn1 (fun q6u=>Jn1 (fun w29=>Cnd (w29=true) (Q1 y10.4 Qe.2 fun q8u=>Zu y10.7 q8u fun w3a=>K (Asg.mk key y10.1 Qg w3a false) (0:Int)) (InI (Ql+1)/\v3x (Ql+1) v3r v3s)) fun w5s=>Cnd (y10.2=key) (Cnd (y10.5=2) (Cnd (q6u=true) (Gs (Envt.mk (Sett.mk v.1.1 v.1.2 v.1.3) v.2 v.3 v.4 v.5 v.6) (Subj.mk s.1) y10.1 fun q8u=>w5s q8u) (w5s false)) (w5s false)) (w5s false)) fun v1l=>Fits y10.6->Lp1 (fun q8u v1m=>CAt y10.6 q8u (fun y15=>Cnd (y15.1<=Qg) (Cnd (Qg<y15.2) (v1l (decide ((0:Int)<=q8u))) (InI (q8u+1)/\v1m (q8u+1))) (InI (q8u+1)/\v1m (q8u+1))) (v1l (decide ((0:Int)<=(-1:Int))))) (0:Int)) (K (Asg.mk key v3r Qg v3s false) (0:Int))) (0:Int) (B8 []) (0:Int)) (K (Asg.mk key (B8 []) Qg (0:Int) false) (0:Int)))) fun v3g=>q1w (Envt.mk (Sett.mk v.1.1 v.1.2 v.1.3) v.2 v.3 v.4 v.5 v.6) (Subj.mk s.1) fun q4v=>Cnd (q4v=true) (v3g true) (Cnd (Hl=true) (v3g (decide (Qg<y1.4))) (v3g false)))) fun w6r=>Cnd (q1r=true) (Cnd (Q2.2=B8 []) (w6r true) (q1x (Envt.mk (Sett.mk v.1.1 v.1.2 v.1.3) v.2 v.3 v.4 v.5 v.6) Q2 fun q01=>w6r q01)) (w6r false)) fun j8x=>Cnd (Hl=true) (Q1 y1.3 Qe.2 fun Q2=>j8x Q2) (j8x (-1:Int)))) fun q9d=>Fits v.5->Lp1 (fun Qf z45=>CAt v.5 Qf (fun y3=>Cnd (y3.1=key) (q9d Qf) (InI (Qf+1)/\z45 (Qf+1))) (q9d (-1:Int))) (0:Int)
def G4:Wz:=q30 Ud Re Vj Rs Gi q09 q08
abbrev q0p:Type:=ByteArray->(List (ByteArray)->Prop)->Prop
def q0q(s:ByteArray)(K:List (ByteArray)->Prop):Prop:=s.size<4294967281/\w03 s/\K (Vg s)
abbrev Jf:Type:=ByteArray->(Bool->Prop)->Prop
def z2q(Ho:q0p):Jf:=fun s K=>Cnd ((↑s.size:Int)<1) (K false) (Cnd ((32:Int)<(↑s.size:Int)) (K false) (Lp1 (fun (Qa:ByteArray×Nat) By=>Cnd (Qa.2<Qa.1.size) (Cnd ((97:Int)<=(↑(Go.Utf8.decode Qa.1 Qa.2).1:Int)) (Cnd ((↑(Go.Utf8.decode Qa.1 Qa.2).1:Int)<=(122:Int)) (By (Qa.1,Qa.2+(Go.Utf8.decode Qa.1 Qa.2).2)) (Cnd ((↑Qa.2:Int)=(0:Int)) (K false) (Cnd ((↑(Go.Utf8.decode Qa.1 Qa.2).1:Int)<(48:Int)) (Cnd ((↑(Go.Utf8.decode Qa.1 Qa.2).1:Int)=(45:Int)) (By (Qa.1,Qa.2+(Go.Utf8.decode Qa.1 Qa.2).2)) (Cnd ((↑(Go.Utf8.decode Qa.1 Qa.2).1:Int)=(95:Int)) (By (Qa.1,Qa.2+(Go.Utf8.decode Qa.1 Qa.2).2)) (K false))) (Cnd ((57:Int)<(↑(Go.Utf8.decode Qa.1 Qa.2).1:Int)) (Cnd ((↑(Go.Utf8.decode Qa.1 Qa.2).1:Int)=(45:Int)) (By (Qa.1,Qa.2+(Go.Utf8.decode Qa.1 Qa.2).2)) (Cnd ((↑(Go.Utf8.decode Qa.1 Qa.2).1:Int)=(95:Int)) (By (Qa.1,Qa.2+(Go.Utf8.decode Qa.1 Qa.2).2)) (K false))) (By (Qa.1,Qa.2+(Go.Utf8.decode Qa.1 Qa.2).2)))))) (Cnd ((↑Qa.2:Int)=(0:Int)) (K false) (Cnd ((↑(Go.Utf8.decode Qa.1 Qa.2).1:Int)<(48:Int)) (Cnd ((↑(Go.Utf8.decode Qa.1 Qa.2).1:Int)=(45:Int)) (By (Qa.1,Qa.2+(Go.Utf8.decode Qa.1 Qa.2).2)) (Cnd ((↑(Go.Utf8.decode Qa.1 Qa.2).1:Int)=(95:Int)) (By (Qa.1,Qa.2+(Go.Utf8.decode Qa.1 Qa.2).2)) (K false))) (Cnd ((57:Int)<(↑(Go.Utf8.decode Qa.1 Qa.2).1:Int)) (Cnd ((↑(Go.Utf8.decode Qa.1 Qa.2).1:Int)=(45:Int)) (By (Qa.1,Qa.2+(Go.Utf8.decode Qa.1 Qa.2).2)) (Cnd ((↑(Go.Utf8.decode Qa.1 Qa.2).1:Int)=(95:Int)) (By (Qa.1,Qa.2+(Go.Utf8.decode Qa.1 Qa.2).2)) (K false))) (By (Qa.1,Qa.2+(Go.Utf8.decode Qa.1 Qa.2).2)))))) (Ho (B8 [97,110,100,32,97,114,109,115,32,97,116,116,114,105,98,117,116,101,32,98,111,111,108,32,99,108,97,105,109,115,32,99,111,110,116,97,105,110,115,32,99,111,111,108,32,99,111,111,108,105,110,103,32,100,101,102,97,117,108,116,32,100,114,97,102,116,32,101,110,100,115,32,101,120,99,108,117,100,101,32,101,120,105,115,116,115,32,101,120,112,101,114,105,109,101,110,116,32,102,97,108,115,101,32,102,108,97,103,32,104,111,108,100,111,117,116,32,105,110,32,105,110,99,108,117,100,101,32,105,115,32,108,97,121,101,114,32,108,105,115,116,32,109,101,109,98,101,114,32,110,101,101,100,115,32,110,111,116,32,110,117,109,98,101,114,32,111,102,102,32,111,110,32,111,114,32,114,117,108,101,32,114,117,110,110,105,110,103,32,115,97,108,116,32,115,101,103,109,101,110,116,32,115,101,114,118,101,32,115,101,116,116,105,110,103,115,32,115,112,108,105,116,32,115,116,97,114,116,115,32,115,116,111,112,112,101,100,32,116,97,114,103,101,116,32,116,101,120,116,32,116,111,32,116,114,117,101,32,117,110,116,105,108,32,118,97,114,105,97,116,105,111,110,115,32,118,101,114,115,105,111,110,32,119,104,101,110]) fun Qt=>Fits Qt->Lp1 (fun Qe q8t=>CAt Qt Qe (fun y4=>Cnd (y4=s) (K false) (InI (Qe+1)/\q8t (Qe+1))) (K true)) (0:Int))) (s,(0:Nat))))
def Gk:Jf:=z2q q0q
abbrev Rt:Type:=Reg->Slt->(Bool->Prop)->Prop
def q5f(Qr:Jf):Rt:=fun r s K=>Qr s.1 fun Qa=>Cnd (Qa=true) (Qr s.2 fun Qt=>Cnd (Qt=true) (Qr s.3 fun Qf=>Cnd (Qf=true) (Cnd (s.4<1) (K false) (Cnd ((8:Int)<s.4) (K false) (Cnd (s.5<0) (K false) (Cnd (r.1<s.5) (K false) (Cnd (s.7=0) (K (decide (s.6=0))) (Jn1 (fun Qe=>Cnd (Qe=true) (Cnd (s.5<=s.6) (K (decide (s.6<=r.1))) (K false)) (K false)) fun v1n=>Cnd (s.7=1) (v1n (decide (s.7=1))) (v1n (decide (s.7=2))))))))) (K false)) (K false)) (K false)
def q1d:Rt:=q5f Gk
abbrev Ze:Type:=(ByteArray->Option (ByteArray))->ByteArray->(ByteArray->(ByteArray->Option (ByteArray))->Prop)->Prop
def Z0:Ze:=fun f id K=>Lp1 (fun Qa By=>Cnd ((f Qa).isSome=true) (By ((f Qa).getD (B8 []))) (K Qa f)) id
abbrev Jo:Type:=(ByteArray->Option (ByteArray))->ByteArray->ByteArray->(Bool->(ByteArray->Option (ByteArray))->Prop)->Prop
def U0(Qm:Ze):Jo:=fun f a b K=>Qm f a fun Qa By=>Qm By b fun Qt q4w=>Cnd (Qa=Qt) (K false q4w) (Cnd (Lk.blt Qa Qt) (Cnd (Lk.blt Qt Qa) (K true (put q4w Qt Qt)) (K true (put q4w Qt Qa))) (Cnd (Lk.blt Qt Qa) (K true (put q4w Qa Qt)) (K true (put q4w Qa Qa))))
def Wu:Jo:=U0 Z0
abbrev Vs:Type:=List (Lnk)->((ByteArray->Option (ByteArray))->Prop)->Prop
def q5g(Wx:Jo):Vs:=fun l K=>Fits l->Lp2 (fun Qt q4w w2z=>CAt l Qt (fun y2=>Wx q4w y2.1 y2.2 fun _ j8t=>InI (Qt+1)/\w2z (Qt+1) j8t) (K q4w)) (0:Int) fun _=>none
def Ru:Vs:=q5g Wu
abbrev Za:Type:=List (Lnk)->ByteArray->(ByteArray->Prop)->Prop
def q2k(J0:Vs)(Qm:Ze):Za:=fun l id K=>J0 l fun q9d=>Qm q9d id fun Qt _=>K Qt
def Jp:Za:=q2k Ru Z0
abbrev Jj:Type:=Reg->(Bool->Prop)->Prop
def q31(Qr:Jf)(q1y:Rt)(Qj:Za):Jj:=fun r K=>Cnd (r.1<0) (K false) (Cnd ((1099511627776:Int)<r.1) (K false) (Fits r.2->Cnd ((64:Int)<(↑r.2.length:Int)) (K false) (Fits r.3->Cnd ((128:Int)<(↑r.3.length:Int)) (K false) (Fits r.2->Lp2 (fun Qe Hl z8p=>CAt r.2 Hl (fun y4=>Qr y4.1 fun W0=>Cnd (W0=true) (Qr y4.2 fun q01=>Cnd (q01=true) (Cnd (y4.1=y4.2) (K false) (Cnd (y4.3<Qe) (K false) (Cnd (r.1<y4.3) (K false) (InI (Hl+1)/\z8p y4.3 (Hl+1))))) (K false)) (K false)) (Fits r.3->Lp2 (fun Q2 q1r v1j=>CAt r.3 q1r (fun y6=>q1y r y6 fun q4v=>Cnd (q4v=true) (Cnd (y6.5<Q2) (K false) (InI (q1r+1)/\v1j y6.5 (q1r+1))) (K false)) (Fits r.3->Lp2 (fun q01 w9l w3f=>CAt r.3 q01 (fun y8=>Cnd (y8.7=0) (Qj r.2 y8.1 fun J3=>Cnd ((w9l (y8.2,J3)).getD false=true) (K false) (InI (q01+1)/\w3f (q01+1) (put w9l (y8.2,J3) true))) (InI (q01+1)/\w3f (q01+1) w9l)) (K true)) (0:Int) fun _=>none)) (0:Int) (0:Int))) (0:Int) (0:Int)))))
def Ue:Jj:=q31 Gk q1d Jp
abbrev Jk:Type:=Reg->Int->(Int->Prop)->Prop
def q32(Zc:Jj):Jk:=fun r now K=>Zc r fun Qa=>Cnd (Qa=true) (Cnd (now<r.1) (K (26:Int)) (Cnd ((1099511627776:Int)<now) (K (26:Int)) (K (0:Int)))) (K (25:Int))
def Uf:Jk:=q32 Ue
abbrev Qn:Type:=List (Lnk)->(List (Lnk)->Prop)->Prop
def Qy:Qn:=fun s K=> ∀n0,(n0=true->s=[])->Cnd (n0=true) (K []) (Sml ([]++s).length/\K ([]++s))
abbrev Qo:Type:=List (Slt)->(List (Slt)->Prop)->Prop
def Qz:Qo:=fun s K=> ∀n0,(n0=true->s=[])->Cnd (n0=true) (K []) (Sml ([]++s).length/\K ([]++s))
abbrev V6:Type:=Reg->ByteArray->ByteArray->(Int->Prop)->Prop
def q0r(Qj:Za):V6:=fun r id layer K=>Qj r.2 id fun Qa=>Fits r.3->Lp1 (fun Qf z45=>CAt r.3 Qf (fun y3=>Cnd (y3.7=0) (Cnd (y3.2=layer) (Qj r.2 y3.1 fun Q2=>Cnd (Q2=Qa) (K Qf) (InI (Qf+1)/\z45 (Qf+1))) (InI (Qf+1)/\z45 (Qf+1))) (InI (Qf+1)/\z45 (Qf+1))) (K (-1:Int))) (0:Int)
def He:V6:=q0r Jp
abbrev J9:Type:=Reg->ByteArray->Asg->Int->Int->(Reg->Slt->Int->Prop)->Prop
def q2l(Zd:Jk)(Qr:Jf)(Qc:Qn)(Qd:Qo)(Hp:V6)(Qj:Za):J9:=fun r id a cool now K=>Zd r now fun Qa=>Cnd (Qa=0) (Cnd (cool<0) (K (Reg.mk (0:Int) [] []) (Slt.mk (B8 []) (B8 []) (B8 []) (0:Int) (0:Int) (0:Int) (0:Int)) (3:Int)) (Qr id fun Qt=>Cnd (Qt=true) (Qr a.1 fun Qf=>Cnd (Qf=true) (Qc r.2 fun Qe=>Qd r.3 fun Qg=>Hp r id a.1 fun Q2=>Cnd ((0:Int)<=Q2) (At r.3 Q2 fun y6=>K (Reg.mk now Qe Qg) y6 (0:Int)) (Cnd (a.5=true) (K (Reg.mk (0:Int) [] []) (Slt.mk (B8 []) (B8 []) (B8 []) (0:Int) (0:Int) (0:Int) (0:Int)) (11:Int)) (Qr a.2 fun W0=>Cnd (W0=true) (Cnd (a.4<1) (K (Reg.mk (0:Int) [] []) (Slt.mk (B8 []) (B8 []) (B8 []) (0:Int) (0:Int) (0:Int) (0:Int)) (11:Int)) (Cnd ((8:Int)<a.4) (K (Reg.mk (0:Int) [] []) (Slt.mk (B8 []) (B8 []) (B8 []) (0:Int) (0:Int) (0:Int) (0:Int)) (11:Int)) (Qj r.2 id fun q01=>Fits r.3->LpH (fun (Ql:Int×ByteArray×ByteArray×ByteArray×Int×Int×Int×Int×Int×List Lnk×List Slt×Unit) (w6s:Int×ByteArray×ByteArray×ByteArray×Int×Int×Int×Int×Int×List Lnk×List Slt×Unit->Prop)=>CAt r.3 Ql.1 (fun y10=>Cnd (y10.2=a.1) (Cnd (y10.7=0) (InI (Ql.1+1)/\w6s (Ql.1+1,Ql.2.1,Ql.2.2.1,Ql.2.2.2.1,Ql.2.2.2.2.1,Ql.2.2.2.2.2.1,Ql.2.2.2.2.2.2.1,Ql.2.2.2.2.2.2.2.1,Ql.2.2.2.2.2.2.2.2.1,Ql.2.2.2.2.2.2.2.2.2.1,Ql.2.2.2.2.2.2.2.2.2.2.1,())) (InI (now - y10.6)/\Cnd (now - y10.6<cool) (Qj r.2 y10.1 fun q6u=>Cnd (q6u=q01) (K (Reg.mk (0:Int) [] []) (Slt.mk (B8 []) (B8 []) (B8 []) (0:Int) (0:Int) (0:Int) (0:Int)) (28:Int)) (InI (Ql.1+1)/\w6s (Ql.1+1,Ql.2.1,Ql.2.2.1,Ql.2.2.2.1,Ql.2.2.2.2.1,Ql.2.2.2.2.2.1,Ql.2.2.2.2.2.2.1,Ql.2.2.2.2.2.2.2.1,Ql.2.2.2.2.2.2.2.2.1,Ql.2.2.2.2.2.2.2.2.2.1,Ql.2.2.2.2.2.2.2.2.2.2.1,()))) (InI (Ql.1+1)/\w6s (Ql.1+1,Ql.2.1,Ql.2.2.1,Ql.2.2.2.1,Ql.2.2.2.2.1,Ql.2.2.2.2.2.1,Ql.2.2.2.2.2.2.1,Ql.2.2.2.2.2.2.2.1,Ql.2.2.2.2.2.2.2.2.1,Ql.2.2.2.2.2.2.2.2.2.1,Ql.2.2.2.2.2.2.2.2.2.2.1,())))) (InI (Ql.1+1)/\w6s (Ql.1+1,Ql.2.1,Ql.2.2.1,Ql.2.2.2.1,Ql.2.2.2.2.1,Ql.2.2.2.2.2.1,Ql.2.2.2.2.2.2.1,Ql.2.2.2.2.2.2.2.1,Ql.2.2.2.2.2.2.2.2.1,Ql.2.2.2.2.2.2.2.2.2.1,Ql.2.2.2.2.2.2.2.2.2.2.1,()))) (Fits r.3->Cnd ((128:Int)<=(↑r.3.length:Int)) (K (Reg.mk (0:Int) [] []) (Slt.mk (B8 []) (B8 []) (B8 []) (0:Int) (0:Int) (0:Int) (0:Int)) (19:Int)) (Sml (Qg++[Slt.mk id a.1 a.2 a.4 now (0:Int) (0:Int)]).length/\K (Reg.mk now Qe (Qg++[Slt.mk id a.1 a.2 a.4 now (0:Int) (0:Int)])) (Slt.mk id a.1 a.2 a.4 now (0:Int) (0:Int)) (0:Int)))) ((0:Int),B8 [],B8 [],B8 [],(0:Int),(0:Int),(0:Int),(0:Int),(0:Int),[],[],())))) (K (Reg.mk (0:Int) [] []) (Slt.mk (B8 []) (B8 []) (B8 []) (0:Int) (0:Int) (0:Int) (0:Int)) (11:Int))))) (K (Reg.mk (0:Int) [] []) (Slt.mk (B8 []) (B8 []) (B8 []) (0:Int) (0:Int) (0:Int) (0:Int)) (6:Int))) (K (Reg.mk (0:Int) [] []) (Slt.mk (B8 []) (B8 []) (B8 []) (0:Int) (0:Int) (0:Int) (0:Int)) (6:Int)))) (K (Reg.mk (0:Int) [] []) (Slt.mk (B8 []) (B8 []) (B8 []) (0:Int) (0:Int) (0:Int) (0:Int)) Qa)
def U1:J9:=q2l Uf Gk Qy Qz He Jp
abbrev Wh:Type:=List (Lnk)->Int->(List (Lnk)->Prop)->Prop
def V7:Wh:=fun l time K=>Fits l->Lp2 (fun Qt q3n w2z=>CAt l q3n (fun y2=>Cnd (y2.3<=time) (Sml (Qt++[y2]).length/\InI (q3n+1)/\w2z (Qt++[y2]) (q3n+1)) (InI (q3n+1)/\w2z Qt (q3n+1))) (K Qt)) [] (0:Int)
abbrev q2m:Type:=Reg->ByteArray->ByteArray->Int->(Slt->Bool->Prop)->Prop
def q9n(Zv:Wh)(Qj:Za):q2m:=fun r id layer time K=>Zv r.2 time fun Qa=>Qj Qa id fun Qt=>Fits r.3->LpH (fun (Qe:Int×ByteArray×ByteArray×ByteArray×Int×Int×Int×Int×Unit) q8t=>CAt r.3 Qe.1 (fun y4=>Cnd (y4.2=layer) (Cnd (y4.5<=time) (Cnd (y4.7=0) (Qj Qa y4.1 fun W0=>Cnd (W0=Qt) (K y4 true) (InI (Qe.1+1)/\q8t (Qe.1+1,Qe.2.1,Qe.2.2.1,Qe.2.2.2.1,Qe.2.2.2.2.1,Qe.2.2.2.2.2.1,Qe.2.2.2.2.2.2.1,Qe.2.2.2.2.2.2.2.1,()))) (Cnd (time<y4.6) (Qj Qa y4.1 fun W0=>Cnd (W0=Qt) (K y4 true) (InI (Qe.1+1)/\q8t (Qe.1+1,Qe.2.1,Qe.2.2.1,Qe.2.2.2.1,Qe.2.2.2.2.1,Qe.2.2.2.2.2.1,Qe.2.2.2.2.2.2.1,Qe.2.2.2.2.2.2.2.1,()))) (InI (Qe.1+1)/\q8t (Qe.1+1,Qe.2.1,Qe.2.2.1,Qe.2.2.2.1,Qe.2.2.2.2.1,Qe.2.2.2.2.2.1,Qe.2.2.2.2.2.2.1,Qe.2.2.2.2.2.2.2.1,())))) (InI (Qe.1+1)/\q8t (Qe.1+1,Qe.2.1,Qe.2.2.1,Qe.2.2.2.1,Qe.2.2.2.2.1,Qe.2.2.2.2.2.1,Qe.2.2.2.2.2.2.1,Qe.2.2.2.2.2.2.2.1,()))) (InI (Qe.1+1)/\q8t (Qe.1+1,Qe.2.1,Qe.2.2.1,Qe.2.2.2.1,Qe.2.2.2.2.1,Qe.2.2.2.2.2.1,Qe.2.2.2.2.2.2.1,Qe.2.2.2.2.2.2.2.1,()))) (K (Slt.mk (B8 []) (B8 []) (B8 []) (0:Int) (0:Int) (0:Int) (0:Int)) false)) ((0:Int),B8 [],B8 [],B8 [],(0:Int),(0:Int),(0:Int),(0:Int),())
def q5h:q2m:=q9n V7 Jp
abbrev q2n:Type:=Reg->ByteArray->ByteArray->Int->(Slt->Bool->Prop)->Prop
def q9o(Zc:Jj)(q6b:q2m):q2n:=fun r id layer time K=>Zc r fun Qa=>Cnd (Qa=true) (q6b r id layer time fun Qt q3n=>K Qt q3n) (K (Slt.mk (B8 []) (B8 []) (B8 []) (0:Int) (0:Int) (0:Int) (0:Int)) false)
def q5i:q2n:=q9o Ue q5h
abbrev Gl:Type:=Envt->ByteArray->(Lay_->Bool->Prop)->Prop
def Rv:Gl:=fun v key K=>Fits v.5->LpH (fun (Qt:Int×ByteArray×ByteArray×ByteArray×Int×Int×List Col×Unit) q4w=>CAt v.5 Qt.1 (fun y2=>Cnd (y2.1=key) (K y2 true) (InI (Qt.1+1)/\q4w (Qt.1+1,Qt.2.1,Qt.2.2.1,Qt.2.2.2.1,Qt.2.2.2.2.1,Qt.2.2.2.2.2.1,Qt.2.2.2.2.2.2.1,()))) (K (Lay_.mk (B8 []) (B8 []) (B8 []) (0:Int) (0:Int) []) false)) ((0:Int),B8 [],B8 [],B8 [],(0:Int),(0:Int),[],())
abbrev Wi:Type:=Lnk->ByteArray->(ByteArray->Bool->Prop)->Prop
def V8:Wi:=fun k id K=>Cnd (id=k.1) (K k.2 true) (Cnd (id=k.2) (K k.1 true) (K (B8 []) false))
abbrev Ju:Type:=List (Lnk)->ByteArray->((ByteArray->Option (Int))->Prop)->Prop
def Gw(Zw:Wi):Ju:=fun l b K=>Lp2 (fun Qa By j8r=>Fits Qa->Cnd ((0:Int)<(↑Qa.length:Int)) (Fits Qa->Lp3 (fun Qe Hl z8p v1o=>CAt Qa Hl (fun y4=>Fits l->Lp3 (fun q01 w9m w3f v3h=>CAt l w9m (fun y8=>Zw y8 y4 fun J3 v3i=>Cnd (v3i=true) (Cnd ((w3f J3).isSome=true) (InI (w9m+1)/\v3h q01 (w9m+1) w3f) (InI ((w3f y4).getD (0:Int)+(1:Int))/\Sml (q01++[J3]).length/\InI (w9m+1)/\v3h (q01++[J3]) (w9m+1) (put w3f J3 ((w3f y4).getD (0:Int)+(1:Int))))) (InI (w9m+1)/\v3h q01 (w9m+1) w3f)) (InI (Hl+1)/\v1o q01 (Hl+1) w3f)) Qe (0:Int) z8p) (j8r Qe z8p)) [] (0:Int) By) (K By)) [b] (put (fun _=>none) b (0:Int))
def W2:Ju:=Gw V8
abbrev U2:Type:=List (Lnk)->ByteArray->ByteArray->(List (Lnk)->Bool->Prop)->Prop
def q2o(W5:Ju)(Zw:Wi):U2:=fun l a b K=>W5 l b fun q9d=>Cnd ((q9d a).isSome=true) (Lp2 (fun Qt q3n w2z=>Cnd (Qt=b) (K q3n true) (Fits l->Lp3 (fun Qe Hl w5t v1o=>CAt l w5t (fun y4=>Zw y4 Qe fun W0 z0b=>Cnd (z0b=true) (Cnd ((q9d W0).isSome=true) (InI ((q9d Qe).getD (0:Int) - (1:Int))/\Cnd ((q9d W0).getD (0:Int)=(q9d Qe).getD (0:Int) - (1:Int)) (Sml (Hl++[y4]).length/\w2z W0 (Hl++[y4])) (InI (w5t+1)/\v1o Qe Hl (w5t+1))) (InI (w5t+1)/\v1o Qe Hl (w5t+1))) (InI (w5t+1)/\v1o Qe Hl (w5t+1))) (K Hl true)) Qt q3n (0:Int))) a []) (K [] false)
def Rw:U2:=q2o W2 V8
abbrev Wa:Type:=Reg->Envt->ByteArray->ByteArray->Int->(Rcd->Int->Prop)->Prop
def q2p(Zc:Jj)(q6c:q2n)(J1:Gl)(Zv:Wh)(Bg:U2)(Q1:J5):Wa:=fun r v id key time K=>Zc r fun Qa=>Cnd (Qa=true) (q6c r id key time fun Qt q3n=>J1 (Envt.mk (Sett.mk v.1.1 v.1.2 v.1.3) v.2 v.3 v.4 v.5 v.6) key fun Qf Hk=>Cnd (q3n=true) (Cnd (Hk=true) (Zv r.2 time fun Qe=>Bg Qe id Qt.1 fun Qg _=>Q1 Qf.3 Qt.1 fun Q2=>K (Rcd.mk id time Qt Q2 Qg) (0:Int)) (K (Rcd.mk (B8 []) (0:Int) (Slt.mk (B8 []) (B8 []) (B8 []) (0:Int) (0:Int) (0:Int) (0:Int)) (0:Int) []) (11:Int))) (K (Rcd.mk (B8 []) (0:Int) (Slt.mk (B8 []) (B8 []) (B8 []) (0:Int) (0:Int) (0:Int) (0:Int)) (0:Int) []) (11:Int))) (K (Rcd.mk (B8 []) (0:Int) (Slt.mk (B8 []) (B8 []) (B8 []) (0:Int) (0:Int) (0:Int) (0:Int)) (0:Int) []) (25:Int))
def U3:Wa:=q2p Ue q5i Rv V7 Rw Vj
abbrev q1e:Type:=List (Lnk)->ByteArray->ByteArray->Int->(Bool->Prop)->Prop
def q1f:q1e:=fun l a b time K=>Fits l->Lp2 (fun Qt q3n w2z=>CAt l q3n (fun y2=>Cnd (time<y2.3) (K false) (Cnd (y2.1=Qt) (InI (q3n+1)/\w2z y2.2 (q3n+1)) (Cnd (y2.2=Qt) (InI (q3n+1)/\w2z y2.1 (q3n+1)) (K false)))) (K (decide (Qt=b)))) a (0:Int)
abbrev Vt:Type:=Rcd->Envt->(Int->Prop)->Prop
def q5j(q1z:q1e)(J1:Gl)(Q1:J5)(Zu:Gj)(Qr:Jf):Vt:=fun x v K=>Jn1 (fun Qa=>Cnd (Qa=true) (K (6:Int)) (Jn1 (fun Qt=>Cnd (Qt=true) (K (26:Int)) (q1z x.5 x.1 x.3.1 x.2 fun Qf=>Cnd (Qf=true) (J1 (Envt.mk (Sett.mk v.1.1 v.1.2 v.1.3) v.2 v.3 v.4 v.5 v.6) x.3.2 fun Qe Hl=>Fits v.6->Lp1 (fun Q2 j7n=>CAt v.6 Q2 (fun y6=>Cnd (y6.1=x.3.3) (Cnd (y6.2=x.3.2) (Cnd (Hl=true) (Cnd (Q2<0) (K (11:Int)) (At v.6 Q2 fun y8=>Q1 Qe.3 x.3.1 fun J3=>Cnd (x.4=J3) (Fits y8.6->Lp1 (fun q6u v1p=>CAt y8.6 q6u (fun y13=>Cnd (y13.1<=x.4) (Cnd (x.4<y13.2) (Cnd ((0:Int)<=q6u) (Q1 y8.4 x.3.1 fun w3a=>Zu y8.7 w3a fun v3j=>Cnd (x.3.4=v3j) (K (0:Int)) (K (23:Int))) (K (25:Int))) (InI (q6u+1)/\v1p (q6u+1))) (InI (q6u+1)/\v1p (q6u+1))) (Cnd ((0:Int)<=(-1:Int)) (Q1 y8.4 x.3.1 fun w29=>Zu y8.7 w29 fun q8u=>Cnd (x.3.4=q8u) (K (0:Int)) (K (23:Int))) (K (25:Int)))) (0:Int)) (K (3:Int)))) (K (11:Int))) (InI (Q2+1)/\j7n (Q2+1))) (InI (Q2+1)/\j7n (Q2+1))) (Cnd (Hl=true) (Cnd ((-1:Int)<(0:Int)) (K (11:Int)) (At v.6 (-1:Int) fun y6=>Q1 Qe.3 x.3.1 fun q4v=>Cnd (x.4=q4v) (Fits y6.6->Lp1 (fun J3 v1q=>CAt y6.6 J3 (fun y11=>Cnd (y11.1<=x.4) (Cnd (x.4<y11.2) (Cnd ((0:Int)<=J3) (Q1 y6.4 x.3.1 fun w29=>Zu y6.7 w29 fun q8u=>Cnd (x.3.4=q8u) (K (0:Int)) (K (23:Int))) (K (25:Int))) (InI (J3+1)/\v1q (J3+1))) (InI (J3+1)/\v1q (J3+1))) (Cnd ((0:Int)<=(-1:Int)) (Q1 y6.4 x.3.1 fun w3b=>Zu y6.7 w3b fun q6u=>Cnd (x.3.4=q6u) (K (0:Int)) (K (23:Int))) (K (25:Int)))) (0:Int)) (K (3:Int)))) (K (11:Int)))) (0:Int)) (K (15:Int)))) fun w9q=>Cnd (x.2<x.3.5) (w9q (decide (x.2<x.3.5))) (Cnd (x.3.7=0) (w9q false) (w9q (decide (x.3.6<=x.2)))))) fun q9d=>Qr x.1 fun Qt=>Cnd (Qt=true) (Qr x.3.1 fun Qf=>q9d (match decide ((Qf,()).1=true) with|true=>false|false=>true)) (q9d (match decide ((Qt,()).1=true) with|true=>false|false=>true))
def Rx:Vt:=q5j q1f Rv Vj Rs Gk
abbrev Ry:Type:=(Bool->Prop)->Prop
def q5k(Zx:Js)(Bh:q4q)(Jm:Wz)(Z7:J9)(Z8:Wa)(Jn:Vt):Ry:=fun K=>Zx (0:Int) (0:Int) (9998:Int) (4000:Int) (3000:Int) fun Qa=>Bh (B8 [97,110,110]) fun Qt=>Jm (Envt.mk (Sett.mk Qa.1.1 Qa.1.2 Qa.1.3) Qa.2 Qa.3 Qa.4 Qa.5 Qa.6) (Subj.mk Qt.1) [] (B8 [104,111,109,101]) fun Qf Hk=>Z7 (Reg.mk (0:Int) [] []) (B8 [97,110,110]) Qf (0:Int) (1:Int) fun Qe _ w5t=>Z8 Qe (Envt.mk (Sett.mk Qa.1.1 Qa.1.2 Qa.1.3) Qa.2 Qa.3 Qa.4 Qa.5 Qa.6) (B8 [97,110,110]) (B8 [104,111,109,101]) (1:Int) fun Qg Ut=>InI (Qg.4+1)/\(10000:Int)≠(0:Int)/\Cnd (Hk=0) (Cnd (w5t=0) (Cnd (Ut=0) (Cnd ((0:Int)<Qf.4) (Cnd (Qg.3.4=Qf.4) (Cnd (Qg.3.1=B8 [97,110,110]) (Cnd (Qg.4=Qf.3) (Jn (Rcd.mk Qg.1 Qg.2 (Slt.mk Qg.3.1 Qg.3.2 Qg.3.3 Qg.3.4 Qg.3.5 Qg.3.6 Qg.3.7) Qg.4 Qg.5) (Envt.mk (Sett.mk Qa.1.1 Qa.1.2 Qa.1.3) Qa.2 Qa.3 Qa.4 Qa.5 Qa.6) fun Q2=>Cnd (Q2=0) (Jn (Rcd.mk Qg.1 Qg.2 (Slt.mk Qg.3.1 Qg.3.2 Qg.3.3 Qg.3.4 Qg.3.5 Qg.3.6 Qg.3.7) ((Qg.4+1).tmod (10000:Int)) Qg.5) (Envt.mk (Sett.mk Qa.1.1 Qa.1.2 Qa.1.3) Qa.2 Qa.3 Qa.4 Qa.5 Qa.6) fun W0=>K (decide (W0=3))) (K false)) (K false)) (K false)) (K false)) (K false)) (K false)) (K false)) (K false)
def q1g:Ry:=q5k V3 q62 G4 U1 U3 Rx
abbrev Ja:Type:=AEnv->(Envt->Prop)->Prop
def Uh(Zx:Js):Ja:=fun x K=>Zx x.1 x.2 x.3 x.4 x.5 fun Qa=>K (Envt.mk (Sett.mk Qa.1.1 Qa.1.2 Qa.1.3) Qa.2 Qa.3 Qa.4 Qa.5 Qa.6)
def Wc:Ja:=Uh V3
abbrev z0s:Type:=ByteArray->(Bool->Prop)->Prop
def z0t:z0s:=fun s K=>Lp1 (fun Qa By=>Cnd (Qa<(↑s.size:Int)) (((0:Int)<=Qa/\Qa<(↑s.size:Int))/\ ∀b1,s[Qa.toNat]? =some b1->Cnd ((97:Int)<=(↑b1.toNat:Int)) (Cnd ((↑b1.toNat:Int)<=122) (InI (Qa+1)/\By (Qa+1)) (Cnd (Qa=0) (K false) (Cnd ((48:Int)<=(↑b1.toNat:Int)) (Cnd ((↑b1.toNat:Int)<=57) (InI (Qa+1)/\By (Qa+1)) (Cnd ((↑b1.toNat:Int)=45) (InI (Qa+1)/\By (Qa+1)) (Cnd ((↑b1.toNat:Int)=95) (InI (Qa+1)/\By (Qa+1)) (K false)))) (Cnd ((↑b1.toNat:Int)=45) (InI (Qa+1)/\By (Qa+1)) (Cnd ((↑b1.toNat:Int)=95) (InI (Qa+1)/\By (Qa+1)) (K false)))))) (Cnd (Qa=0) (K false) (Cnd ((48:Int)<=(↑b1.toNat:Int)) (Cnd ((↑b1.toNat:Int)<=57) (InI (Qa+1)/\By (Qa+1)) (Cnd ((↑b1.toNat:Int)=45) (InI (Qa+1)/\By (Qa+1)) (Cnd ((↑b1.toNat:Int)=95) (InI (Qa+1)/\By (Qa+1)) (K false)))) (Cnd ((↑b1.toNat:Int)=45) (InI (Qa+1)/\By (Qa+1)) (Cnd ((↑b1.toNat:Int)=95) (InI (Qa+1)/\By (Qa+1)) (K false)))))) (K (decide ((0:Int)<(↑s.size:Int))))) (0:Int)
abbrev q1h:Type:=(List (ByteArray)->Prop)->Prop
def q1i:q1h:=fun K=>K [B8 [97,110,100],B8 [97,114,109,115],B8 [97,116,116,114,105,98,117,116,101],B8 [98,111,111,108],B8 [99,108,97,105,109,115],B8 [99,111,110,116,97,105,110,115],B8 [99,111,111,108],B8 [99,111,111,108,105,110,103],B8 [100,101,102,97,117,108,116],B8 [100,114,97,102,116],B8 [101,110,100,115],B8 [101,120,99,108,117,100,101],B8 [101,120,105,115,116,115],B8 [101,120,112,101,114,105,109,101,110,116],B8 [102,97,108,115,101],B8 [102,108,97,103],B8 [104,111,108,100,111,117,116],B8 [105,110],B8 [105,110,99,108,117,100,101],B8 [105,115],B8 [108,97,121,101,114],B8 [108,105,115,116],B8 [109,101,109,98,101,114],B8 [110,101,101,100,115],B8 [110,111,116],B8 [110,117,109,98,101,114],B8 [111,102,102],B8 [111,110],B8 [111,114],B8 [114,117,108,101],B8 [114,117,110,110,105,110,103],B8 [115,97,108,116],B8 [115,101,103,109,101,110,116],B8 [115,101,114,118,101],B8 [115,101,116,116,105,110,103,115],B8 [115,112,108,105,116],B8 [115,116,97,114,116,115],B8 [115,116,111,112,112,101,100],B8 [116,97,114,103,101,116],B8 [116,101,120,116],B8 [116,111],B8 [116,114,117,101],B8 [117,110,116,105,108],B8 [118,97,114,105,97,116,105,111,110,115],B8 [118,101,114,115,105,111,110],B8 [119,104,101,110]]
abbrev z0u:Type:=ByteArray->(Bool->Prop)->Prop
def j0e(z13:z0s)(q10:q1h):z0u:=fun s K=>z13 s fun Qa=>Cnd (Qa=true) (Cnd ((32:Int)<(↑s.size:Int)) (K false) (q10 fun Qt=>Lp1 (fun Qf z45=>Fits Qt->CAt Qt Qf (fun y4=>Cnd (y4=s) (K false) (InI (Qf+1)/\z45 (Qf+1))) (K true)) (0:Int))) (K false)
def z4w:z0u:=j0e z0t q1i
abbrev z4x:Type:=List (ByteArray)->ByteArray->(Bool->Prop)->Prop
def z0v:z4x:=fun l s K=>Lp1 (fun Qa By=>Fits l->CAt l Qa (fun y2=>Cnd (y2=s) (K true) (InI (Qa+1)/\By (Qa+1))) (K false)) (0:Int)
abbrev q5l:Type:=Envt->ByteArray->(Lay_->Bool->Prop)->Prop
def q5m:q5l:=fun v key K=>LpH (fun (Qa:Int×ByteArray×ByteArray×ByteArray×Int×Int×List Col×Unit) By=>Fits v.5->CAt v.5 Qa.1 (fun y2=>Cnd (y2.1=key) (At v.5 Qa.1 fun y4=>K y4 true) (InI (Qa.1+1)/\By (Qa.1+1,Qa.2.1,Qa.2.2.1,Qa.2.2.2.1,Qa.2.2.2.2.1,Qa.2.2.2.2.2.1,Qa.2.2.2.2.2.2.1,()))) (K (Lay_.mk (B8 []) (B8 []) (B8 []) (0:Int) (0:Int) []) false)) ((0:Int),B8 [],B8 [],B8 [],(0:Int),(0:Int),[],())
abbrev q33:Type:=List (Lnk)->ByteArray->ByteArray->(Int->Prop)->Prop
def q80(q11:z4x):q33:=fun l a b K=>Lp2 (fun Qa Vy j8r=>q11 Qa b fun Qt=>Cnd (Qt=true) (K Vy) (Sml ([]++Qa).length/\Lp3 (fun Qf Hk j39 w9r=>Fits l->Cnd (Hk<(↑l.length:Int)) (Jn2 (fun Qg Ut=>At l Hk fun y5=>q11 Ut y5.2 fun q01=>Cnd (q01=true) (At l Hk fun y8=>q11 Qg y8.1 fun J3=>Cnd (J3=true) (InI (Hk+1)/\w9r Qg (Hk+1) Ut) (At l Hk fun y11=>Sml (Qg++[y11.1]).length/\InI (Hk+1)/\w9r (Qg++[y11.1]) (Hk+1) Ut)) (InI (Hk+1)/\w9r Qg (Hk+1) Ut)) fun j8x=>At l Hk fun y5=>q11 j39 y5.1 fun q01=>Cnd (q01=true) (At l Hk fun y8=>q11 Qf y8.2 fun J3=>Cnd (J3=true) (j8x Qf j39) (At l Hk fun y11=>Sml (Qf++[y11.2]).length/\j8x (Qf++[y11.2]) j39)) (j8x Qf j39)) (Fits Qf->Fits j39->Cnd ((↑Qf.length:Int)=(↑j39.length:Int)) (K (-1:Int)) (InI (Vy+1)/\j8r Qf (Vy+1)))) ([]++Qa) (0:Int) Qa)) [a] (0:Int)
def q34:q33:=q80 z0v
abbrev z9b:Type:=List (Lnk)->ByteArray->ByteArray->(List (Lnk)->Bool->Prop)->Prop
def z9c(q9e:q33):z9b:=fun l a b K=>q9e l a b fun Qa=>Cnd (Qa<0) (K [] false) (Lp3 (fun Qt q3n j8s v1u=>Cnd ((0:Int)<q3n) (Lp3 (fun Qf Hk j39 w9r=>Fits l->CAt l j39 (fun y4=>At l j39 fun y6=>Jn2 (fun q4v v3y=>Cnd (v3y=true) (q9e l q4v b fun Ql=>InI (q3n - 1)/\Cnd (Ql=q3n - 1) (At l j39 fun y10=>Sml (Hk++[y10]).length/\InI (q3n - 1)/\v1u q4v (q3n - 1) (Hk++[y10])) (InI (j39+1)/\w9r Qf Hk (j39+1))) (InI (j39+1)/\w9r Qf Hk (j39+1))) fun v3t=>Cnd (y6.1=Qf) (v3t y4.2 (decide (y6.1=Qf))) (At l j39 fun y9=>At l j39 fun y11=>v3t y9.1 (decide (y11.2=Qf)))) (InI (q3n - 1)/\v1u Qf (q3n - 1) Hk)) Qt j8s (0:Int)) (K j8s true)) a Qa [])
def z9d:z9b:=z9c q34
abbrev q76:Type:=List (List Int)->(List (Int)->Prop)->Prop
def q77:q76:=fun fields K=>Lp2 (fun Qa Vy j8r=>Fits fields->CAt fields Vy (fun y2=>Fits y2->Lp2 (fun Q2 q1r v1j=>Cnd ((0:Int)<=q1r) ((0:Int)<=Go.IntKind.u64.wrap q1r/\Sml (Q2++[Go.IntKind.u8.wrap ((Go.IntKind.u64.wrap (↑y2.length:Int)).fdiv ((2:Int) ^ Min.min (Go.IntKind.u64.wrap q1r).toNat (64:Nat)))]).length/\InI (q1r - 8)/\v1j (Q2++[Go.IntKind.u8.wrap ((Go.IntKind.u64.wrap (↑y2.length:Int)).fdiv ((2:Int) ^ Min.min (Go.IntKind.u64.wrap q1r).toNat (64:Nat)))]) (q1r - 8)) (At fields Vy fun y6=>Sml (Q2++y6).length/\InI (Vy+1)/\j8r (Q2++y6) (Vy+1))) Qa (56:Int)) (K Qa)) [] (0:Int)
abbrev q5n:Type:=Int->Int->(Int->Prop)->Prop
def q5o:q5n:=fun x n K=>(0:Int)<=n/\(0:Int)<=Go.IntKind.u64.wrap ((64:Int) - n)/\K (Go.IntKind.u64.wrap (↑(BitVec.ofInt (64:Nat) (Go.IntKind.u64.wrap (x*2 ^ Min.min n.toNat (64:Nat)))|||BitVec.ofInt (64:Nat) (x.fdiv ((2:Int) ^ Min.min (Go.IntKind.u64.wrap ((64:Int) - n)).toNat (64:Nat)))).toNat:Int))
abbrev V9:Type:=Sip->Int->(Sip->Prop)->Prop
def q0s(V2:q5n):V9:=fun v n K=>Lp5 (fun Qa Vy z3i z3j j1v w9o=>Cnd (Qa<n) (V2 z3i (13:Int) fun Qt=>V2 (Go.IntKind.u64.wrap (Vy+z3i)) (32:Int) fun Qf=>V2 j1v (16:Int) fun Qe=>V2 (Go.IntKind.u64.wrap (↑(BitVec.ofInt (64:Nat) Qe ^^^ BitVec.ofInt (64:Nat) (Go.IntKind.u64.wrap (z3j+j1v))).toNat:Int)) (21:Int) fun Qg=>V2 (Go.IntKind.u64.wrap (↑(BitVec.ofInt (64:Nat) Qt ^^^ BitVec.ofInt (64:Nat) (Go.IntKind.u64.wrap (Vy+z3i))).toNat:Int)) (17:Int) fun Q2=>V2 (Go.IntKind.u64.wrap (Go.IntKind.u64.wrap (z3j+j1v)+Go.IntKind.u64.wrap (↑(BitVec.ofInt (64:Nat) Qt ^^^ BitVec.ofInt (64:Nat) (Go.IntKind.u64.wrap (Vy+z3i))).toNat:Int))) (32:Int) fun W0=>InI (Qa+1)/\w9o (Qa+1) (Go.IntKind.u64.wrap (Qf+Go.IntKind.u64.wrap (↑(BitVec.ofInt (64:Nat) Qe ^^^ BitVec.ofInt (64:Nat) (Go.IntKind.u64.wrap (z3j+j1v))).toNat:Int))) (Go.IntKind.u64.wrap (↑(BitVec.ofInt (64:Nat) Q2 ^^^ BitVec.ofInt (64:Nat) (Go.IntKind.u64.wrap (Go.IntKind.u64.wrap (z3j+j1v)+Go.IntKind.u64.wrap (↑(BitVec.ofInt (64:Nat) Qt ^^^ BitVec.ofInt (64:Nat) (Go.IntKind.u64.wrap (Vy+z3i))).toNat:Int)))).toNat:Int)) W0 (Go.IntKind.u64.wrap (↑(BitVec.ofInt (64:Nat) Qg ^^^ BitVec.ofInt (64:Nat) (Go.IntKind.u64.wrap (Qf+Go.IntKind.u64.wrap (↑(BitVec.ofInt (64:Nat) Qe ^^^ BitVec.ofInt (64:Nat) (Go.IntKind.u64.wrap (z3j+j1v))).toNat:Int)))).toNat:Int))) (K (Sip.mk Vy z3i z3j j1v))) (0:Int) v.1 v.2 v.3 v.4
def Zs:V9:=q0s q5o
abbrev z0w:Type:=Int->Int->List (Int)->(Int->Prop)->Prop
def j0f(Wl:V9):z0w:=fun k0 k1 b K=>Lp5 (fun Qa Vy z3i z3j j1v w9o=>Fits b->(8:Int)≠(0:Int)/\InI ((↑b.length:Int).tdiv (8:Int))/\Cnd (Qa<=(↑b.length:Int).tdiv (8:Int)) (Lp2 (fun Qf Hk j7m=>Cnd (Hk<8) (InI ((8:Int)*Qa)/\InI ((8:Int)*Qa+Hk)/\(Fits b->Cnd ((8:Int)*Qa+Hk<(↑b.length:Int)) (InI ((8:Int)*Qa)/\InI ((8:Int)*Qa+Hk)/\((0:Int)<=(8:Int)*Qa+Hk/\(8:Int)*Qa+Hk<(↑b.length:Int))/\ ∀y4,b[((8:Int)*Qa+Hk).toNat]? =some y4->InI ((8:Int)*Hk)/\(0:Int)<=Go.IntKind.u64.wrap ((8:Int)*Hk)/\InI (Hk+1)/\j7m (Go.IntKind.u64.wrap (↑(BitVec.ofInt (64:Nat) Qf|||BitVec.ofInt (64:Nat) (Go.IntKind.u64.wrap (Go.IntKind.u64.wrap y4*2 ^ Min.min (Go.IntKind.u64.wrap ((8:Int)*Hk)).toNat (64:Nat)))).toNat:Int)) (Hk+1)) (Jn1 (fun Qg=>Wl (Sip.mk Vy z3i z3j (Go.IntKind.u64.wrap (↑(BitVec.ofInt (64:Nat) j1v ^^^ BitVec.ofInt (64:Nat) Qg).toNat:Int))) (2:Int) fun Q2=>InI (Qa+1)/\w9o (Qa+1) (Go.IntKind.u64.wrap (↑(BitVec.ofInt (64:Nat) Q2.1 ^^^ BitVec.ofInt (64:Nat) Qg).toNat:Int)) Q2.2 Q2.3 Q2.4) fun j8x=>Fits b->(8:Int)≠(0:Int)/\InI ((↑b.length:Int).tdiv (8:Int))/\Cnd (Qa=(↑b.length:Int).tdiv (8:Int)) (Fits b->(256:Int)≠(0:Int)/\(0:Int)<=(56:Int)/\j8x (Go.IntKind.u64.wrap (↑(BitVec.ofInt (64:Nat) Qf|||BitVec.ofInt (64:Nat) (Go.IntKind.u64.wrap (Go.IntKind.u64.wrap ((↑b.length:Int).tmod (256:Int))*(2:Int) ^ Min.min (Int.toNat (56:Int)) (64:Nat)))).toNat:Int))) (j8x Qf)))) (Jn1 (fun Qe=>Wl (Sip.mk Vy z3i z3j (Go.IntKind.u64.wrap (↑(BitVec.ofInt (64:Nat) j1v ^^^ BitVec.ofInt (64:Nat) Qe).toNat:Int))) (2:Int) fun Qg=>InI (Qa+1)/\w9o (Qa+1) (Go.IntKind.u64.wrap (↑(BitVec.ofInt (64:Nat) Qg.1 ^^^ BitVec.ofInt (64:Nat) Qe).toNat:Int)) Qg.2 Qg.3 Qg.4) fun v1n=>Fits b->(8:Int)≠(0:Int)/\InI ((↑b.length:Int).tdiv (8:Int))/\Cnd (Qa=(↑b.length:Int).tdiv (8:Int)) (Fits b->(256:Int)≠(0:Int)/\(0:Int)<=(56:Int)/\v1n (Go.IntKind.u64.wrap (↑(BitVec.ofInt (64:Nat) Qf|||BitVec.ofInt (64:Nat) (Go.IntKind.u64.wrap (Go.IntKind.u64.wrap ((↑b.length:Int).tmod (256:Int))*(2:Int) ^ Min.min (Int.toNat (56:Int)) (64:Nat)))).toNat:Int))) (v1n Qf))) (0:Int) (0:Int)) (Wl (Sip.mk Vy z3i (Go.IntKind.u64.wrap (↑(BitVec.ofInt (64:Nat) z3j ^^^ BitVec.ofInt (64:Nat) (255:Int)).toNat:Int)) j1v) (4:Int) fun Qf=>K (Go.IntKind.u64.wrap (↑(BitVec.ofInt (64:Nat) (Go.IntKind.u64.wrap (↑(BitVec.ofInt (64:Nat) (Go.IntKind.u64.wrap (↑(BitVec.ofInt (64:Nat) Qf.1 ^^^ BitVec.ofInt (64:Nat) Qf.2).toNat:Int)) ^^^ BitVec.ofInt (64:Nat) Qf.3).toNat:Int)) ^^^ BitVec.ofInt (64:Nat) Qf.4).toNat:Int)))) (0:Int) (Go.IntKind.u64.wrap (↑(BitVec.ofInt (64:Nat) k0 ^^^ BitVec.ofInt (64:Nat) (8317987319222330741:Int)).toNat:Int)) (Go.IntKind.u64.wrap (↑(BitVec.ofInt (64:Nat) k1 ^^^ BitVec.ofInt (64:Nat) (7237128888997146477:Int)).toNat:Int)) (Go.IntKind.u64.wrap (↑(BitVec.ofInt (64:Nat) k0 ^^^ BitVec.ofInt (64:Nat) (7816392313619706465:Int)).toNat:Int)) (Go.IntKind.u64.wrap (↑(BitVec.ofInt (64:Nat) k1 ^^^ BitVec.ofInt (64:Nat) (8387220255154660723:Int)).toNat:Int))
def z4y:z0w:=j0f Zs
abbrev q67:Type:=Int->List (List Int)->(Int->Prop)->Prop
def z58(q8m:q76)(z47:z0w):q67:=fun domain fields K=>q8m fields fun Qa=>z47 domain (0:Int) Qa fun Qt=>K Qt
def z0x:q67:=z58 q77 z4y
abbrev z0y:Type:=ByteArray->ByteArray->(Int->Prop)->Prop
def j0g(z14:q67):z0y:=fun salt key K=>Sml salt.size/\Sml key.size/\z14 (1:Int) [List.map (fun b=>(↑b.toNat:Int)) (salt,key,()).1.data.toList,List.map (fun b=>(↑b.toNat:Int)) (salt,key,()).2.1.data.toList] fun Qa=>(10000:Int)≠(0:Int)/\InI (Qa.tmod (10000:Int))/\K (Qa.tmod (10000:Int))
def q78:z0y:=j0g z0x
abbrev q5p:Type:=List (Lnk)->ByteArray->ByteArray->Int->(Bool->Prop)->Prop
def q5q:q5p:=fun l lo hi time K=>Lp2 (fun Qa Vy j8r=>Fits l->CAt l Vy (fun y2=>Cnd (time<y2.3) (K false) (At l Vy fun y4=>Cnd (Qa=y4.1) (At l Vy fun y6=>InI (Vy+1)/\j8r y6.2 (Vy+1)) (At l Vy fun y6=>Cnd (Qa=y6.2) (At l Vy fun y8=>InI (Vy+1)/\j8r y8.1 (Vy+1)) (K false)))) (K (decide (Qa=hi)))) lo (0:Int)
abbrev Hf:Type:=Envt->ByteArray->ByteArray->(Exper->Bool->Prop)->Prop
def Hg:Hf:=fun v key layer K=>LpH (fun (Qa:Int×ByteArray×ByteArray×ByteArray×ByteArray×Int×List Spn×List Rng×Int×ByteArray×ByteArray×List Val×List Ex×Unit) (By:Int×ByteArray×ByteArray×ByteArray×ByteArray×Int×List Spn×List Rng×Int×ByteArray×ByteArray×List Val×List Ex×Unit->Prop)=>Fits v.6->CAt v.6 Qa.1 (fun y2=>Cnd (y2.1=key) (At v.6 Qa.1 fun y4=>Cnd (y4.2=layer) (At v.6 Qa.1 fun y6=>K (Exper.mk y6.1 y6.2 y6.3 y6.4 y6.5 y6.6 y6.7 (Ex.mk y6.8.1 y6.8.2 y6.8.3 y6.8.4 y6.8.5)) true) (InI (Qa.1+1)/\By (Qa.1+1,Qa.2.1,Qa.2.2.1,Qa.2.2.2.1,Qa.2.2.2.2.1,Qa.2.2.2.2.2.1,Qa.2.2.2.2.2.2.1,Qa.2.2.2.2.2.2.2.1,Qa.2.2.2.2.2.2.2.2.1,Qa.2.2.2.2.2.2.2.2.2.1,Qa.2.2.2.2.2.2.2.2.2.2.1,Qa.2.2.2.2.2.2.2.2.2.2.2.1,Qa.2.2.2.2.2.2.2.2.2.2.2.2.1,()))) (InI (Qa.1+1)/\By (Qa.1+1,Qa.2.1,Qa.2.2.1,Qa.2.2.2.1,Qa.2.2.2.2.1,Qa.2.2.2.2.2.1,Qa.2.2.2.2.2.2.1,Qa.2.2.2.2.2.2.2.1,Qa.2.2.2.2.2.2.2.2.1,Qa.2.2.2.2.2.2.2.2.2.1,Qa.2.2.2.2.2.2.2.2.2.2.1,Qa.2.2.2.2.2.2.2.2.2.2.2.1,Qa.2.2.2.2.2.2.2.2.2.2.2.2.1,()))) (K (Exper.mk (B8 []) (B8 []) (B8 []) (B8 []) (0:Int) [] [] (Ex.mk (0:Int) (B8 []) (B8 []) [] [])) false)) ((0:Int),B8 [],B8 [],B8 [],B8 [],(0:Int),[],[],(0:Int),B8 [],B8 [],[],[],())
abbrev q79:Type:=List (Rng)->Int->(Int->Prop)->Prop
def q8a:q79:=fun l bucket K=>Lp1 (fun Qa By=>Fits l->CAt l Qa (fun y2=>Cnd (y2.1<=bucket) (At l Qa fun y4=>Cnd (bucket<y4.2) (At l Qa fun y6=>K y6.3) (InI (Qa+1)/\By (Qa+1))) (InI (Qa+1)/\By (Qa+1))) (K (0:Int))) (0:Int)
abbrev q2q:Type:=Rcd->Envt->(Int->Prop)->Prop
def q9p(z15:z0u)(q28:q5p)(q29:q5l)(Ub:Hf)(q6d:z0y)(q4x:q79):q2q:=fun x v K=>z15 x.1 fun Qa=>Cnd (Qa=true) (z15 x.3.1 fun Qt=>Cnd (Qt=true) (Cnd (x.2<x.3.5) (K (26:Int)) (Cnd (x.3.7=0) (q28 x.5 x.1 x.3.1 x.2 fun Qf=>Cnd (Qf=true) (q29 (Envt.mk (Sett.mk v.1.1 v.1.2 v.1.3) v.2 v.3 v.4 v.5 v.6) x.3.2 fun Qe Hl=>Ub (Envt.mk (Sett.mk v.1.1 v.1.2 v.1.3) v.2 v.3 v.4 v.5 v.6) x.3.3 x.3.2 fun Qg Ut=>Cnd (Hl=true) (Cnd (Ut=true) (q6d Qe.3 x.3.1 fun Q2=>Cnd (x.4=Q2) (Lp2 (fun W0 z0b w5r=>Fits Qg.6->Cnd (z0b<(↑Qg.6.length:Int)) (Cnd (W0=true) (InI (z0b+1)/\w5r true (z0b+1)) (At Qg.6 z0b fun y8=>Cnd (y8.1<=x.4) (At Qg.6 z0b fun y10=>InI (z0b+1)/\w5r (decide (x.4<y10.2)) (z0b+1)) (InI (z0b+1)/\w5r false (z0b+1)))) (Cnd (W0=true) (q6d Qg.4 x.3.1 fun q4v=>q4x Qg.7 q4v fun Ql=>Cnd (x.3.4=Ql) (K (0:Int)) (K (23:Int))) (K (25:Int)))) false (0:Int)) (K (3:Int))) (K (11:Int))) (K (11:Int))) (K (15:Int))) (Cnd (x.3.6<=x.2) (K (26:Int)) (q28 x.5 x.1 x.3.1 x.2 fun Qf=>Cnd (Qf=true) (q29 (Envt.mk (Sett.mk v.1.1 v.1.2 v.1.3) v.2 v.3 v.4 v.5 v.6) x.3.2 fun Qe Hl=>Ub (Envt.mk (Sett.mk v.1.1 v.1.2 v.1.3) v.2 v.3 v.4 v.5 v.6) x.3.3 x.3.2 fun Qg Ut=>Cnd (Hl=true) (Cnd (Ut=true) (q6d Qe.3 x.3.1 fun Q2=>Cnd (x.4=Q2) (Lp2 (fun W0 z0b w5r=>Fits Qg.6->Cnd (z0b<(↑Qg.6.length:Int)) (Cnd (W0=true) (InI (z0b+1)/\w5r true (z0b+1)) (At Qg.6 z0b fun y8=>Cnd (y8.1<=x.4) (At Qg.6 z0b fun y10=>InI (z0b+1)/\w5r (decide (x.4<y10.2)) (z0b+1)) (InI (z0b+1)/\w5r false (z0b+1)))) (Cnd (W0=true) (q6d Qg.4 x.3.1 fun q4v=>q4x Qg.7 q4v fun Ql=>Cnd (x.3.4=Ql) (K (0:Int)) (K (23:Int))) (K (25:Int)))) false (0:Int)) (K (3:Int))) (K (11:Int))) (K (11:Int))) (K (15:Int)))))) (K (6:Int))) (K (6:Int))
def q5r:q2q:=q9p z4w q5q q5m Hg q78 q8a
abbrev z4z:Type:=(List (ByteArray)->Prop)->Prop
def j6w:z4z:=fun K=>K [B8 [97,110,110],B8 [98,111,98],B8 [99,97,116],B8 [100,97,110],B8 [101,118,101],B8 [102,97,121]]
abbrev q5s:Type:=Int->(ByteArray->Prop)->Prop
def j41(z16:z4z):q5s:=fun n K=>z16 fun Qa=>z16 fun Qt=>Fits Qt->(↑Qt.length:Int)≠(0:Int)/\((0:Int)<=n.tmod (↑Qt.length:Int)/\n.tmod (↑Qt.length:Int)<(↑Qa.length:Int))/\ ∀y3,Qa[(n.tmod (↑Qt.length:Int)).toNat]? =some y3->K y3
def z2r:q5s:=j41 j6w
abbrev Wj:Type:=(List (ByteArray)->Prop)->Prop
def Hh:Wj:=fun K=>K [B8 [98,108,117,101],B8 [103,114,101,101,110],B8 [102,97,115,116],B8 [115,108,111,119]]
abbrev Rz:Type:=Reg->ByteArray->Int->(Reg->Int->Int->Prop)->Prop
def q5t(Zd:Jk)(Qr:Jf)(Qc:Qn)(Qd:Qo):Rz:=fun r experiment now K=>Zd r now fun Qa=>Cnd (Qa=0) (Qr experiment fun Qt=>Cnd (Qt=true) (Qc r.2 fun Qf=>Qd r.3 fun Qe=>Fits Qe->Lp3 (fun Q2 q1r j8w v3k=>Cnd (q1r<(↑Qe.length:Int)) (At j8w q1r fun y6=>Cnd (y6.7=0) (∀y8,j8w[q1r.toNat]? =some y8->Cnd (y8.3=experiment) (∀y10,j8w[q1r.toNat]? =some y10-> ∀y12,(j8w.set q1r.toNat (Slt.mk y10.1 y10.2 y10.3 y10.4 y10.5 now y10.7))[q1r.toNat]? =some y12->InI (Q2+1)/\InI (q1r+1)/\v3k (Q2+1) (q1r+1) ((j8w.set q1r.toNat (Slt.mk y10.1 y10.2 y10.3 y10.4 y10.5 now y10.7)).set q1r.toNat (Slt.mk y12.1 y12.2 y12.3 y12.4 y12.5 y12.6 (1:Int)))) (InI (q1r+1)/\v3k Q2 (q1r+1) j8w)) (InI (q1r+1)/\v3k Q2 (q1r+1) j8w)) (K (Reg.mk now Qf j8w) Q2 (0:Int))) (0:Int) (0:Int) Qe) (K (Reg.mk (0:Int) [] []) (0:Int) (6:Int))) (K (Reg.mk (0:Int) [] []) (0:Int) Qa)
def q1j:Rz:=q5t Uf Gk Qy Qz
abbrev U4:Type:=List (Lnk)->ByteArray->ByteArray->(Bool->Prop)->Prop
def q2r(J0:Vs)(Qm:Ze):U4:=fun l a b K=>J0 l fun q9d=>Qm q9d a fun Qt q4w=>Qm q4w b fun Qf _=>K (decide (Qt=Qf))
def R0:U4:=q2r Ru Z0
abbrev G5:Type:=Reg->ByteArray->ByteArray->Int->(Reg->List (Slt)->Int->Prop)->Prop
def q35(Zd:Jk)(Qr:Jf)(Qc:Qn)(Qd:Qo)(Bi:U4)(Qj:Za):G5:=fun r a b now K=>Zd r now fun Qa=>Cnd (Qa=0) (Qr a fun Qt=>Cnd (Qt=true) (Qr b fun Qf=>Cnd (Qf=true) (Cnd (a=b) (K (Reg.mk (0:Int) [] []) [] (15:Int)) (Qc r.2 fun Qe=>Qd r.3 fun Qg=>Bi r.2 a b fun Q2=>Cnd (Q2=true) (K (Reg.mk now Qe Qg) [] (0:Int)) (Fits r.2->Cnd ((64:Int)<=(↑r.2.length:Int)) (K (Reg.mk (0:Int) [] []) [] (19:Int)) (Sml (Qe++[Lnk.mk a b now]).length/\Qj (Qe++[Lnk.mk a b now]) a fun q01=>Fits Qg->LpH (fun (Ql:List Slt×Int×(ByteArray->Option Bool)×List Lnk×List Lnk×List Slt×Unit) (w6s:List Slt×Int×(ByteArray->Option Bool)×List Lnk×List Lnk×List Slt×Unit->Prop)=>Cnd (Ql.2.1<(↑Qg.length:Int)) (At Ql.2.2.2.2.2.1 Ql.2.1 fun y10=>Cnd (y10.7=0) (∀y12,Ql.2.2.2.2.2.1[Ql.2.1.toNat]? =some y12->Qj Ql.2.2.2.1 y12.1 fun q8u=>Cnd (q8u=q01) (Jn4 (fun w3a v3l v1r v3m=> ∀y16,v1r[Ql.2.1.toNat]? =some y16->InI (Ql.2.1+1)/\w6s (w3a,Ql.2.1+1,put Ql.2.2.1 y16.2 true,v3l,v3m,v1r,())) fun (v1s:List Slt->List Lnk->List Slt->List Lnk->Prop)=> ∀y16,Ql.2.2.2.2.2.1[Ql.2.1.toNat]? =some y16->Cnd ((Ql.2.2.1 y16.2).getD false=true) (∀y18,Ql.2.2.2.2.2.1[Ql.2.1.toNat]? =some y18-> ∀y20,(Ql.2.2.2.2.2.1.set Ql.2.1.toNat (Slt.mk y18.1 y18.2 y18.3 y18.4 y18.5 now y18.7))[Ql.2.1.toNat]? =some y20-> ∀y22,((Ql.2.2.2.2.2.1.set Ql.2.1.toNat (Slt.mk y18.1 y18.2 y18.3 y18.4 y18.5 now y18.7)).set Ql.2.1.toNat (Slt.mk y20.1 y20.2 y20.3 y20.4 y20.5 y20.6 (2:Int)))[Ql.2.1.toNat]? =some y22->Sml (Ql.1++[y22]).length/\v1s (Ql.1++[y22]) Ql.2.2.2.1 ((Ql.2.2.2.2.2.1.set Ql.2.1.toNat (Slt.mk y18.1 y18.2 y18.3 y18.4 y18.5 now y18.7)).set Ql.2.1.toNat (Slt.mk y20.1 y20.2 y20.3 y20.4 y20.5 y20.6 (2:Int))) Ql.2.2.2.2.1) (v1s Ql.1 Ql.2.2.2.1 Ql.2.2.2.2.2.1 Ql.2.2.2.2.1)) (InI (Ql.2.1+1)/\w6s (Ql.1,Ql.2.1+1,Ql.2.2.1,Ql.2.2.2.1,Ql.2.2.2.2.1,Ql.2.2.2.2.2.1,()))) (InI (Ql.2.1+1)/\w6s (Ql.1,Ql.2.1+1,Ql.2.2.1,Ql.2.2.2.1,Ql.2.2.2.2.1,Ql.2.2.2.2.2.1,()))) (K (Reg.mk now Ql.2.2.2.1 Ql.2.2.2.2.2.1) Ql.1 (0:Int))) ([],(0:Int),fun _=>none,Qe++[Lnk.mk a b now],[Lnk.mk a b now],Qg,()))))) (K (Reg.mk (0:Int) [] []) [] (6:Int))) (K (Reg.mk (0:Int) [] []) [] (6:Int))) (K (Reg.mk (0:Int) [] []) [] Qa)
def B3:G5:=q35 Uf Gk Qy Qz R0 Jp
abbrev q0g:Type:=Envt->List (Mov)->(Reg->Prop)->Prop
def q68(Ga:q5s)(Bh:q4q)(Q0:Wy)(Jm:Wz)(Z7:J9)(Zy:Wj)(q12:Rz)(B9:G5):q0g:=fun v l K=>Lp4 (fun Qa Vy z3i z3j v1v=>Fits l->CAt l Qa (fun y2=>InI y2.5/\(4:Int)≠(0:Int)/\InI (Vy+y2.5.tmod (4:Int))/\InI y2.2/\Ga y2.2 fun Qg=>Jn4 (fun Q2 q1r j8w v3d=>Cnd (Q2=0) (InI (Qa+1)/\v1v (Qa+1) q1r j8w v3d) (InI (Qa+1)/\v1v (Qa+1) Vy z3i z3j)) fun v3n=>(8:Int)≠(0:Int)/\Jn1 (fun W0=>Cnd (W0=true) ((2:Int)≠(0:Int)/\Bh Qg fun q01=>Q0 fun q4v=>((0:Int)<=y2.4.tmod (2:Int)/\y2.4.tmod (2:Int)<(↑q4v.length:Int))/\ ∀y9,q4v[(y2.4.tmod (2:Int)).toNat]? =some y9->Jm (Envt.mk (Sett.mk v.1.1 v.1.2 v.1.3) v.2 v.3 v.4 v.5 v.6) (Subj.mk q01.1) [] y9 fun w3b _=>InI y2.3/\(3:Int)≠(0:Int)/\Z7 (Reg.mk Vy z3i z3j) Qg w3b (y2.3.tmod (3:Int)) (Vy+y2.5.tmod (4:Int)) fun q6u _ v3o=>v3n v3o q6u.1 q6u.2 q6u.3) (Cnd (y2.1.tmod (8:Int)=(7:Int)) ((4:Int)≠(0:Int)/\Zy fun q01=>((0:Int)<=y2.3.tmod (4:Int)/\y2.3.tmod (4:Int)<(↑q01.length:Int))/\ ∀y8,q01[(y2.3.tmod (4:Int)).toNat]? =some y8->q12 (Reg.mk Vy z3i z3j) y8 (Vy+y2.5.tmod (4:Int)) fun J3 _ v3p=>v3n v3p J3.1 J3.2 J3.3) (InI y2.3/\Ga y2.3 fun q01=>B9 (Reg.mk Vy z3i z3j) Qg q01 (Vy+y2.5.tmod (4:Int)) fun q4v _ v3z=>v3n v3z q4v.1 q4v.2 q4v.3))) fun w6r=>Cnd (y2.1.tmod (8:Int)=(0:Int)) (w6r (decide (y2.1.tmod (8:Int)=(0:Int)))) (Cnd (y2.1.tmod (8:Int)=(1:Int)) (w6r (decide (y2.1.tmod (8:Int)=(1:Int)))) (Cnd (y2.1.tmod (8:Int)=(2:Int)) (w6r (decide (y2.1.tmod (8:Int)=(2:Int)))) (w6r (decide (y2.1.tmod (8:Int)=(3:Int))))))) (K (Reg.mk Vy z3i z3j))) (0:Int) (0:Int) [] []
def q3g:q0g:=q68 z2r q62 Bk G4 U1 Hh q1j B3
abbrev U5:Type:=Reg->Envt->Int->(List (Rcd)->Prop)->Prop
def q2s(Ga:q5s)(Q0:Wy)(Z8:Wa):U5:=fun r v time K=>Lp2 (fun Qa Vy j8r=>Cnd (Vy<12) ((2:Int)≠(0:Int)/\InI (Vy.tdiv (2:Int))/\(2:Int)≠(0:Int)/\Ga (Vy.tdiv (2:Int)) fun Qt=>Q0 fun Qf=>((0:Int)<=Vy.tmod (2:Int)/\Vy.tmod (2:Int)<(↑Qf.length:Int))/\ ∀y3,Qf[(Vy.tmod (2:Int)).toNat]? =some y3->Z8 r (Envt.mk (Sett.mk v.1.1 v.1.2 v.1.3) v.2 v.3 v.4 v.5 v.6) Qt y3 time fun Q2 q1r=>Cnd (q1r=0) (Sml (Qa++[Rcd.mk Q2.1 Q2.2 (Slt.mk Q2.3.1 Q2.3.2 Q2.3.3 Q2.3.4 Q2.3.5 Q2.3.6 Q2.3.7) Q2.4 Q2.5]).length/\InI (Vy+1)/\j8r (Qa++[Rcd.mk Q2.1 Q2.2 (Slt.mk Q2.3.1 Q2.3.2 Q2.3.3 Q2.3.4 Q2.3.5 Q2.3.6 Q2.3.7) Q2.4 Q2.5]) (Vy+1)) (InI (Vy+1)/\j8r Qa (Vy+1))) (K Qa)) [] (0:Int)
def R1:U5:=q2s z2r Bk U3
abbrev Hw:Type:=AEnv->AEnv->List (Mov)->Int->Int->Int->Int->ByteArray->(Bool->Prop)->Prop
def Hx(q13:Ry)(Jb:Ja)(q3r:q0g)(Bj:U5)(Jn:Vt)(q6e:q2q)(Ga:q5s)(Q0:Wy)(Zy:Wj):Hw:=fun x other l time which field n s K=>q13 fun Qa=>Cnd (Qa=true) (Fits l->Cnd ((40:Int)<(↑l.length:Int)) (K true) (Cnd ((100:Int)<(↑s.size:Int)) (K true) (Jb x fun Qf=>q3r (Envt.mk (Sett.mk Qf.1.1 Qf.1.2 Qf.1.3) Qf.2 Qf.3 Qf.4 Qf.5 Qf.6) l fun Qe=>InI time/\InI (Qe.1+1)/\Qe.1+1≠(0:Int)/\Bj Qe (Envt.mk (Sett.mk Qf.1.1 Qf.1.2 Qf.1.3) Qf.2 Qf.3 Qf.4 Qf.5 Qf.6) (time.tmod (Qe.1+1)) fun Qg=>Fits Qg->Cnd ((↑Qg.length:Int)=0) (K true) (InI which/\(Fits Qg->(↑Qg.length:Int)≠(0:Int)/\((0:Int)<=which.tmod (↑Qg.length:Int)/\which.tmod (↑Qg.length:Int)<(↑Qg.length:Int))/\ ∀y7,Qg[(which.tmod (↑Qg.length:Int)).toNat]? =some y7->Sml ([]++y7.5).length/\Jn1 (fun (Ql:ByteArray×Int×ByteArray×ByteArray×ByteArray×Int×Int×Int×Int×Int×List Lnk×ByteArray×ByteArray×Int×List Decl×List Seg×List Flg×List Lay_×List Exper×Unit)=>Jn (Rcd.mk Ql.1 Ql.2.1 (Slt.mk Ql.2.2.1 Ql.2.2.2.1 Ql.2.2.2.2.1 Ql.2.2.2.2.2.1 Ql.2.2.2.2.2.2.1 Ql.2.2.2.2.2.2.2.1 Ql.2.2.2.2.2.2.2.2.1) Ql.2.2.2.2.2.2.2.2.2.1 Ql.2.2.2.2.2.2.2.2.2.2.1) (Envt.mk (Sett.mk Ql.2.2.2.2.2.2.2.2.2.2.2.1 Ql.2.2.2.2.2.2.2.2.2.2.2.2.1 Ql.2.2.2.2.2.2.2.2.2.2.2.2.2.1) Ql.2.2.2.2.2.2.2.2.2.2.2.2.2.2.1 Ql.2.2.2.2.2.2.2.2.2.2.2.2.2.2.2.1 Ql.2.2.2.2.2.2.2.2.2.2.2.2.2.2.2.2.1 Ql.2.2.2.2.2.2.2.2.2.2.2.2.2.2.2.2.2.1 Ql.2.2.2.2.2.2.2.2.2.2.2.2.2.2.2.2.2.2.1) fun J3=>q6e (Rcd.mk Ql.1 Ql.2.1 (Slt.mk Ql.2.2.1 Ql.2.2.2.1 Ql.2.2.2.2.1 Ql.2.2.2.2.2.1 Ql.2.2.2.2.2.2.1 Ql.2.2.2.2.2.2.2.1 Ql.2.2.2.2.2.2.2.2.1) Ql.2.2.2.2.2.2.2.2.2.1 Ql.2.2.2.2.2.2.2.2.2.2.1) (Envt.mk (Sett.mk Ql.2.2.2.2.2.2.2.2.2.2.2.1 Ql.2.2.2.2.2.2.2.2.2.2.2.2.1 Ql.2.2.2.2.2.2.2.2.2.2.2.2.2.1) Ql.2.2.2.2.2.2.2.2.2.2.2.2.2.2.1 Ql.2.2.2.2.2.2.2.2.2.2.2.2.2.2.2.1 Ql.2.2.2.2.2.2.2.2.2.2.2.2.2.2.2.2.1 Ql.2.2.2.2.2.2.2.2.2.2.2.2.2.2.2.2.2.1 Ql.2.2.2.2.2.2.2.2.2.2.2.2.2.2.2.2.2.2.1) fun w3b=>K (decide (J3=w3b))) fun (z8q:ByteArray×Int×ByteArray×ByteArray×ByteArray×Int×Int×Int×Int×Int×List Lnk×ByteArray×ByteArray×Int×List Decl×List Seg×List Flg×List Lay_×List Exper×Unit->Prop)=>(18:Int)≠(0:Int)/\Cnd (field.tmod (18:Int)=(0:Int)) (z8q (s,y7.2,y7.3.1,y7.3.2,y7.3.3,y7.3.4,y7.3.5,y7.3.6,y7.3.7,y7.4,[]++y7.5,Qf.1.1,Qf.1.2,Qf.1.3,Qf.2,Qf.3,Qf.4,Qf.5,Qf.6,())) (Cnd (field.tmod (18:Int)=(1:Int)) ((16:Int)≠(0:Int)/\InI (Go.IntKind.u8.wrap (which.tdiv (16:Int)))/\Ga (Go.IntKind.u8.wrap (which.tdiv (16:Int))) fun J3=>z8q (J3,y7.2,y7.3.1,y7.3.2,y7.3.3,y7.3.4,y7.3.5,y7.3.6,y7.3.7,y7.4,[]++y7.5,Qf.1.1,Qf.1.2,Qf.1.3,Qf.2,Qf.3,Qf.4,Qf.5,Qf.6,())) (Cnd (field.tmod (18:Int)=(2:Int)) (z8q (y7.1,n,y7.3.1,y7.3.2,y7.3.3,y7.3.4,y7.3.5,y7.3.6,y7.3.7,y7.4,[]++y7.5,Qf.1.1,Qf.1.2,Qf.1.3,Qf.2,Qf.3,Qf.4,Qf.5,Qf.6,())) (Cnd (field.tmod (18:Int)=(3:Int)) ((60:Int)≠(0:Int)/\z8q (y7.1,n.tmod (60:Int),y7.3.1,y7.3.2,y7.3.3,y7.3.4,y7.3.5,y7.3.6,y7.3.7,y7.4,[]++y7.5,Qf.1.1,Qf.1.2,Qf.1.3,Qf.2,Qf.3,Qf.4,Qf.5,Qf.6,())) (Cnd (field.tmod (18:Int)=(4:Int)) ((10000:Int)≠(0:Int)/\z8q (y7.1,y7.2,y7.3.1,y7.3.2,y7.3.3,y7.3.4,y7.3.5,y7.3.6,y7.3.7,n.tmod (10000:Int),[]++y7.5,Qf.1.1,Qf.1.2,Qf.1.3,Qf.2,Qf.3,Qf.4,Qf.5,Qf.6,())) (Cnd (field.tmod (18:Int)=(5:Int)) (InI (y7.4+1)/\z8q (y7.1,y7.2,y7.3.1,y7.3.2,y7.3.3,y7.3.4,y7.3.5,y7.3.6,y7.3.7,y7.4+1,[]++y7.5,Qf.1.1,Qf.1.2,Qf.1.3,Qf.2,Qf.3,Qf.4,Qf.5,Qf.6,())) (Cnd (field.tmod (18:Int)=(6:Int)) ((16:Int)≠(0:Int)/\InI (Go.IntKind.u8.wrap (which.tdiv (16:Int)))/\Ga (Go.IntKind.u8.wrap (which.tdiv (16:Int))) fun J3=>z8q (y7.1,y7.2,J3,y7.3.2,y7.3.3,y7.3.4,y7.3.5,y7.3.6,y7.3.7,y7.4,[]++y7.5,Qf.1.1,Qf.1.2,Qf.1.3,Qf.2,Qf.3,Qf.4,Qf.5,Qf.6,())) (Cnd (field.tmod (18:Int)=(7:Int)) ((5:Int)≠(0:Int)/\z8q (y7.1,y7.2,y7.3.1,y7.3.2,y7.3.3,n.tmod (5:Int),y7.3.5,y7.3.6,y7.3.7,y7.4,[]++y7.5,Qf.1.1,Qf.1.2,Qf.1.3,Qf.2,Qf.3,Qf.4,Qf.5,Qf.6,())) (Cnd (field.tmod (18:Int)=(8:Int)) (Q0 fun J3=>(128:Int)≠(0:Int)/\((0:Int)<=Go.IntKind.u8.wrap (which.tdiv (128:Int))/\Go.IntKind.u8.wrap (which.tdiv (128:Int))<(↑J3.length:Int))/\ ∀y11,J3[(Go.IntKind.u8.wrap (which.tdiv (128:Int))).toNat]? =some y11->z8q (y7.1,y7.2,y7.3.1,y11,y7.3.3,y7.3.4,y7.3.5,y7.3.6,y7.3.7,y7.4,[]++y7.5,Qf.1.1,Qf.1.2,Qf.1.3,Qf.2,Qf.3,Qf.4,Qf.5,Qf.6,())) (Cnd (field.tmod (18:Int)=(9:Int)) (Zy fun J3=>(64:Int)≠(0:Int)/\((0:Int)<=Go.IntKind.u8.wrap (which.tdiv (64:Int))/\Go.IntKind.u8.wrap (which.tdiv (64:Int))<(↑J3.length:Int))/\ ∀y11,J3[(Go.IntKind.u8.wrap (which.tdiv (64:Int))).toNat]? =some y11->z8q (y7.1,y7.2,y7.3.1,y7.3.2,y11,y7.3.4,y7.3.5,y7.3.6,y7.3.7,y7.4,[]++y7.5,Qf.1.1,Qf.1.2,Qf.1.3,Qf.2,Qf.3,Qf.4,Qf.5,Qf.6,())) (Cnd (field.tmod (18:Int)=(10:Int)) ((60:Int)≠(0:Int)/\z8q (y7.1,y7.2,y7.3.1,y7.3.2,y7.3.3,y7.3.4,n.tmod (60:Int),y7.3.6,y7.3.7,y7.4,[]++y7.5,Qf.1.1,Qf.1.2,Qf.1.3,Qf.2,Qf.3,Qf.4,Qf.5,Qf.6,())) (Cnd (field.tmod (18:Int)=(11:Int)) (InI which/\(2:Int)≠(0:Int)/\InI ((1:Int)+which.tmod (2:Int))/\(60:Int)≠(0:Int)/\z8q (y7.1,y7.2,y7.3.1,y7.3.2,y7.3.3,y7.3.4,y7.3.5,n.tmod (60:Int),(1:Int)+which.tmod (2:Int),y7.4,[]++y7.5,Qf.1.1,Qf.1.2,Qf.1.3,Qf.2,Qf.3,Qf.4,Qf.5,Qf.6,())) (Cnd (field.tmod (18:Int)=(12:Int)) (z8q (y7.1,y7.2,s,y7.3.2,y7.3.3,y7.3.4,y7.3.5,y7.3.6,y7.3.7,y7.4,[]++y7.5,Qf.1.1,Qf.1.2,Qf.1.3,Qf.2,Qf.3,Qf.4,Qf.5,Qf.6,())) (Cnd (field.tmod (18:Int)=(13:Int)) ((16:Int)≠(0:Int)/\InI (Go.IntKind.u8.wrap (which.tdiv (16:Int)))/\Ga (Go.IntKind.u8.wrap (which.tdiv (16:Int))) fun J3=>Sml ([]++y7.5++[Lnk.mk y7.3.1 J3 y7.2]).length/\z8q (y7.1,y7.2,y7.3.1,y7.3.2,y7.3.3,y7.3.4,y7.3.5,y7.3.6,y7.3.7,y7.4,[]++y7.5++[Lnk.mk y7.3.1 J3 y7.2],Qf.1.1,Qf.1.2,Qf.1.3,Qf.2,Qf.3,Qf.4,Qf.5,Qf.6,())) (Cnd (field.tmod (18:Int)=(14:Int)) (([]++y7.5).length<=(9223372036854775807:Nat)->Cnd ((0:Int)<(↑([]++y7.5).length:Int)) (((0:Int)<=(1:Int)/\(1:Int)<=(↑([]++y7.5).length:Int)/\(↑([]++y7.5).length:Int)<=(↑([]++y7.5).length:Int))/\z8q (y7.1,y7.2,y7.3.1,y7.3.2,y7.3.3,y7.3.4,y7.3.5,y7.3.6,y7.3.7,y7.4,List.drop (Int.toNat (1:Int)) (List.take (↑([]++y7.5).length:Int).toNat ([]++y7.5)),Qf.1.1,Qf.1.2,Qf.1.3,Qf.2,Qf.3,Qf.4,Qf.5,Qf.6,())) (z8q (y7.1,y7.2,y7.3.1,y7.3.2,y7.3.3,y7.3.4,y7.3.5,y7.3.6,y7.3.7,y7.4,[]++y7.5,Qf.1.1,Qf.1.2,Qf.1.3,Qf.2,Qf.3,Qf.4,Qf.5,Qf.6,()))) (Cnd (field.tmod (18:Int)=(15:Int)) (([]++y7.5).length<=(9223372036854775807:Nat)->Cnd ((0:Int)<(↑([]++y7.5).length:Int)) (InI (y7.2+1)/\((0:Int)<=(0:Int)/\(0:Int)<(↑([]++y7.5).length:Int))/\ ∀y11,([]++y7.5)[Int.toNat (0:Int)]? =some y11->z8q (y7.1,y7.2,y7.3.1,y7.3.2,y7.3.3,y7.3.4,y7.3.5,y7.3.6,y7.3.7,y7.4,([]++y7.5).set (Int.toNat (0:Int)) (Lnk.mk y11.1 y11.2 (y7.2+1)),Qf.1.1,Qf.1.2,Qf.1.3,Qf.2,Qf.3,Qf.4,Qf.5,Qf.6,())) (z8q (y7.1,y7.2,y7.3.1,y7.3.2,y7.3.3,y7.3.4,y7.3.5,y7.3.6,y7.3.7,y7.4,[]++y7.5,Qf.1.1,Qf.1.2,Qf.1.3,Qf.2,Qf.3,Qf.4,Qf.5,Qf.6,()))) (Cnd (field.tmod (18:Int)=(16:Int)) (([]++y7.5).length<=(9223372036854775807:Nat)->Cnd ((1:Int)<(↑([]++y7.5).length:Int)) (((0:Int)<=(1:Int)/\(1:Int)<(↑([]++y7.5).length:Int))/\ ∀y11,([]++y7.5)[Int.toNat (1:Int)]? =some y11->((0:Int)<=(0:Int)/\(0:Int)<(↑([]++y7.5).length:Int))/\ ∀y13,([]++y7.5)[Int.toNat (0:Int)]? =some y13->((0:Int)<=(0:Int)/\(0:Int)<(↑([]++y7.5).length:Int))/\ ∀y15,([]++y7.5)[Int.toNat (0:Int)]? =some y15->((0:Int)<=(1:Int)/\(1:Int)<(↑(([]++y7.5).set (Int.toNat (0:Int)) y11).length:Int))/\ ∀y17,(([]++y7.5).set (Int.toNat (0:Int)) y11)[Int.toNat (1:Int)]? =some y17->z8q (y7.1,y7.2,y7.3.1,y7.3.2,y7.3.3,y7.3.4,y7.3.5,y7.3.6,y7.3.7,y7.4,(([]++y7.5).set (Int.toNat (0:Int)) y11).set (Int.toNat (1:Int)) y13,Qf.1.1,Qf.1.2,Qf.1.3,Qf.2,Qf.3,Qf.4,Qf.5,Qf.6,())) (z8q (y7.1,y7.2,y7.3.1,y7.3.2,y7.3.3,y7.3.4,y7.3.5,y7.3.6,y7.3.7,y7.4,[]++y7.5,Qf.1.1,Qf.1.2,Qf.1.3,Qf.2,Qf.3,Qf.4,Qf.5,Qf.6,()))) (Jb other fun J3=>z8q (y7.1,y7.2,y7.3.1,y7.3.2,y7.3.3,y7.3.4,y7.3.5,y7.3.6,y7.3.7,y7.4,[]++y7.5,J3.1.1,J3.1.2,J3.1.3,J3.2,J3.3,J3.4,J3.5,J3.6,()))))))))))))))))))))))) (K false)
def Zz:Hw:=Hx q1g Wc q3g R1 Rx q5r z2r Bk Hh
abbrev j2z:Type:=Subj->ByteArray->(Ctxt->Bool->Prop)->Prop
def z59:j2z:=fun s kind K=>Lp4 (fun Qa Vy z3i (z3j:List Attr) v1v=>Fits s.1->CAt s.1 Qa (fun y2=>Cnd (y2.1=kind) (At s.1 Qa fun y4=>K y4 true) (InI (Qa+1)/\v1v (Qa+1) Vy z3i z3j)) (K (Ctxt.mk (B8 []) (B8 []) []) false)) (0:Int) (B8 []) (B8 []) []
abbrev q9q:Type:=Subj->ByteArray->ByteArray->(Val->Bool->Prop)->Prop
def z6a(w3c:j2z):q9q:=fun s kind name K=>w3c (Subj.mk s.1) kind fun Qa Vy=>Cnd (Vy=true) (Cnd (name=B8 [107,101,121]) (K (Val.mk (3:Int) (0:Int) Qa.2 []) true) (Lp5 (fun Qt q3n j8s w9p (v1t:List ByteArray) v3a=>Fits Qa.3->CAt Qa.3 Qt (fun y3=>Cnd (y3.1=name) (At Qa.3 Qt fun y5=>K (Val.mk y5.2.1 y5.2.2 y5.2.3 y5.2.4) true) (InI (Qt+1)/\v3a (Qt+1) q3n j8s w9p v1t)) (K (Val.mk (0:Int) (0:Int) (B8 []) []) false)) (0:Int) (0:Int) (0:Int) (B8 []) [])) (K (Val.mk (0:Int) (0:Int) (B8 []) []) false)
def q9r:q9q:=z6a z59
abbrev z6b:Type:=Int->(Bool->Prop)->Prop
def q9s:z6b:=fun op K=>Cnd ((6:Int)<=op) (K (decide (op<=15))) (K false)
abbrev j20:Type:=List (ByteArray)->List (ByteArray)->(Bool->Prop)->Prop
def z6c:j20:=fun a b K=>Fits a->Fits b->Cnd ((↑a.length:Int)=(↑b.length:Int)) (Lp1 (fun Qf z45=>Fits a->CAt a Qf (fun y4=>At b Qf fun y6=>Cnd (y4=y6) (InI (Qf+1)/\z45 (Qf+1)) (K false)) (K true)) (0:Int)) (K false)
abbrev z2s:Type:=Val->Val->(Bool->Prop)->Prop
def z9e(w3d:j20):z2s:=fun a b K=>Cnd (a.1=b.1) (Cnd (a.2=b.2) (Cnd (a.3=b.3) (w3d a.4 b.4 fun Qa=>K Qa) (K false)) (K false)) (K false)
def q8b:z2s:=z9e z6c
abbrev q69:Type:=ByteArray->ByteArray->Int->(Bool->Prop)->Prop
def q3h:q69:=fun s t i K=>Cnd ((0:Int)<=i) (InI (i+(↑t.size:Int))/\Cnd (i+(↑t.size:Int)<=(↑s.size:Int)) (InI (i+(↑t.size:Int))/\((0:Int)<=i/\i<=i+(↑t.size:Int)/\i+(↑t.size:Int)<=(↑s.size:Int))/\K (decide (s.extract i.toNat (i+(↑t.size:Int)).toNat=t))) (K false)) (K false)
abbrev q36:Type:=Val->Val->(Bool->Prop)->Prop
def q81(q11:z4x)(q3s:q69):q36:=fun v w K=>Cnd (w.1=3) (Cnd (v.1=5) (q11 v.4 w.3 fun Qa=>K Qa) (Lp1 (fun Qa By=>Cnd (v.1=3) (InI (Qa+(↑w.3.size:Int))/\Cnd (Qa+(↑w.3.size:Int)<=(↑v.3.size:Int)) (q3s v.3 w.3 Qa fun Qt=>Cnd (Qt=true) (K true) (InI (Qa+1)/\By (Qa+1))) (K false)) (K false)) (0:Int))) (K false)
def q37:q36:=q81 z0v q3h
abbrev z9f:Type:=Val->(Bool->Prop)->Prop
def z2t:z9f:=fun v K=>Cnd (v.1=1) (Cnd (v.1=3) (Cnd (v.1=5) (K true) (Fits v.4->K (decide ((↑v.4.length:Int)=0)))) (Cnd (v.1=4) (Cnd (v.1=5) (K true) (Fits v.4->K (decide ((↑v.4.length:Int)=0)))) (Cnd (v.3=B8 []) (Cnd (v.1=5) (K true) (Fits v.4->K (decide ((↑v.4.length:Int)=0)))) (K false)))) (Cnd (v.1=3) (Cnd (v.1=2) (Cnd (v.1=5) (K true) (Fits v.4->K (decide ((↑v.4.length:Int)=0)))) (Cnd (v.2=0) (Cnd (v.1=5) (K true) (Fits v.4->K (decide ((↑v.4.length:Int)=0)))) (K false))) (Cnd (v.1=2) (Cnd (v.1=4) (Cnd (v.1=5) (K true) (Fits v.4->K (decide ((↑v.4.length:Int)=0)))) (Cnd (v.3=B8 []) (Cnd (v.1=5) (K true) (Fits v.4->K (decide ((↑v.4.length:Int)=0)))) (K false))) (Cnd (v.2=0) (Cnd (v.1=4) (Cnd (v.1=5) (K true) (Fits v.4->K (decide ((↑v.4.length:Int)=0)))) (Cnd (v.3=B8 []) (Cnd (v.1=5) (K true) (Fits v.4->K (decide ((↑v.4.length:Int)=0)))) (K false))) (K false))))
abbrev q8c:Type:=ByteArray->(Bool->Prop)->Prop
def z9g(Jq:Ul):q8c:=fun s K=>Cnd ((200:Int)<(↑s.size:Int)) (K false) (Jq s fun Qa=>Cnd (Qa=true) (Lp1 (fun Qt q4w=>Cnd (Qt<(↑s.size:Int)) (((0:Int)<=Qt/\Qt<(↑s.size:Int))/\ ∀b2,s[Qt.toNat]? =some b2->Cnd ((↑b2.toNat:Int)<32) (K false) (((0:Int)<=Qt/\Qt<(↑s.size:Int))/\ ∀b4,s[Qt.toNat]? =some b4->Cnd ((↑b4.toNat:Int)=127) (K false) (InI (Qt+1)/\q4w (Qt+1)))) (K true)) (0:Int)) (K false))
def q8d:q8c:=z9g Wr
abbrev q6i:Type:=ByteArray->(Int->Int->Prop)->Prop
def Hi:q6i:=fun s K=>Jn1 (fun Qa=>Lp1 (fun Qt q4w=>Cnd (Qt<(↑Qa.size:Int)) (((0:Int)<=Qt/\Qt<(↑Qa.size:Int))/\ ∀b2,Qa[Qt.toNat]? =some b2->Cnd ((↑b2.toNat:Int)<48) (K (0:Int) (1:Int)) (((0:Int)<=Qt/\Qt<(↑Qa.size:Int))/\ ∀b4,Qa[Qt.toNat]? =some b4->Cnd ((57:Int)<(↑b4.toNat:Int)) (K (0:Int) (1:Int)) (InI (Qt+1)/\q4w (Qt+1)))) (Cnd (Qa=B8 []) (K (0:Int) (1:Int)) (((0:Int)<=(0:Int)/\(0:Int)<(↑Qa.size:Int))/\ ∀b2,Qa[Int.toNat (0:Int)]? =some b2->Cnd ((↑b2.toNat:Int)=48) (Cnd (s=B8 [48]) (Cnd ((13:Int)<(↑Qa.size:Int)) (K (0:Int) (3:Int)) (Lp2 (fun Qg Ut j7l=>Cnd (Ut<(↑Qa.size:Int)) (InI ((10:Int)*Qg)/\((0:Int)<=Ut/\Ut<(↑Qa.size:Int))/\ ∀b5,Qa[Ut.toNat]? =some b5->InI (Go.IntKind.u8.wrap ((↑b5.toNat:Int) - 48))/\InI ((10:Int)*Qg+Go.IntKind.u8.wrap ((↑b5.toNat:Int) - 48))/\InI (Ut+1)/\j7l ((10:Int)*Qg+Go.IntKind.u8.wrap ((↑b5.toNat:Int) - 48)) (Ut+1)) (Cnd ((1099511627776:Int)<Qg) (K (0:Int) (3:Int)) (Cnd ((↑Qa.size:Int)<(↑s.size:Int)) (InI ((0:Int) - Qg)/\K ((0:Int) - Qg) (0:Int)) (K Qg (0:Int))))) (0:Int) (0:Int))) (K (0:Int) (1:Int))) (Cnd ((13:Int)<(↑Qa.size:Int)) (K (0:Int) (3:Int)) (Lp2 (fun Qg Ut j7l=>Cnd (Ut<(↑Qa.size:Int)) (InI ((10:Int)*Qg)/\((0:Int)<=Ut/\Ut<(↑Qa.size:Int))/\ ∀b5,Qa[Ut.toNat]? =some b5->InI (Go.IntKind.u8.wrap ((↑b5.toNat:Int) - 48))/\InI ((10:Int)*Qg+Go.IntKind.u8.wrap ((↑b5.toNat:Int) - 48))/\InI (Ut+1)/\j7l ((10:Int)*Qg+Go.IntKind.u8.wrap ((↑b5.toNat:Int) - 48)) (Ut+1)) (Cnd ((1099511627776:Int)<Qg) (K (0:Int) (3:Int)) (Cnd ((↑Qa.size:Int)<(↑s.size:Int)) (InI ((0:Int) - Qg)/\K ((0:Int) - Qg) (0:Int)) (K Qg (0:Int))))) (0:Int) (0:Int)))))) (0:Int)) fun q9d=>Cnd ((0:Int)<(↑s.size:Int)) (((0:Int)<=(0:Int)/\(0:Int)<(↑s.size:Int))/\ ∀b1,s[Int.toNat (0:Int)]? =some b1->Cnd ((↑b1.toNat:Int)=45) (((0:Int)<=(1:Int)/\(1:Int)<=(↑s.size:Int)/\(↑s.size:Int)<=(↑s.size:Int))/\q9d (s.extract (Int.toNat (1:Int)) (↑s.size:Int).toNat)) (q9d s)) (q9d s)
abbrev q8e:Type:=ByteArray->(A3->Bool->Prop)->Prop
def z9h(q6r:q6i):q8e:=fun s K=>LpH (fun (Qa:Int×Int×Int×Int×Int×Int×Int×Int×Unit) By=>Cnd (Qa.2.1<3) (Lp1 (fun Qt q4w=>Cnd (Qt<(↑s.size:Int)) (((0:Int)<=Qt/\Qt<(↑s.size:Int))/\ ∀b2,s[Qt.toNat]? =some b2->Cnd ((↑b2.toNat:Int)=46) (((0:Int)<=Qa.1/\Qa.1<=Qt/\Qt<=(↑s.size:Int))/\q6r (s.extract Qa.1.toNat Qt.toNat) fun Qg Ut=>Cnd (Ut=0) (Cnd (Qg<0) (K ((0:Int),(0:Int),(0:Int)) false) (Cnd ((999999:Int)<Qg) (K ((0:Int),(0:Int),(0:Int)) false) (Cnd (decide (Qa.2.1<2)=decide (Qt<(↑s.size:Int))) (((0:Int)<=Qa.2.1/\Qa.2.1<(↑(3:Nat):Int))/\((True/\(Qa.2.1=(↑(nat_lit 0):Int)->InI (Qt+1)/\InI (Qa.2.1+1)/\By (Qt+1,Qa.2.1+1,Qg,Qa.2.2.2.1,Qa.2.2.2.2.1,Qa.2.2.2.2.2.1,Qa.2.2.2.2.2.2.1,Qa.2.2.2.2.2.2.2.1,())))/\(Qa.2.1=(↑(nat_lit 1):Int)->InI (Qt+1)/\InI (Qa.2.1+1)/\By (Qt+1,Qa.2.1+1,Qa.2.2.1,Qg,Qa.2.2.2.2.1,Qa.2.2.2.2.2.1,Qa.2.2.2.2.2.2.1,Qa.2.2.2.2.2.2.2.1,())))/\(Qa.2.1=(↑(nat_lit 2):Int)->InI (Qt+1)/\InI (Qa.2.1+1)/\By (Qt+1,Qa.2.1+1,Qa.2.2.1,Qa.2.2.2.1,Qg,Qa.2.2.2.2.2.1,Qa.2.2.2.2.2.2.1,Qa.2.2.2.2.2.2.2.1,()))) (K ((0:Int),(0:Int),(0:Int)) false)))) (K ((0:Int),(0:Int),(0:Int)) false)) (InI (Qt+1)/\q4w (Qt+1))) (((0:Int)<=Qa.1/\Qa.1<=Qt/\Qt<=(↑s.size:Int))/\q6r (s.extract Qa.1.toNat Qt.toNat) fun Qf Hk=>Cnd (Hk=0) (Cnd (Qf<0) (K ((0:Int),(0:Int),(0:Int)) false) (Cnd ((999999:Int)<Qf) (K ((0:Int),(0:Int),(0:Int)) false) (Cnd (decide (Qa.2.1<2)=decide (Qt<(↑s.size:Int))) (((0:Int)<=Qa.2.1/\Qa.2.1<(↑(3:Nat):Int))/\((True/\(Qa.2.1=(↑(nat_lit 0):Int)->InI (Qt+1)/\InI (Qa.2.1+1)/\By (Qt+1,Qa.2.1+1,Qf,Qa.2.2.2.1,Qa.2.2.2.2.1,Qa.2.2.2.2.2.1,Qa.2.2.2.2.2.2.1,Qa.2.2.2.2.2.2.2.1,())))/\(Qa.2.1=(↑(nat_lit 1):Int)->InI (Qt+1)/\InI (Qa.2.1+1)/\By (Qt+1,Qa.2.1+1,Qa.2.2.1,Qf,Qa.2.2.2.2.1,Qa.2.2.2.2.2.1,Qa.2.2.2.2.2.2.1,Qa.2.2.2.2.2.2.2.1,())))/\(Qa.2.1=(↑(nat_lit 2):Int)->InI (Qt+1)/\InI (Qa.2.1+1)/\By (Qt+1,Qa.2.1+1,Qa.2.2.1,Qa.2.2.2.1,Qf,Qa.2.2.2.2.2.1,Qa.2.2.2.2.2.2.1,Qa.2.2.2.2.2.2.2.1,()))) (K ((0:Int),(0:Int),(0:Int)) false)))) (K ((0:Int),(0:Int),(0:Int)) false))) Qa.1) (K (Qa.2.2.1,Qa.2.2.2.1,Qa.2.2.2.2.1) true)) ((0:Int),(0:Int),(0:Int),(0:Int),(0:Int),(0:Int),(0:Int),(0:Int),())
def q8f:q8e:=z9h Hi
abbrev z6d:Type:=List (ByteArray)->(Int->Prop)->Prop
def j21(z3k:q8c):z6d:=fun l K=>Fits l->Cnd ((20:Int)<(↑l.length:Int)) (K (5:Int)) (Lp1 (fun Qt q4w=>Fits l->CAt l Qt (fun y3=>z3k y3 fun Q2=>Cnd (Q2=true) (InI (Qt+1)/\q4w (Qt+1)) (K (2:Int))) (Lp1 (fun Qe q8t=>Fits l->CAt l Qe (fun y5=>InI (Qe - 1)/\((0:Int)<=Qe - 1/\Qe - 1<(↑l.length:Int))/\ ∀y7,l[(Qe - 1).toNat]? =some y7->Cnd (Lk.blt y7 y5) (InI (Qe+1)/\q8t (Qe+1)) (K (9:Int))) (K (0:Int))) (1:Int))) (0:Int))
def z6e:z6d:=j21 q8d
abbrev z2u:Type:=Val->(Int->Prop)->Prop
def z9i(j8u:z9f)(z3k:q8c)(q8n:q8e)(w3e:z6d):z2u:=fun v K=>Cnd (v.1<1) (K (7:Int)) (Cnd ((5:Int)<v.1) (K (7:Int)) (j8u v fun Qa=>Cnd (Qa=true) (Cnd (v.1=1) (Cnd (v.2=0) (K (0:Int)) (Cnd (v.2=1) (K (0:Int)) (K (3:Int)))) (Cnd (v.1=2) (Cnd (v.2<(-1099511627776:Int)) (K (3:Int)) (Cnd ((1099511627776:Int)<v.2) (K (3:Int)) (K (0:Int)))) (Cnd (v.1=3) (z3k v.3 fun Qt=>Cnd (Qt=true) (K (0:Int)) (K (2:Int))) (Cnd (v.1=4) (q8n v.3 fun (_:Int×Int×Int) q3n=>Cnd (q3n=true) (K (0:Int)) (K (1:Int))) (Cnd (v.1=5) (w3e v.4 fun Qt=>K Qt) (K (0:Int))))))) (K (15:Int))))
def z2v:z2u:=z9i z2t q8d q8f z6e
abbrev j22:Type:=Bool->Bool->(Int->Prop)->Prop
def q7a:j22:=fun less greater K=>Cnd (less=true) (K (-1:Int)) (Cnd (greater=true) (K (1:Int)) (K (0:Int)))
abbrev q7b:Type:=Val->Val->(Int->Int->Prop)->Prop
def z3o(z9u:z2u)(Qb:j22)(q8n:q8e):q7b:=fun a b K=>z9u a fun Qa=>Cnd (Qa=0) (z9u b fun Qt=>Cnd (Qt=0) (Cnd (a.1=b.1) (Cnd (a.1=1) (K (0:Int) (8:Int)) (Cnd (a.1=5) (K (0:Int) (8:Int)) (Cnd (a.1=2) (Qb (decide (a.2<b.2)) (decide (b.2<a.2)) fun Qf=>K Qf (0:Int)) (Cnd (a.1=3) (Qb (decide (Lk.blt a.3 b.3)) (decide (Lk.blt b.3 a.3)) fun Qf=>K Qf (0:Int)) (q8n a.3 fun (Qf:Int×Int×Int) _=>q8n b.3 fun (Qe:Int×Int×Int) _=>Lp1 (fun Qg j8t=>Cnd (Qg<3) (((0:Int)<=Qg/\Qg<(↑(3:Nat):Int))/\((True/\(Qg=(↑(nat_lit 0):Int)->((0:Int)<=Qg/\Qg<(↑(3:Nat):Int))/\((True/\(Qg=(↑(nat_lit 0):Int)->Cnd (Qf.1=Qe.1) (InI (Qg+1)/\j8t (Qg+1)) (((0:Int)<=Qg/\Qg<(↑(3:Nat):Int))/\((True/\(Qg=(↑(nat_lit 0):Int)->((0:Int)<=Qg/\Qg<(↑(3:Nat):Int))/\((True/\(Qg=(↑(nat_lit 0):Int)->Qb (decide (Qf.1<Qe.1)) true fun Ql=>K Ql (0:Int)))/\(Qg=(↑(nat_lit 1):Int)->Qb (decide (Qf.1<Qe.2.1)) true fun Ql=>K Ql (0:Int)))/\(Qg=(↑(nat_lit 2):Int)->Qb (decide (Qf.1<Qe.2.2)) true fun Ql=>K Ql (0:Int))))/\(Qg=(↑(nat_lit 1):Int)->((0:Int)<=Qg/\Qg<(↑(3:Nat):Int))/\((True/\(Qg=(↑(nat_lit 0):Int)->Qb (decide (Qf.2.1<Qe.1)) true fun Ql=>K Ql (0:Int)))/\(Qg=(↑(nat_lit 1):Int)->Qb (decide (Qf.2.1<Qe.2.1)) true fun Ql=>K Ql (0:Int)))/\(Qg=(↑(nat_lit 2):Int)->Qb (decide (Qf.2.1<Qe.2.2)) true fun Ql=>K Ql (0:Int))))/\(Qg=(↑(nat_lit 2):Int)->((0:Int)<=Qg/\Qg<(↑(3:Nat):Int))/\((True/\(Qg=(↑(nat_lit 0):Int)->Qb (decide (Qf.2.2<Qe.1)) true fun Ql=>K Ql (0:Int)))/\(Qg=(↑(nat_lit 1):Int)->Qb (decide (Qf.2.2<Qe.2.1)) true fun Ql=>K Ql (0:Int)))/\(Qg=(↑(nat_lit 2):Int)->Qb (decide (Qf.2.2<Qe.2.2)) true fun Ql=>K Ql (0:Int))))))/\(Qg=(↑(nat_lit 1):Int)->Cnd (Qf.1=Qe.2.1) (InI (Qg+1)/\j8t (Qg+1)) (((0:Int)<=Qg/\Qg<(↑(3:Nat):Int))/\((True/\(Qg=(↑(nat_lit 0):Int)->((0:Int)<=Qg/\Qg<(↑(3:Nat):Int))/\((True/\(Qg=(↑(nat_lit 0):Int)->Qb (decide (Qf.1<Qe.1)) true fun Ql=>K Ql (0:Int)))/\(Qg=(↑(nat_lit 1):Int)->Qb (decide (Qf.1<Qe.2.1)) true fun Ql=>K Ql (0:Int)))/\(Qg=(↑(nat_lit 2):Int)->Qb (decide (Qf.1<Qe.2.2)) true fun Ql=>K Ql (0:Int))))/\(Qg=(↑(nat_lit 1):Int)->((0:Int)<=Qg/\Qg<(↑(3:Nat):Int))/\((True/\(Qg=(↑(nat_lit 0):Int)->Qb (decide (Qf.2.1<Qe.1)) true fun Ql=>K Ql (0:Int)))/\(Qg=(↑(nat_lit 1):Int)->Qb (decide (Qf.2.1<Qe.2.1)) true fun Ql=>K Ql (0:Int)))/\(Qg=(↑(nat_lit 2):Int)->Qb (decide (Qf.2.1<Qe.2.2)) true fun Ql=>K Ql (0:Int))))/\(Qg=(↑(nat_lit 2):Int)->((0:Int)<=Qg/\Qg<(↑(3:Nat):Int))/\((True/\(Qg=(↑(nat_lit 0):Int)->Qb (decide (Qf.2.2<Qe.1)) true fun Ql=>K Ql (0:Int)))/\(Qg=(↑(nat_lit 1):Int)->Qb (decide (Qf.2.2<Qe.2.1)) true fun Ql=>K Ql (0:Int)))/\(Qg=(↑(nat_lit 2):Int)->Qb (decide (Qf.2.2<Qe.2.2)) true fun Ql=>K Ql (0:Int))))))/\(Qg=(↑(nat_lit 2):Int)->Cnd (Qf.1=Qe.2.2) (InI (Qg+1)/\j8t (Qg+1)) (((0:Int)<=Qg/\Qg<(↑(3:Nat):Int))/\((True/\(Qg=(↑(nat_lit 0):Int)->((0:Int)<=Qg/\Qg<(↑(3:Nat):Int))/\((True/\(Qg=(↑(nat_lit 0):Int)->Qb (decide (Qf.1<Qe.1)) true fun Ql=>K Ql (0:Int)))/\(Qg=(↑(nat_lit 1):Int)->Qb (decide (Qf.1<Qe.2.1)) true fun Ql=>K Ql (0:Int)))/\(Qg=(↑(nat_lit 2):Int)->Qb (decide (Qf.1<Qe.2.2)) true fun Ql=>K Ql (0:Int))))/\(Qg=(↑(nat_lit 1):Int)->((0:Int)<=Qg/\Qg<(↑(3:Nat):Int))/\((True/\(Qg=(↑(nat_lit 0):Int)->Qb (decide (Qf.2.1<Qe.1)) true fun Ql=>K Ql (0:Int)))/\(Qg=(↑(nat_lit 1):Int)->Qb (decide (Qf.2.1<Qe.2.1)) true fun Ql=>K Ql (0:Int)))/\(Qg=(↑(nat_lit 2):Int)->Qb (decide (Qf.2.1<Qe.2.2)) true fun Ql=>K Ql (0:Int))))/\(Qg=(↑(nat_lit 2):Int)->((0:Int)<=Qg/\Qg<(↑(3:Nat):Int))/\((True/\(Qg=(↑(nat_lit 0):Int)->Qb (decide (Qf.2.2<Qe.1)) true fun Ql=>K Ql (0:Int)))/\(Qg=(↑(nat_lit 1):Int)->Qb (decide (Qf.2.2<Qe.2.1)) true fun Ql=>K Ql (0:Int)))/\(Qg=(↑(nat_lit 2):Int)->Qb (decide (Qf.2.2<Qe.2.2)) true fun Ql=>K Ql (0:Int)))))))/\(Qg=(↑(nat_lit 1):Int)->((0:Int)<=Qg/\Qg<(↑(3:Nat):Int))/\((True/\(Qg=(↑(nat_lit 0):Int)->Cnd (Qf.2.1=Qe.1) (InI (Qg+1)/\j8t (Qg+1)) (((0:Int)<=Qg/\Qg<(↑(3:Nat):Int))/\((True/\(Qg=(↑(nat_lit 0):Int)->((0:Int)<=Qg/\Qg<(↑(3:Nat):Int))/\((True/\(Qg=(↑(nat_lit 0):Int)->Qb (decide (Qf.1<Qe.1)) true fun Ql=>K Ql (0:Int)))/\(Qg=(↑(nat_lit 1):Int)->Qb (decide (Qf.1<Qe.2.1)) true fun Ql=>K Ql (0:Int)))/\(Qg=(↑(nat_lit 2):Int)->Qb (decide (Qf.1<Qe.2.2)) true fun Ql=>K Ql (0:Int))))/\(Qg=(↑(nat_lit 1):Int)->((0:Int)<=Qg/\Qg<(↑(3:Nat):Int))/\((True/\(Qg=(↑(nat_lit 0):Int)->Qb (decide (Qf.2.1<Qe.1)) true fun Ql=>K Ql (0:Int)))/\(Qg=(↑(nat_lit 1):Int)->Qb (decide (Qf.2.1<Qe.2.1)) true fun Ql=>K Ql (0:Int)))/\(Qg=(↑(nat_lit 2):Int)->Qb (decide (Qf.2.1<Qe.2.2)) true fun Ql=>K Ql (0:Int))))/\(Qg=(↑(nat_lit 2):Int)->((0:Int)<=Qg/\Qg<(↑(3:Nat):Int))/\((True/\(Qg=(↑(nat_lit 0):Int)->Qb (decide (Qf.2.2<Qe.1)) true fun Ql=>K Ql (0:Int)))/\(Qg=(↑(nat_lit 1):Int)->Qb (decide (Qf.2.2<Qe.2.1)) true fun Ql=>K Ql (0:Int)))/\(Qg=(↑(nat_lit 2):Int)->Qb (decide (Qf.2.2<Qe.2.2)) true fun Ql=>K Ql (0:Int))))))/\(Qg=(↑(nat_lit 1):Int)->Cnd (Qf.2.1=Qe.2.1) (InI (Qg+1)/\j8t (Qg+1)) (((0:Int)<=Qg/\Qg<(↑(3:Nat):Int))/\((True/\(Qg=(↑(nat_lit 0):Int)->((0:Int)<=Qg/\Qg<(↑(3:Nat):Int))/\((True/\(Qg=(↑(nat_lit 0):Int)->Qb (decide (Qf.1<Qe.1)) true fun Ql=>K Ql (0:Int)))/\(Qg=(↑(nat_lit 1):Int)->Qb (decide (Qf.1<Qe.2.1)) true fun Ql=>K Ql (0:Int)))/\(Qg=(↑(nat_lit 2):Int)->Qb (decide (Qf.1<Qe.2.2)) true fun Ql=>K Ql (0:Int))))/\(Qg=(↑(nat_lit 1):Int)->((0:Int)<=Qg/\Qg<(↑(3:Nat):Int))/\((True/\(Qg=(↑(nat_lit 0):Int)->Qb (decide (Qf.2.1<Qe.1)) true fun Ql=>K Ql (0:Int)))/\(Qg=(↑(nat_lit 1):Int)->Qb (decide (Qf.2.1<Qe.2.1)) true fun Ql=>K Ql (0:Int)))/\(Qg=(↑(nat_lit 2):Int)->Qb (decide (Qf.2.1<Qe.2.2)) true fun Ql=>K Ql (0:Int))))/\(Qg=(↑(nat_lit 2):Int)->((0:Int)<=Qg/\Qg<(↑(3:Nat):Int))/\((True/\(Qg=(↑(nat_lit 0):Int)->Qb (decide (Qf.2.2<Qe.1)) true fun Ql=>K Ql (0:Int)))/\(Qg=(↑(nat_lit 1):Int)->Qb (decide (Qf.2.2<Qe.2.1)) true fun Ql=>K Ql (0:Int)))/\(Qg=(↑(nat_lit 2):Int)->Qb (decide (Qf.2.2<Qe.2.2)) true fun Ql=>K Ql (0:Int))))))/\(Qg=(↑(nat_lit 2):Int)->Cnd (Qf.2.1=Qe.2.2) (InI (Qg+1)/\j8t (Qg+1)) (((0:Int)<=Qg/\Qg<(↑(3:Nat):Int))/\((True/\(Qg=(↑(nat_lit 0):Int)->((0:Int)<=Qg/\Qg<(↑(3:Nat):Int))/\((True/\(Qg=(↑(nat_lit 0):Int)->Qb (decide (Qf.1<Qe.1)) true fun Ql=>K Ql (0:Int)))/\(Qg=(↑(nat_lit 1):Int)->Qb (decide (Qf.1<Qe.2.1)) true fun Ql=>K Ql (0:Int)))/\(Qg=(↑(nat_lit 2):Int)->Qb (decide (Qf.1<Qe.2.2)) true fun Ql=>K Ql (0:Int))))/\(Qg=(↑(nat_lit 1):Int)->((0:Int)<=Qg/\Qg<(↑(3:Nat):Int))/\((True/\(Qg=(↑(nat_lit 0):Int)->Qb (decide (Qf.2.1<Qe.1)) true fun Ql=>K Ql (0:Int)))/\(Qg=(↑(nat_lit 1):Int)->Qb (decide (Qf.2.1<Qe.2.1)) true fun Ql=>K Ql (0:Int)))/\(Qg=(↑(nat_lit 2):Int)->Qb (decide (Qf.2.1<Qe.2.2)) true fun Ql=>K Ql (0:Int))))/\(Qg=(↑(nat_lit 2):Int)->((0:Int)<=Qg/\Qg<(↑(3:Nat):Int))/\((True/\(Qg=(↑(nat_lit 0):Int)->Qb (decide (Qf.2.2<Qe.1)) true fun Ql=>K Ql (0:Int)))/\(Qg=(↑(nat_lit 1):Int)->Qb (decide (Qf.2.2<Qe.2.1)) true fun Ql=>K Ql (0:Int)))/\(Qg=(↑(nat_lit 2):Int)->Qb (decide (Qf.2.2<Qe.2.2)) true fun Ql=>K Ql (0:Int)))))))/\(Qg=(↑(nat_lit 2):Int)->((0:Int)<=Qg/\Qg<(↑(3:Nat):Int))/\((True/\(Qg=(↑(nat_lit 0):Int)->Cnd (Qf.2.2=Qe.1) (InI (Qg+1)/\j8t (Qg+1)) (((0:Int)<=Qg/\Qg<(↑(3:Nat):Int))/\((True/\(Qg=(↑(nat_lit 0):Int)->((0:Int)<=Qg/\Qg<(↑(3:Nat):Int))/\((True/\(Qg=(↑(nat_lit 0):Int)->Qb (decide (Qf.1<Qe.1)) true fun Ql=>K Ql (0:Int)))/\(Qg=(↑(nat_lit 1):Int)->Qb (decide (Qf.1<Qe.2.1)) true fun Ql=>K Ql (0:Int)))/\(Qg=(↑(nat_lit 2):Int)->Qb (decide (Qf.1<Qe.2.2)) true fun Ql=>K Ql (0:Int))))/\(Qg=(↑(nat_lit 1):Int)->((0:Int)<=Qg/\Qg<(↑(3:Nat):Int))/\((True/\(Qg=(↑(nat_lit 0):Int)->Qb (decide (Qf.2.1<Qe.1)) true fun Ql=>K Ql (0:Int)))/\(Qg=(↑(nat_lit 1):Int)->Qb (decide (Qf.2.1<Qe.2.1)) true fun Ql=>K Ql (0:Int)))/\(Qg=(↑(nat_lit 2):Int)->Qb (decide (Qf.2.1<Qe.2.2)) true fun Ql=>K Ql (0:Int))))/\(Qg=(↑(nat_lit 2):Int)->((0:Int)<=Qg/\Qg<(↑(3:Nat):Int))/\((True/\(Qg=(↑(nat_lit 0):Int)->Qb (decide (Qf.2.2<Qe.1)) true fun Ql=>K Ql (0:Int)))/\(Qg=(↑(nat_lit 1):Int)->Qb (decide (Qf.2.2<Qe.2.1)) true fun Ql=>K Ql (0:Int)))/\(Qg=(↑(nat_lit 2):Int)->Qb (decide (Qf.2.2<Qe.2.2)) true fun Ql=>K Ql (0:Int))))))/\(Qg=(↑(nat_lit 1):Int)->Cnd (Qf.2.2=Qe.2.1) (InI (Qg+1)/\j8t (Qg+1)) (((0:Int)<=Qg/\Qg<(↑(3:Nat):Int))/\((True/\(Qg=(↑(nat_lit 0):Int)->((0:Int)<=Qg/\Qg<(↑(3:Nat):Int))/\((True/\(Qg=(↑(nat_lit 0):Int)->Qb (decide (Qf.1<Qe.1)) true fun Ql=>K Ql (0:Int)))/\(Qg=(↑(nat_lit 1):Int)->Qb (decide (Qf.1<Qe.2.1)) true fun Ql=>K Ql (0:Int)))/\(Qg=(↑(nat_lit 2):Int)->Qb (decide (Qf.1<Qe.2.2)) true fun Ql=>K Ql (0:Int))))/\(Qg=(↑(nat_lit 1):Int)->((0:Int)<=Qg/\Qg<(↑(3:Nat):Int))/\((True/\(Qg=(↑(nat_lit 0):Int)->Qb (decide (Qf.2.1<Qe.1)) true fun Ql=>K Ql (0:Int)))/\(Qg=(↑(nat_lit 1):Int)->Qb (decide (Qf.2.1<Qe.2.1)) true fun Ql=>K Ql (0:Int)))/\(Qg=(↑(nat_lit 2):Int)->Qb (decide (Qf.2.1<Qe.2.2)) true fun Ql=>K Ql (0:Int))))/\(Qg=(↑(nat_lit 2):Int)->((0:Int)<=Qg/\Qg<(↑(3:Nat):Int))/\((True/\(Qg=(↑(nat_lit 0):Int)->Qb (decide (Qf.2.2<Qe.1)) true fun Ql=>K Ql (0:Int)))/\(Qg=(↑(nat_lit 1):Int)->Qb (decide (Qf.2.2<Qe.2.1)) true fun Ql=>K Ql (0:Int)))/\(Qg=(↑(nat_lit 2):Int)->Qb (decide (Qf.2.2<Qe.2.2)) true fun Ql=>K Ql (0:Int))))))/\(Qg=(↑(nat_lit 2):Int)->Cnd (Qf.2.2=Qe.2.2) (InI (Qg+1)/\j8t (Qg+1)) (((0:Int)<=Qg/\Qg<(↑(3:Nat):Int))/\((True/\(Qg=(↑(nat_lit 0):Int)->((0:Int)<=Qg/\Qg<(↑(3:Nat):Int))/\((True/\(Qg=(↑(nat_lit 0):Int)->Qb (decide (Qf.1<Qe.1)) true fun Ql=>K Ql (0:Int)))/\(Qg=(↑(nat_lit 1):Int)->Qb (decide (Qf.1<Qe.2.1)) true fun Ql=>K Ql (0:Int)))/\(Qg=(↑(nat_lit 2):Int)->Qb (decide (Qf.1<Qe.2.2)) true fun Ql=>K Ql (0:Int))))/\(Qg=(↑(nat_lit 1):Int)->((0:Int)<=Qg/\Qg<(↑(3:Nat):Int))/\((True/\(Qg=(↑(nat_lit 0):Int)->Qb (decide (Qf.2.1<Qe.1)) true fun Ql=>K Ql (0:Int)))/\(Qg=(↑(nat_lit 1):Int)->Qb (decide (Qf.2.1<Qe.2.1)) true fun Ql=>K Ql (0:Int)))/\(Qg=(↑(nat_lit 2):Int)->Qb (decide (Qf.2.1<Qe.2.2)) true fun Ql=>K Ql (0:Int))))/\(Qg=(↑(nat_lit 2):Int)->((0:Int)<=Qg/\Qg<(↑(3:Nat):Int))/\((True/\(Qg=(↑(nat_lit 0):Int)->Qb (decide (Qf.2.2<Qe.1)) true fun Ql=>K Ql (0:Int)))/\(Qg=(↑(nat_lit 1):Int)->Qb (decide (Qf.2.2<Qe.2.1)) true fun Ql=>K Ql (0:Int)))/\(Qg=(↑(nat_lit 2):Int)->Qb (decide (Qf.2.2<Qe.2.2)) true fun Ql=>K Ql (0:Int))))))) (K (0:Int) (0:Int))) (0:Int)))))) (K (0:Int) (8:Int))) (K (0:Int) Qt)) (K (0:Int) Qa)
def q3i:q7b:=z3o z2v q7a q8f
abbrev z2w:Type:=Subj->Ex->(Bool->Prop)->Prop
def z9j(j5x:q9q)(j5y:z6b)(z3l:z2s)(q3s:q69)(q9f:q36)(z3v:q7b):z2w:=fun s e K=>j5x (Subj.mk s.1) e.2 e.3 fun Qa Vy=>Cnd (Vy=true) (j5y e.1 fun Qt=>Cnd (Qt=true) (Cnd (e.1=6) (K true) (Cnd (e.1=8) (Lp1 (fun Qf z45=>Fits e.4->CAt e.4 Qf (fun y4=>z3l Qa y4 fun W0=>Cnd (W0=true) (K true) (InI (Qf+1)/\z45 (Qf+1))) (K false)) (0:Int)) (Fits e.4->Cnd ((↑e.4.length:Int)=0) (K false) (((0:Int)<=(0:Int)/\(0:Int)<(↑e.4.length:Int))/\ ∀y3,e.4[Int.toNat (0:Int)]? =some y3->Cnd (Qa.1=3) (Cnd (e.1=7) (z3l Qa y3 fun Q2=>K Q2) (Cnd (e.1=9) (Cnd (y3.1=3) (q3s Qa.3 y3.3 (0:Int) fun Q2=>K Q2) (K false)) (Cnd (e.1=10) (Cnd (y3.1=3) (InI ((↑Qa.3.size:Int) - (↑y3.3.size:Int))/\q3s Qa.3 y3.3 ((↑Qa.3.size:Int) - (↑y3.3.size:Int)) fun Q2=>K Q2) (K false)) (Cnd (e.1=11) (q9f Qa y3 fun Q2=>K Q2) (z3v Qa y3 fun Q2 q1r=>Cnd (q1r=0) (Cnd (e.1=12) (K (decide (Q2<0))) (Cnd (e.1=13) (K (decide (Q2<=0))) (Cnd (e.1=14) (K (decide ((0:Int)<Q2))) (K (decide ((0:Int)<=Q2)))))) (K false)))))) (Cnd (e.1=7) (z3l Qa y3 fun Q2=>K Q2) (Cnd (e.1=9) (K false) (Cnd (e.1=10) (K false) (Cnd (e.1=11) (q9f Qa y3 fun Q2=>K Q2) (z3v Qa y3 fun Q2 q1r=>Cnd (q1r=0) (Cnd (e.1=12) (K (decide (Q2<0))) (Cnd (e.1=13) (K (decide (Q2<=0))) (Cnd (e.1=14) (K (decide ((0:Int)<Q2))) (K (decide ((0:Int)<=Q2)))))) (K false)))))))))) (K false)) (K false)
def z2x:z2w:=z9j q9r q9s q8b q3h q37 q3i
abbrev q8g:Type:=Subj->List (ByteArray)->Ex->(Bool->Prop)->Prop
def z9k(q11:z4x)(j8v:z2w)(X:q8g):q8g:=fun s in_ e K=>Cnd (e.1=1) (K true) (Cnd (e.1=2) (Lp1 (fun Qa By=>Fits e.5->CAt e.5 Qa (fun y2=>X (Subj.mk s.1) in_ (Ex.mk y2.1 y2.2 y2.3 y2.4 y2.5) fun Qg=>Cnd (Qg=true) (InI (Qa+1)/\By (Qa+1)) (K false)) (K true)) (0:Int)) (Cnd (e.1=3) (Lp1 (fun Qa By=>Fits e.5->CAt e.5 Qa (fun y2=>X (Subj.mk s.1) in_ (Ex.mk y2.1 y2.2 y2.3 y2.4 y2.5) fun Qg=>Cnd (Qg=true) (K true) (InI (Qa+1)/\By (Qa+1))) (K false)) (0:Int)) (Cnd (e.1=4) (Fits e.5->Cnd ((0:Int)<(↑e.5.length:Int)) (((0:Int)<=(0:Int)/\(0:Int)<(↑e.5.length:Int))/\ ∀y1,e.5[Int.toNat (0:Int)]? =some y1->X (Subj.mk s.1) in_ (Ex.mk y1.1 y1.2 y1.3 y1.4 y1.5) fun Qe=>K (match decide ((Qe,()).1=true) with|true=>false|false=>true)) (K false)) (Cnd (e.1=5) (q11 in_ e.3 fun Qa=>K Qa) (j8v (Subj.mk s.1) (Ex.mk e.1 e.2 e.3 e.4 e.5) fun Qa=>K Qa)))))
def j8a:q8g:=fun s in_ e K=> ∀X:q8g,(∀s in_ e K,z9k z0v z2x X s in_ e K->X s in_ e K)->X s in_ e K
abbrev j23:Type:=List (Rng)->Int->(Bool->Prop)->Prop
def z3p:j23:=fun l arm K=>Lp1 (fun Qa By=>Fits l->CAt l Qa (fun y2=>Cnd (y2.3=arm) (K true) (InI (Qa+1)/\By (Qa+1))) (K false)) (0:Int)
end Go.En
end
noncomputable section
set_option maxRecDepth 100000
namespace Go.Proofs
open Go.Shelf
def Tryz.laysC172_ren:Go.Shelf.Ren:=⟨fun|172=>265|244=>277|245=>278|247=>286|279=>287|280=>288|281=>289|282=>290|287=>293|316=>294|171=>282|205=>295|321=>297|322=>298|243=>291|246=>296|283=>299|284=>300|285=>301|286=>302|129=>167|317=>303|318=>304|319=>305|320=>306|337=>307|338=>308|n=>n,fun|9=>9|3=>3|75=>358|76=>359|4=>4|5=>5|167=>377|37=>144|0=>0|85=>378|2=>2|168=>380|53=>169|175=>383|46=>223|210=>386|127=>390|145=>393|143=>391|21=>21|171=>394|173=>396|212=>399|51=>262|20=>20|213=>400|232=>401|233=>402|80=>403|n=>n,fun|15=>5|16=>6|17=>7|18=>8|19=>9|n=>n⟩
theorem Tryz.laysC172:Go.Proofs.LaysC.n172 Tryz.prog Tryz.laysC172_ren:={
 mixed:=by kernel_rfl
 f129:=Tryz.func167.trans (congrArg some (by kernel_rfl))
 f171:=Tryz.func282.trans (congrArg some (by kernel_rfl))
 f172:=Tryz.func265.trans (congrArg some (by kernel_rfl))
 f205:=Tryz.func295.trans (congrArg some (by kernel_rfl))
 f243:=Tryz.func291.trans (congrArg some (by kernel_rfl))
 f244:=Tryz.func277.trans (congrArg some (by kernel_rfl))
 f245:=Tryz.func278.trans (congrArg some (by kernel_rfl))
 f246:=Tryz.func296.trans (congrArg some (by kernel_rfl))
 f247:=Tryz.func286.trans (congrArg some (by kernel_rfl))
 f279:=Tryz.func287.trans (congrArg some (by kernel_rfl))
 f280:=Tryz.func288.trans (congrArg some (by kernel_rfl))
 f281:=Tryz.func289.trans (congrArg some (by kernel_rfl))
 f282:=Tryz.func290.trans (congrArg some (by kernel_rfl))
 f283:=Tryz.func299.trans (congrArg some (by kernel_rfl))
 f284:=Tryz.func300.trans (congrArg some (by kernel_rfl))
 f285:=Tryz.func301.trans (congrArg some (by kernel_rfl))
 f286:=Tryz.func302.trans (congrArg some (by kernel_rfl))
 f287:=Tryz.func293.trans (congrArg some (by kernel_rfl))
 f316:=Tryz.func294.trans (congrArg some (by kernel_rfl))
 f317:=Tryz.func303.trans (congrArg some (by kernel_rfl))
 f318:=Tryz.func304.trans (congrArg some (by kernel_rfl))
 f319:=Tryz.func305.trans (congrArg some (by kernel_rfl))
 f320:=Tryz.func306.trans (congrArg some (by kernel_rfl))
 f321:=Tryz.func297.trans (congrArg some (by kernel_rfl))
 f322:=Tryz.func298.trans (congrArg some (by kernel_rfl))
 f337:=Tryz.func307.trans (congrArg some (by kernel_rfl))
 f338:=Tryz.func308.trans (congrArg some (by kernel_rfl))
 t0:=Tryz.underlying0
 a0:=Tryz.isAgg0
 z0:=Tryz.sizeOf0
 v0:=Tryz.zeroValue0
 t2:=Tryz.underlying2
 a2:=Tryz.isAgg2
 z2:=Tryz.sizeOf2
 v2:=Tryz.zeroValue2
 t3:=Tryz.underlying3
 a3:=Tryz.isAgg3
 z3:=Tryz.sizeOf3
 v3:=Tryz.zeroValue3
 t4:=Tryz.underlying4
 a4:=Tryz.isAgg4
 z4:=Tryz.sizeOf4
 v4:=Tryz.zeroValue4
 t5:=Tryz.underlying5
 a5:=Tryz.isAgg5
 z5:=Tryz.sizeOf5
 v5:=Tryz.zeroValue5
 t9:=Tryz.underlying9
 a9:=Tryz.isAgg9
 z9:=Tryz.sizeOf9
 v9:=Tryz.zeroValue9
 t20:=Tryz.underlying20
 a20:=Tryz.isAgg20
 z20:=Tryz.sizeOf20
 v20:=Tryz.zeroValue20
 t21:=Tryz.underlying21
 a21:=Tryz.isAgg21
 z21:=Tryz.sizeOf21
 v21:=Tryz.zeroValue21
 t37:=Tryz.underlying144
 a37:=Tryz.isAgg144
 z37:=Tryz.sizeOf144
 v37:=Tryz.zeroValue144
 t46:=Tryz.underlying223
 a46:=Tryz.isAgg223
 z46:=Tryz.sizeOf223
 v46:=Tryz.zeroValue223
 t51:=Tryz.underlying262
 a51:=Tryz.isAgg262
 z51:=Tryz.sizeOf262
 v51:=Tryz.zeroValue262
 t53:=Tryz.underlying169
 a53:=Tryz.isAgg169
 z53:=Tryz.sizeOf169
 v53:=Tryz.zeroValue169
 t75:=Tryz.underlying358
 a75:=Tryz.isAgg358
 z75:=Tryz.sizeOf358
 v75:=Tryz.zeroValue358
 t76:=Tryz.underlying359
 a76:=Tryz.isAgg359
 z76:=Tryz.sizeOf359
 v76:=Tryz.zeroValue359
 t85:=Tryz.underlying378
 a85:=Tryz.isAgg378
 z85:=Tryz.sizeOf378
 v85:=Tryz.zeroValue378
 t127:=Tryz.underlying390
 a127:=Tryz.isAgg390
 z127:=Tryz.sizeOf390
 v127:=Tryz.zeroValue390
 t143:=Tryz.underlying391
 a143:=Tryz.isAgg391
 z143:=Tryz.sizeOf391
 v143:=Tryz.zeroValue391
 t145:=Tryz.underlying393
 a145:=Tryz.isAgg393
 z145:=Tryz.sizeOf393
 v145:=Tryz.zeroValue393
 t167:=Tryz.underlying377
 a167:=Tryz.isAgg377
 z167:=Tryz.sizeOf377
 v167:=Tryz.zeroValue377
 t168:=Tryz.underlying380
 a168:=Tryz.isAgg380
 z168:=Tryz.sizeOf380
 v168:=Tryz.zeroValue380
 t171:=Tryz.underlying394
 a171:=Tryz.isAgg394
 z171:=Tryz.sizeOf394
 v171:=Tryz.zeroValue394
 t173:=Tryz.underlying396
 a173:=Tryz.isAgg396
 z173:=Tryz.sizeOf396
 v173:=Tryz.zeroValue396
 t175:=Tryz.underlying383
 a175:=Tryz.isAgg383
 z175:=Tryz.sizeOf383
 v175:=Tryz.zeroValue383
 t210:=Tryz.underlying386
 a210:=Tryz.isAgg386
 z210:=Tryz.sizeOf386
 v210:=Tryz.zeroValue386
 t212:=Tryz.underlying399
 a212:=Tryz.isAgg399
 z212:=Tryz.sizeOf399
 v212:=Tryz.zeroValue399
 t213:=Tryz.underlying400
 a213:=Tryz.isAgg400
 z213:=Tryz.sizeOf400
 t232:=Tryz.underlying401
 a232:=Tryz.isAgg401
 z232:=Tryz.sizeOf401
 v232:=Tryz.zeroValue401
 t233:=Tryz.underlying402
 a233:=Tryz.isAgg402
 z233:=Tryz.sizeOf402
 v233:=Tryz.zeroValue402
 g15:=by kernel_rfl
 g16:=by kernel_rfl
 g17:=by kernel_rfl
 g18:=by kernel_rfl
 g19:=by kernel_rfl
 t80:=Tryz.underlying403
 a80:=Tryz.isAgg403
 z80:=Tryz.sizeOf403
 v80:=Tryz.zeroValue403
 i0:=by kernel_rfl
 i2:=by kernel_rfl
 i3:=by kernel_rfl
 i4:=by kernel_rfl
 i5:=by kernel_rfl
 i9:=by kernel_rfl
 i20:=by kernel_rfl
 i21:=by kernel_rfl
 i37:=by kernel_rfl
 i46:=by kernel_rfl
 i51:=by kernel_rfl
 i53:=by kernel_rfl
 i75:=by kernel_rfl
 i76:=by kernel_rfl
 i80:=by kernel_rfl
 i85:=by kernel_rfl
 i127:=by kernel_rfl
 i143:=by kernel_rfl
 i145:=by kernel_rfl
 i167:=by kernel_rfl
 i168:=by kernel_rfl
 i171:=by kernel_rfl
 i173:=by kernel_rfl
 i175:=by kernel_rfl
 i210:=by kernel_rfl
 i212:=by kernel_rfl
 i232:=by kernel_rfl
 i233:=by kernel_rfl
 m15:=by kernel_rfl
 m16:=by kernel_rfl
 m17:=by kernel_rfl
 m18:=by kernel_rfl
 m19:=by kernel_rfl
 c0:=by kernel_rfl
 c2:=by kernel_rfl
 c3:=by kernel_rfl
 c4:=by kernel_rfl
 c5:=by kernel_rfl
 c9:=by kernel_rfl
 c20:=by kernel_rfl
 c21:=by kernel_rfl
 c37:=by kernel_rfl
 c46:=by kernel_rfl
 c51:=by kernel_rfl
 c53:=by kernel_rfl
 c75:=by kernel_rfl
 c76:=by kernel_rfl
 c80:=by kernel_rfl
 c85:=by kernel_rfl
 c127:=by kernel_rfl
 c143:=by kernel_rfl
 c145:=by kernel_rfl
 c167:=by kernel_rfl
 c168:=by kernel_rfl
 c171:=by kernel_rfl
 c173:=by kernel_rfl
 c175:=by kernel_rfl
 c210:=by kernel_rfl
 c212:=by kernel_rfl
 c213:=by kernel_rfl
 c232:=by kernel_rfl
 c233:=by kernel_rfl}
open Go.RowKit in
theorem Tryz.strconv_Atoi_ok(s:ByteArray)(hmax:s.size<=9223372036854775806)(v:Int)(h:Lib.atoiAll s.data.toList= .ok v)(w:World):
  Calls Tryz.prog 265 #[.string s] w fun e w'=>e= .returned (.tuple #[.int .i64 v,.nilIface])/\(w'=w∨ ∃t,w'=Lib.bytesWorld w 5 t):=Any.strconv_Atoi_ok Tryz.laysC172 s hmax v h w
open Go.RowKit in
theorem Tryz.strconv_Atoi_syntax(s:ByteArray)(hlim:s.size<=281474976710656)(h:Lib.atoiAll s.data.toList=Go.Lib.NumEnd.syntax)(ev:Value)(w:World)(hv:w.cell? ⟨5,0,none⟩=some ev)(hev:ev= .nilIface∨ ∃te pe,ev= .iface te pe):
  Calls Tryz.prog 265 #[.string s] w fun e w'=> ∃N,e= .returned (.tuple #[.int .i64 (0),.iface 380 (.pointer (some ⟨N,0,none⟩))])/\w.heap.size<=N/\w'.heap[N]? =some (.cells #[.string ⟨#[65,116,111,105]⟩,.string s,ev] 386 (0,0))/\Below w.heap.size w w':=Any.strconv_Atoi_syntax Tryz.laysC172 s hlim h ev w hv hev
open Go.RowKit in
theorem Tryz.strconv_Atoi_range(s:ByteArray)(hlim:s.size<=281474976710656)(h:Lib.atoiAll s.data.toList= .range)(ev:Value)(w:World)(hv:w.cell? ⟨6,0,none⟩=some ev)(hev:ev= .nilIface∨ ∃te pe,ev= .iface te pe):
  Calls Tryz.prog 265 #[.string s] w fun e w'=> ∃N,e= .returned (.tuple #[.int .i64 (Lib.atoiSat s.data.toList),.iface 380 (.pointer (some ⟨N,0,none⟩))])/\w.heap.size<=N/\w'.heap[N]? =some (.cells #[.string ⟨#[65,116,111,105]⟩,.string s,ev] 386 (0,0))/\Below w.heap.size w w':=Any.strconv_Atoi_range Tryz.laysC172 s hlim h ev w hv hev
def Tryz.lays144_ren:Go.Shelf.Ren:=⟨fun|144=>188|143=>219|219=>241|217=>258|225=>259|224=>260|267=>261|266=>271|314=>272|n=>n,fun|9=>9|4=>4|3=>3|5=>5|46=>223|146=>364|51=>262|n=>n,fun|1=>2|n=>n⟩
theorem Tryz.lays144:Go.Proofs.Lays.n144 Tryz.prog Tryz.lays144_ren:={
 mixed:=by kernel_rfl
 f143:=Tryz.func219.trans (congrArg some (by kernel_rfl))
 f144:=Tryz.func188.trans (congrArg some (by kernel_rfl))
 f217:=Tryz.func258.trans (congrArg some (by kernel_rfl))
 f219:=Tryz.func241.trans (congrArg some (by kernel_rfl))
 f224:=Tryz.func260.trans (congrArg some (by kernel_rfl))
 f225:=Tryz.func259.trans (congrArg some (by kernel_rfl))
 f266:=Tryz.func271.trans (congrArg some (by kernel_rfl))
 f267:=Tryz.func261.trans (congrArg some (by kernel_rfl))
 f314:=Tryz.func272.trans (congrArg some (by kernel_rfl))
 t3:=Tryz.underlying3
 a3:=Tryz.isAgg3
 z3:=Tryz.sizeOf3
 v3:=Tryz.zeroValue3
 t4:=Tryz.underlying4
 a4:=Tryz.isAgg4
 z4:=Tryz.sizeOf4
 v4:=Tryz.zeroValue4
 t5:=Tryz.underlying5
 a5:=Tryz.isAgg5
 z5:=Tryz.sizeOf5
 v5:=Tryz.zeroValue5
 t9:=Tryz.underlying9
 a9:=Tryz.isAgg9
 z9:=Tryz.sizeOf9
 v9:=Tryz.zeroValue9
 t46:=Tryz.underlying223
 a46:=Tryz.isAgg223
 z46:=Tryz.sizeOf223
 v46:=Tryz.zeroValue223
 t51:=Tryz.underlying262
 a51:=Tryz.isAgg262
 z51:=Tryz.sizeOf262
 v51:=Tryz.zeroValue262
 t146:=Tryz.underlying364
 a146:=Tryz.isAgg364
 z146:=Tryz.sizeOf364
 v146:=Tryz.zeroValue364
 g1:=by kernel_rfl}
open Go.RowKit Go.Lib in
theorem Tryz.strings_Contains(s sub:ByteArray)(m:Int)(w:World)(hs:s.size<4294967281)(hm:w.cell? ⟨2,0,none⟩=some (.int .i64 m)):
  Calls Tryz.prog 188 #[.string s,.string sub] w fun e w'=>e= .returned (.bool (Lib.contains s.data.toList sub.data.toList))/\w'=w:=Any.strings_Contains Tryz.lays144 s sub m w hs hm
def Tryz.lays190_ren:Go.Shelf.Ren:=⟨fun|190=>93|125=>124|258=>123|128=>166|129=>167|302=>157|303=>158|304=>159|305=>160|306=>161|307=>162|308=>163|309=>164|310=>165|333=>197|329=>198|330=>199|334=>200|335=>201|336=>202|344=>234|n=>n,fun|31=>55|9=>9|3=>3|46=>223|0=>0|51=>262|53=>169|4=>4|183=>269|182=>268|131=>166|5=>5|218=>311|222=>315|228=>341|229=>342|n=>n,fun|n=>n⟩
theorem Tryz.lays190:Go.Proofs.Lays.n190 Tryz.prog Tryz.lays190_ren:={
 mixed:=by kernel_rfl
 f125:=Tryz.func124.trans (congrArg some (by kernel_rfl))
 f128:=Tryz.func166.trans (congrArg some (by kernel_rfl))
 f129:=Tryz.func167.trans (congrArg some (by kernel_rfl))
 f190:=Tryz.func93.trans (congrArg some (by kernel_rfl))
 f258:=Tryz.func123.trans (congrArg some (by kernel_rfl))
 f302:=Tryz.func157.trans (congrArg some (by kernel_rfl))
 f303:=Tryz.func158.trans (congrArg some (by kernel_rfl))
 f304:=Tryz.func159.trans (congrArg some (by kernel_rfl))
 f305:=Tryz.func160.trans (congrArg some (by kernel_rfl))
 f306:=Tryz.func161.trans (congrArg some (by kernel_rfl))
 f307:=Tryz.func162.trans (congrArg some (by kernel_rfl))
 f308:=Tryz.func163.trans (congrArg some (by kernel_rfl))
 f309:=Tryz.func164.trans (congrArg some (by kernel_rfl))
 f310:=Tryz.func165.trans (congrArg some (by kernel_rfl))
 f329:=Tryz.func198.trans (congrArg some (by kernel_rfl))
 f330:=Tryz.func199.trans (congrArg some (by kernel_rfl))
 f333:=Tryz.func197.trans (congrArg some (by kernel_rfl))
 f334:=Tryz.func200.trans (congrArg some (by kernel_rfl))
 f335:=Tryz.func201.trans (congrArg some (by kernel_rfl))
 f336:=Tryz.func202.trans (congrArg some (by kernel_rfl))
 f344:=Tryz.func234.trans (congrArg some (by kernel_rfl))
 t0:=Tryz.underlying0
 a0:=Tryz.isAgg0
 z0:=Tryz.sizeOf0
 v0:=Tryz.zeroValue0
 t3:=Tryz.underlying3
 a3:=Tryz.isAgg3
 z3:=Tryz.sizeOf3
 v3:=Tryz.zeroValue3
 t4:=Tryz.underlying4
 a4:=Tryz.isAgg4
 z4:=Tryz.sizeOf4
 v4:=Tryz.zeroValue4
 t5:=Tryz.underlying5
 a5:=Tryz.isAgg5
 z5:=Tryz.sizeOf5
 v5:=Tryz.zeroValue5
 t9:=Tryz.underlying9
 a9:=Tryz.isAgg9
 z9:=Tryz.sizeOf9
 v9:=Tryz.zeroValue9
 t31:=Tryz.underlying55
 a31:=Tryz.isAgg55
 z31:=Tryz.sizeOf55
 v31:=Tryz.zeroValue55
 t46:=Tryz.underlying223
 a46:=Tryz.isAgg223
 z46:=Tryz.sizeOf223
 v46:=Tryz.zeroValue223
 t51:=Tryz.underlying262
 a51:=Tryz.isAgg262
 z51:=Tryz.sizeOf262
 v51:=Tryz.zeroValue262
 t53:=Tryz.underlying169
 a53:=Tryz.isAgg169
 z53:=Tryz.sizeOf169
 v53:=Tryz.zeroValue169
 t131:=Tryz.underlying166
 a131:=Tryz.isAgg166
 z131:=Tryz.sizeOf166
 v131:=Tryz.zeroValue166
 t182:=Tryz.underlying268
 a182:=Tryz.isAgg268
 z182:=Tryz.sizeOf268
 v182:=Tryz.zeroValue268
 t183:=Tryz.underlying269
 a183:=Tryz.isAgg269
 z183:=Tryz.sizeOf269
 v183:=Tryz.zeroValue269
 t218:=Tryz.underlying311
 a218:=Tryz.isAgg311
 z218:=Tryz.sizeOf311
 v218:=Tryz.zeroValue311
 t222:=Tryz.underlying315
 a222:=Tryz.isAgg315
 z222:=Tryz.sizeOf315
 v222:=Tryz.zeroValue315
 t228:=Tryz.underlying341
 a228:=Tryz.isAgg341
 z228:=Tryz.sizeOf341
 v228:=Tryz.zeroValue341
 t229:=Tryz.underlying342
 a229:=Tryz.isAgg342
 z229:=Tryz.sizeOf342
 v229:=Tryz.zeroValue342}
open Go.Sort Go.RowKit in
theorem Tryz.slices_Sort_string(blk off cap:Nat)(ss:List (List UInt8))(w:World)(hH:Holds encStr w blk off ss.toArray)(hblk:blk<w.heap.size)(hsz:ss.length<4611686018427387904):
  Calls Tryz.prog 93 #[.slice (some ⟨blk,off,none⟩) ss.length cap] w fun e w'=>
   e= .returned (.tuple #[])/\ ∃n os,w'=grow (putRow encStr (Sort.ahead w n) blk off (ss.mergeSort fun x y=>decide (x<=y)).toArray) os:=Any.slices_Sort_string Tryz.lays190 blk off cap ss w hH hblk hsz
def Tryz.lays146_ren:Go.Shelf.Ren:=⟨fun|146=>245|221=>263|268=>274|138=>275|143=>219|195=>283|197=>284|218=>285|219=>241|260=>292|217=>258|225=>259|224=>260|267=>261|266=>271|314=>272|n=>n,fun|9=>9|31=>55|3=>3|4=>4|0=>0|105=>375|21=>21|5=>5|46=>223|119=>209|139=>369|138=>368|146=>364|51=>262|n=>n,fun|1=>2|3=>3|4=>4|n=>n⟩
theorem Tryz.lays146:Go.Proofs.Lays.n146 Tryz.prog Tryz.lays146_ren:={
 mixed:=by kernel_rfl
 f138:=Tryz.func275.trans (congrArg some (by kernel_rfl))
 f143:=Tryz.func219.trans (congrArg some (by kernel_rfl))
 f146:=Tryz.func245.trans (congrArg some (by kernel_rfl))
 f195:=Tryz.func283.trans (congrArg some (by kernel_rfl))
 f197:=Tryz.func284.trans (congrArg some (by kernel_rfl))
 f217:=Tryz.func258.trans (congrArg some (by kernel_rfl))
 f218:=Tryz.func285.trans (congrArg some (by kernel_rfl))
 f219:=Tryz.func241.trans (congrArg some (by kernel_rfl))
 f221:=Tryz.func263.trans (congrArg some (by kernel_rfl))
 f224:=Tryz.func260.trans (congrArg some (by kernel_rfl))
 f225:=Tryz.func259.trans (congrArg some (by kernel_rfl))
 f260:=Tryz.func292.trans (congrArg some (by kernel_rfl))
 f266:=Tryz.func271.trans (congrArg some (by kernel_rfl))
 f267:=Tryz.func261.trans (congrArg some (by kernel_rfl))
 f268:=Tryz.func274.trans (congrArg some (by kernel_rfl))
 f314:=Tryz.func272.trans (congrArg some (by kernel_rfl))
 t0:=Tryz.underlying0
 a0:=Tryz.isAgg0
 z0:=Tryz.sizeOf0
 v0:=Tryz.zeroValue0
 t3:=Tryz.underlying3
 a3:=Tryz.isAgg3
 z3:=Tryz.sizeOf3
 v3:=Tryz.zeroValue3
 t4:=Tryz.underlying4
 a4:=Tryz.isAgg4
 z4:=Tryz.sizeOf4
 v4:=Tryz.zeroValue4
 t5:=Tryz.underlying5
 a5:=Tryz.isAgg5
 z5:=Tryz.sizeOf5
 v5:=Tryz.zeroValue5
 t9:=Tryz.underlying9
 a9:=Tryz.isAgg9
 z9:=Tryz.sizeOf9
 v9:=Tryz.zeroValue9
 t21:=Tryz.underlying21
 a21:=Tryz.isAgg21
 z21:=Tryz.sizeOf21
 v21:=Tryz.zeroValue21
 t31:=Tryz.underlying55
 a31:=Tryz.isAgg55
 z31:=Tryz.sizeOf55
 v31:=Tryz.zeroValue55
 t46:=Tryz.underlying223
 a46:=Tryz.isAgg223
 z46:=Tryz.sizeOf223
 v46:=Tryz.zeroValue223
 t51:=Tryz.underlying262
 a51:=Tryz.isAgg262
 z51:=Tryz.sizeOf262
 v51:=Tryz.zeroValue262
 t105:=Tryz.underlying375
 a105:=Tryz.isAgg375
 z105:=Tryz.sizeOf375
 v105:=Tryz.zeroValue375
 t119:=Tryz.underlying209
 a119:=Tryz.isAgg209
 z119:=Tryz.sizeOf209
 t138:=Tryz.underlying368
 a138:=Tryz.isAgg368
 z138:=Tryz.sizeOf368
 v138:=Tryz.zeroValue368
 t139:=Tryz.underlying369
 a139:=Tryz.isAgg369
 z139:=Tryz.sizeOf369
 v139:=Tryz.zeroValue369
 t146:=Tryz.underlying364
 a146:=Tryz.isAgg364
 z146:=Tryz.sizeOf364
 v146:=Tryz.zeroValue364
 g1:=by kernel_rfl
 g3:=by kernel_rfl
 g4:=by kernel_rfl}
open Go.RowKit Go.Lib in
theorem Tryz.strings_Split(s sep:ByteArray)(m:Int)(w:World)(hs:s.size<4294967281)(hm:w.cell? ⟨2,0,none⟩=some (.int .i64 m))(h1:1<=sep.size):
  Calls Tryz.prog 245 #[.string s,.string sep] w fun e w'=>
   e= .returned (.slice (some ⟨w.heap.size,0,none⟩) (Lib.countB s sep+1) (Lib.countB s sep+1))/\w'=w.alloc (.cells ((Lib.splitB sep 0 (Lib.countB s sep) s).map Value.string).toArray 9):=Any.strings_Split Tryz.lays146 (by kernel_rfl) s sep m w hs hm h1
def Tryz.lays157_ren:Go.Shelf.Ren:=⟨fun|157=>85|229=>117|199=>118|261=>151|311=>194|312=>195|n=>n,fun|9=>9|31=>55|3=>3|5=>5|4=>4|119=>209|0=>0|40=>211|152=>259|21=>21|154=>261|51=>262|141=>264|196=>304|193=>301|198=>306|49=>22|194=>302|201=>309|226=>339|46=>223|227=>340|n=>n,fun|0=>0|6=>1|n=>n⟩
theorem Tryz.lays157:Go.Proofs.Lays.n157 Tryz.prog Tryz.lays157_ren:={
 mixed:=by kernel_rfl
 f157:=Tryz.func85.trans (congrArg some (by kernel_rfl))
 f199:=Tryz.func118.trans (congrArg some (by kernel_rfl))
 f229:=Tryz.func117.trans (congrArg some (by kernel_rfl))
 f261:=Tryz.func151.trans (congrArg some (by kernel_rfl))
 f311:=Tryz.func194.trans (congrArg some (by kernel_rfl))
 f312:=Tryz.func195.trans (congrArg some (by kernel_rfl))
 t0:=Tryz.underlying0
 a0:=Tryz.isAgg0
 z0:=Tryz.sizeOf0
 v0:=Tryz.zeroValue0
 t3:=Tryz.underlying3
 a3:=Tryz.isAgg3
 z3:=Tryz.sizeOf3
 v3:=Tryz.zeroValue3
 t4:=Tryz.underlying4
 a4:=Tryz.isAgg4
 z4:=Tryz.sizeOf4
 v4:=Tryz.zeroValue4
 t5:=Tryz.underlying5
 a5:=Tryz.isAgg5
 z5:=Tryz.sizeOf5
 v5:=Tryz.zeroValue5
 t9:=Tryz.underlying9
 a9:=Tryz.isAgg9
 z9:=Tryz.sizeOf9
 v9:=Tryz.zeroValue9
 t21:=Tryz.underlying21
 a21:=Tryz.isAgg21
 z21:=Tryz.sizeOf21
 v21:=Tryz.zeroValue21
 t31:=Tryz.underlying55
 a31:=Tryz.isAgg55
 z31:=Tryz.sizeOf55
 v31:=Tryz.zeroValue55
 t40:=Tryz.underlying211
 a40:=Tryz.isAgg211
 z40:=Tryz.sizeOf211
 v40:=Tryz.zeroValue211
 t46:=Tryz.underlying223
 a46:=Tryz.isAgg223
 z46:=Tryz.sizeOf223
 v46:=Tryz.zeroValue223
 t49:=Tryz.underlying22
 a49:=Tryz.isAgg22
 z49:=Tryz.sizeOf22
 v49:=Tryz.zeroValue22
 t51:=Tryz.underlying262
 a51:=Tryz.isAgg262
 z51:=Tryz.sizeOf262
 v51:=Tryz.zeroValue262
 t119:=Tryz.underlying209
 a119:=Tryz.isAgg209
 z119:=Tryz.sizeOf209
 t141:=Tryz.underlying264
 a141:=Tryz.isAgg264
 z141:=Tryz.sizeOf264
 v141:=Tryz.zeroValue264
 t152:=Tryz.underlying259
 a152:=Tryz.isAgg259
 z152:=Tryz.sizeOf259
 v152:=Tryz.zeroValue259
 t154:=Tryz.underlying261
 a154:=Tryz.isAgg261
 z154:=Tryz.sizeOf261
 v154:=Tryz.zeroValue261
 t193:=Tryz.underlying301
 a193:=Tryz.isAgg301
 z193:=Tryz.sizeOf301
 v193:=Tryz.zeroValue301
 t194:=Tryz.underlying302
 a194:=Tryz.isAgg302
 z194:=Tryz.sizeOf302
 v194:=Tryz.zeroValue302
 t196:=Tryz.underlying304
 a196:=Tryz.isAgg304
 z196:=Tryz.sizeOf304
 v196:=Tryz.zeroValue304
 t198:=Tryz.underlying306
 a198:=Tryz.isAgg306
 z198:=Tryz.sizeOf306
 v198:=Tryz.zeroValue306
 t201:=Tryz.underlying309
 a201:=Tryz.isAgg309
 z201:=Tryz.sizeOf309
 v201:=Tryz.zeroValue309
 t226:=Tryz.underlying339
 a226:=Tryz.isAgg339
 z226:=Tryz.sizeOf339
 v226:=Tryz.zeroValue339
 t227:=Tryz.underlying340
 a227:=Tryz.isAgg340
 z227:=Tryz.sizeOf340
 v227:=Tryz.zeroValue340
 g0:=by kernel_rfl
 g6:=by kernel_rfl}
def Tryz.lays194_ren:Go.Shelf.Ren:=⟨fun|194=>94|n=>n,fun|31=>55|9=>9|3=>3|4=>4|0=>0|n=>n,fun|n=>n⟩
theorem Tryz.lays194:Go.Proofs.Lays.n194 Tryz.prog Tryz.lays194_ren:={
 mixed:=by kernel_rfl
 f194:=Tryz.func94.trans (congrArg some (by kernel_rfl))
 t0:=Tryz.underlying0
 a0:=Tryz.isAgg0
 z0:=Tryz.sizeOf0
 v0:=Tryz.zeroValue0
 t3:=Tryz.underlying3
 a3:=Tryz.isAgg3
 z3:=Tryz.sizeOf3
 v3:=Tryz.zeroValue3
 t4:=Tryz.underlying4
 a4:=Tryz.isAgg4
 z4:=Tryz.sizeOf4
 v4:=Tryz.zeroValue4
 t9:=Tryz.underlying9
 a9:=Tryz.isAgg9
 z9:=Tryz.sizeOf9
 v9:=Tryz.zeroValue9
 t31:=Tryz.underlying55
 a31:=Tryz.isAgg55
 z31:=Tryz.sizeOf55
 v31:=Tryz.zeroValue55}
open Go.RowKit Go.Lib Go.Sort in
theorem Tryz.slices_Compact_string(blk off cap:Nat)(zs:List (List UInt8))(w:World)(hH:Holds encStr w blk off zs.toArray)(hsz:zs.length<=9223372036854775807)(hcap:zs.length<=cap):
  Calls Tryz.prog 94 #[.slice (some ⟨blk,off,none⟩) zs.length cap] w fun e w'=>e= .returned (.slice (some ⟨blk,off,none⟩) (Lib.compact zs).length cap)/\ ∃q,w'=putRow encStr (Sort.ahead w q) blk off (Lib.compact zs++List.replicate (zs.length - (Lib.compact zs).length) []).toArray:=Any.slices_Compact_string Tryz.lays194 blk off cap zs w hH hsz hcap
open Go.RowKit Go.Lib Go.Sort in
theorem Tryz.slices_Compact_string_empty(a:Option Addr)(cap:Nat)(w:World):
  Calls Tryz.prog 94 #[.slice a 0 cap] w fun e w'=>e= .returned (.slice a 0 cap)/\w'=w:=Any.slices_Compact_string_empty Tryz.lays194 a cap w
def Tryz.laysNm224_ren:Go.Shelf.Ren:=⟨fun|24=>232|n=>n,fun|24=>55|9=>9|3=>3|4=>4|0=>0|n=>n,fun|n=>n⟩
theorem Tryz.laysNm224:Go.Proofs.Lays2.n24 Tryz.prog Tryz.laysNm224_ren:={
 mixed:=by kernel_rfl
 f24:=Tryz.func232.trans (congrArg some (by kernel_rfl))
 t0:=Tryz.underlying0
 a0:=Tryz.isAgg0
 z0:=Tryz.sizeOf0
 v0:=Tryz.zeroValue0
 t3:=Tryz.underlying3
 a3:=Tryz.isAgg3
 z3:=Tryz.sizeOf3
 v3:=Tryz.zeroValue3
 t4:=Tryz.underlying4
 a4:=Tryz.isAgg4
 z4:=Tryz.sizeOf4
 v4:=Tryz.zeroValue4
 t9:=Tryz.underlying9
 a9:=Tryz.isAgg9
 z9:=Tryz.sizeOf9
 v9:=Tryz.zeroValue9
 t24:=Tryz.underlying55
 a24:=Tryz.isAgg55
 z24:=Tryz.sizeOf55
 v24:=Tryz.zeroValue55
 i9:=by kernel_rfl}
open Go.RowKit Go.Lib Go.Sort in
theorem Tryz.slices_Delete_string(blk off cap i j:Nat)(zs:List (List UInt8))(w:World)(hH:Holds encStr w blk off zs.toArray)(hcap:zs.length<=cap)(hm:cap<=9223372036854775807)(hij:i<=j)(hj:j<=zs.length):
  Calls Tryz.prog 232 #[.slice (some ⟨blk,off,none⟩) zs.length cap,.int .i64 i,.int .i64 j] w fun e w'=>e= .returned (.slice (some ⟨blk,off,none⟩) (zs.length - (j - i)) cap)/\ ∃q,w'=putRow encStr (Sort.ahead w q) blk off (zs.take i++zs.drop j++List.replicate (j - i) []).toArray:=Any.slices_Delete_string Tryz.laysNm224 blk off cap i j zs w hH hcap hm hij hj
open Go.RowKit Go.Sort in
theorem Tryz.slices_Sort_string_none(p:Option Addr)(cap:Nat)(w:World):
  Calls Tryz.prog 93 #[.slice p 0 cap] w fun e w'=>e= .returned (.tuple #[])/\w'=w:=Any.slices_Sort_string_none Tryz.lays190 p cap w
def Tryz.lays196_ren:Go.Shelf.Ren:=⟨fun|196=>262|259=>273|n=>n,fun|9=>9|4=>4|3=>3|5=>5|12=>12|119=>209|0=>0|46=>223|139=>369|138=>368|53=>169|n=>n,fun|3=>3|4=>4|n=>n⟩
theorem Tryz.lays196:Go.Proofs.Lays.n196 Tryz.prog Tryz.lays196_ren:={
 mixed:=by kernel_rfl
 f196:=Tryz.func262.trans (congrArg some (by kernel_rfl))
 f259:=Tryz.func273.trans (congrArg some (by kernel_rfl))
 t0:=Tryz.underlying0
 a0:=Tryz.isAgg0
 z0:=Tryz.sizeOf0
 v0:=Tryz.zeroValue0
 t3:=Tryz.underlying3
 a3:=Tryz.isAgg3
 z3:=Tryz.sizeOf3
 v3:=Tryz.zeroValue3
 t4:=Tryz.underlying4
 a4:=Tryz.isAgg4
 z4:=Tryz.sizeOf4
 v4:=Tryz.zeroValue4
 t5:=Tryz.underlying5
 a5:=Tryz.isAgg5
 z5:=Tryz.sizeOf5
 v5:=Tryz.zeroValue5
 t9:=Tryz.underlying9
 a9:=Tryz.isAgg9
 z9:=Tryz.sizeOf9
 v9:=Tryz.zeroValue9
 t12:=Tryz.underlying12
 a12:=Tryz.isAgg12
 z12:=Tryz.sizeOf12
 v12:=Tryz.zeroValue12
 t46:=Tryz.underlying223
 a46:=Tryz.isAgg223
 z46:=Tryz.sizeOf223
 v46:=Tryz.zeroValue223
 t53:=Tryz.underlying169
 a53:=Tryz.isAgg169
 z53:=Tryz.sizeOf169
 v53:=Tryz.zeroValue169
 t119:=Tryz.underlying209
 a119:=Tryz.isAgg209
 z119:=Tryz.sizeOf209
 t138:=Tryz.underlying368
 a138:=Tryz.isAgg368
 z138:=Tryz.sizeOf368
 v138:=Tryz.zeroValue368
 t139:=Tryz.underlying369
 a139:=Tryz.isAgg369
 z139:=Tryz.sizeOf369
 v139:=Tryz.zeroValue369
 g3:=by kernel_rfl
 g4:=by kernel_rfl}
def Tryz.sorted226_ren:Go.Shelf.Ren:=⟨fun|6=>226|8=>250|9=>93|11=>269|13=>124|12=>123|23=>166|24=>167|14=>157|15=>158|16=>159|17=>160|18=>161|19=>162|20=>163|21=>164|22=>165|25=>197|26=>198|27=>199|28=>200|29=>201|30=>202|31=>234|n=>n,fun|26=>9|28=>333|24=>55|0=>0|3=>3|37=>223|48=>262|50=>169|4=>4|40=>269|39=>268|45=>166|5=>5|9=>9|51=>311|55=>315|57=>341|58=>342|33=>118|n=>n,fun|n=>n⟩
theorem Tryz.sorted226:Go.Proofs.SlLaysZ.n6 Tryz.prog Tryz.sorted226_ren:={
 mixed:=by kernel_rfl
 f6:=⟨Tryz.f226.name,by decide,Tryz.func226.trans (congrArg some (by kernel_rfl))⟩
 f8:=⟨Tryz.f250.name,by decide,Tryz.func250.trans (congrArg some (by kernel_rfl))⟩
 f11:=⟨Tryz.f269.name,by decide,Tryz.func269.trans (congrArg some (by kernel_rfl))⟩
 t0:=Tryz.underlying0
 a0:=Tryz.isAgg0
 z0:=Tryz.sizeOf0
 v0:=Tryz.zeroValue0
 t24:=Tryz.underlying55
 a24:=Tryz.isAgg55
 z24:=Tryz.sizeOf55
 v24:=Tryz.zeroValue55
 t26:=Tryz.underlying9
 a26:=Tryz.isAgg9
 z26:=Tryz.sizeOf9
 v26:=Tryz.zeroValue9
 t28:=Tryz.underlying333
 a28:=Tryz.isAgg333
 z28:=Tryz.sizeOf333
 v28:=Tryz.zeroValue333
 i26:=by kernel_rfl}
end Go.Proofs
end
noncomputable section
set_option maxRecDepth 100000
namespace Go.Fl
open Go Go.Proofs Go.RowKit Go.Maps Go.Sort Go.Shelf
variable {P:Program}{ρ:Ren}
def w04(F:Fence)(n:Nat)(P:Program)(g:Nat)(lb:Array Value)(ss:List (List UInt8))(w:World):Prop:=
 ∀(l:Nat) (J:List (List UInt8)->World->Prop) (W:World),Below w.heap.size w W->AbidesFrom W.heap.size J->(∀pre W1,J pre W1->Below w.heap.size w W1)->
  (∀pre x W1,J pre W1->pre.length<ss.length->YieldAt F (n - 1) P l #[encStr x] W1 fun e W'=>e= .returned (.bool true)/\J (pre++[x]) W'/\KeepsWalks W1 W')->
  J [] W->CallsIn F n P g (#[.func (.yield l) #[] #[]]++lb) W fun e W'=>(∃v,e= .returned v)/\J ss W'
theorem z9l{W:World}{base j:Nat}{e:TypeId}{v:Value}{k:Nat}{xs:List Value}{o:Obj}(h:W.ownsRow base e 1 v k xs)(hj:W.heap[j]? =some o)(hno: ∀cur,o≠ .cells cur e (0,0))(o':Obj):(W.putObj j o').ownsRow base e 1 v k xs:=
 h.kept (grownBy_putObj_a W j o') (ownsRow_ne_a h hj hno)
set_option maxHeartbeats 2000000 in
theorem z6f(L:SlLaysZ.n11 P ρ)(F:Fence)(n:Nat)(hf:F.fn (ρ.f 11))(hro:F.round=none)(hn:2<=n)(g:Nat)(lb:Array Value)(hg:F.fn g)(eg: ∀args w,(callFunc g args).run P w= .ok (.enter g args) w)
  (ss:List (List UInt8))(hN:ss.length<=maxLen)(hNb:ss.length*16<=140737488355328)(w:World)(hseq:w04 F (n - 1) P g lb ss w):
  CallsIn F n P (ρ.f 11) #[.slice none 0 0,.func (.func g) #[] lb] w fun e w'=> ∃v,e= .returned v/\w'.ownsRow w.heap.size (ρ.t 26) 1 v ss.length (ss.map encStr)/\Below w.heap.size w w':=by
 have mixed:=L.mixed;have t0:=L.t0;have a0:=L.a0;have z0:=L.z0;have v0:=L.v0;have t24:=L.t24;have a24:=L.a24;have z24:=L.z24;have v24:=L.v24;have t26:=L.t26;have a26:=L.a26;have z26:=L.z26;have v26:=L.v26
 have u0:=run_underlying L.t0;have u24:=run_underlying L.t24;have u26:=run_underlying L.t26
 have apart:ρ.t 24≠ρ.t 26:=fun e=>by have h:=L.t24;rw[e,L.t26] at h;cases h
 obtain⟨_,_,body⟩:=L.f11
 refine callsIn_of_wp_marks body rfl hf ?_ hro
 simp only[SlBodyZ.n11_ntmps ρ,List.size_toArray,List.length_cons,List.length_nil,Nat.reduceAdd,Nat.reduceSub,Array.replicate_succ,Array.replicate_zero,List.push_toArray,List.append_toArray,List.nil_append,List.cons_append]
 gi_wp2
 refine wpIn_rangeFunc fun fn hfn=> ?_
 rw[hro]
 generalize hA:w.alloc (.cells #[.slice none 0 0] (ρ.t 24))=A
 have sA:A.heap.size=w.heap.size+1:=by rw[←hA];simp
 have bA:Below w.heap.size w A:=by rw[←hA];exact (Below.refl _ w).alloc (Nat.le_refl _) _
 have xA:A.heap[w.heap.size]? =some (.cells #[.slice none 0 0] (ρ.t 24) (0,0)):=by rw[←hA];exact World.alloc_heap_new w _
 generalize hrec:AnyZ.apRec ρ fn (.func (.func g) #[] lb) w.heap.size A.heap.size .ready none=rec
 generalize hB:(A.alloc (.deferred (some []))).alloc (.loop rec)=B
 have oldB: ∀k,k<A.heap.size->B.heap[k]? =A.heap[k]? :=fun k hk=>by rw[←hB];exact (Below.heap_alloc _ _ k (by simp;omega)).trans (Below.heap_alloc _ _ k hk)
 have bB:Below w.heap.size w B:=by rw[←hB];exact (bA.alloc bA.size _).alloc (by have:=bA.size;simp;omega) _
 have dB:B.heap[A.heap.size]? =some (.deferred (some [])):=by rw[←hB];exact (Below.heap_alloc _ _ _ (by simp)).trans (World.alloc_heap_new A _)
 have lB:B.heap[A.heap.size+1]? =some (.loop rec):=by rw[←hB];have:=World.alloc_heap_new (A.alloc (.deferred (some []))) (.loop rec);rwa [World.size_alloc] at this
 have start:AnyZ.ApAt ρ w fn (.func (.func g) #[] lb) w.heap.size (A.heap.size+1) A.heap.size [] B:=
  ⟨⟨_,(oldB _ (by omega)).trans xA,⟨rfl,.inl ⟨rfl,rfl⟩⟩,by simp⟩,by rw[hrec];exact lB,dB,bB⟩
 refine⟨A.heap.size+1,[{target:= .collected A.heap.size,args:= #[]}],B,{target:= .fn (.func g) lb,args:= #[.func (.yield (A.heap.size+1)) #[] #[]]},B,g,#[.func (.yield (A.heap.size+1)) #[] #[]]++lb,B,?_,?_,?_,?_,fun _=>(by omega),?_⟩
 ·rw[←hB,←hrec];exact run_enterLoop_outer _ _ _ _ _
 ·simp[resolve,go_sem]
 ·intro f' h';simp[Target.leads] at h';exact h'▸hg
 ·simp[invoke,go_sem,eg]
 refine (hseq _ (AnyZ.ApAt ρ w fn (.func (.func g) #[] lb) w.heap.size (A.heap.size+1) A.heap.size) B bB (AnyZ.ap_abides ρ _ _ _ _ _ _ _ bB.size) (fun _ _ h=>h.below)
  (fun pre x W h hl=>AnyZ.apYield {L with} F _ w fn hfn _ _ _ _ (by omega) (by omega) (by omega) (Nat.le_refl _) (by omega) ss.length hN hNb pre x W h hl) start).mono ?_
 rintro e C ⟨⟨_,rfl⟩,hC⟩
 obtain⟨v,hv,hrow,_⟩:=hC.box
 have hend:=run_endLoop (P:=P) hC.L (by simp[AnyZ.apRec])
 generalize hD:C.putObj (A.heap.size+1) (.loop {AnyZ.apRec ρ fn (.func (.func g) #[] lb) w.heap.size A.heap.size .ready none with state:= .exhausted})=D at hend
 have rowD:D.ownsRow w.heap.size (ρ.t 26) 1 v ss.length (ss.map encStr):=by rw[←hD];exact z9l hrow hC.L (fun _ h=>by cases h) _
 have boxD:D.heap[w.heap.size]? =some (.cells #[v] (ρ.t 24) (0,0)):=by rw[←hD];exact (World.putObj_heap_other (by omega)).trans hv
 have defD:D.heap[A.heap.size]? =some (.deferred (some [])):=by rw[←hD];exact (World.putObj_heap_other (by omega)).trans hC.K
 have belD:Below w.heap.size w D:=by rw[←hD];exact hC.below.grown (grownBy_putObj_a _ _ _) hC.below.size (fun k h=>by cases h;omega)
 obtain⟨cellD,markD⟩:=cell_of_box_a boxD
 clear hD
 refine⟨none,D,hend,?_⟩
 gi_wp2
 rw[←sA]
 refine⟨by simp,.inl ⟨_,_,rfl,run_takeDeferred defD,?_⟩⟩
 exact⟨_,results_tmp rfl _ _ _,v,rfl,z9l rowD defD (fun _ h=>by cases h) _,belD.grown (grownBy_putObj_a _ _ _) belD.size (fun k h=>by cases h;omega)⟩
end Go.Fl
end
noncomputable section
set_option maxRecDepth 100000
namespace Go.Proofs.YtjepffgpbidclaaGreatDoor
open Go Go.Proofs Go.RowKit Go.Fl Go.Maps Go.Sort Go.Shelf
attribute [local go_sem] Oper.semAt_some
set_option maxHeartbeats 2000000 in
theorem j42(n:Nat)(hn:1<=n)(w W:World)(l Bs b off cap:Nat)(zs:List (List UInt8))(hreach:zs.length<=140737488355328)(hBs:Bs<w.heap.size)(hb:b<w.heap.size)(J:List (List UInt8)->World->Prop)
  (hJ: ∀pre W1,J pre W1->Below w.heap.size w W1)(hc:w.cell? ⟨Bs,0,none⟩=some (.slice (some ⟨b,off,none⟩) zs.length cap))(hcs: ∀j,j<zs.length->w.cell? ⟨b,off+j,none⟩=some (encStr (zs[j]?.getD [])))
  (hY: ∀pre x W1,J pre W1->pre.length<zs.length->YieldAt Fence.wide (n - 1) Tryz.prog l #[encStr x] W1 fun e W'=>e= .returned (.bool true)/\J (pre++[x]) W'/\KeepsWalks W1 W')(h0:J [] W):
  CallsIn Fence.wide n Tryz.prog 251 #[.func (.yield l) #[] #[],.pointer (some ⟨Bs,0,none⟩)] W fun e W'=>(∃v,e= .returned v)/\J zs W':=by
 have hc0:=((hJ _ _ h0).cell (p:=⟨Bs,0,none⟩) hBs).trans hc
 refine callsIn_of_wp Tryz.func251 rfl trivial ?_ rfl
 simp only[Tryz.ntmps251,List.size_toArray,List.length_cons,List.length_nil,Nat.reduceAdd,Nat.reduceSub,Array.replicate_succ,Array.replicate_zero,List.push_toArray,List.append_toArray,List.nil_append,List.cons_append]
 gi_wp2
 gi_loopw [7] (fun i wr=> ∃k:Nat,k<=zs.length/\i= .int .i64 k/\J (zs.take k) wr) (fun i _=>zs.length - (intOf i).toNat)
 case atStart=>exact⟨0,Nat.zero_le _,rfl,h0⟩
 case round=>
  obtain⟨k,hk,rfl,hJk⟩:=hrel
  by_cases hlt:k<zs.length
  ·have hck:=((hJ _ _ hJk).cell (p:=⟨b,off+k,none⟩) hb).trans (hcs k hlt)
   obtain⟨fn,tmps,assign,body,hy,hR⟩:=hY _ zs[k] wr hJk (by rw[List.length_take];omega)
   gi_wp2
   refine hR.mono ?_
   rintro e W3 ⟨rfl,hJ3,_⟩
   gi_wp2
   go_roundw
   case rel=>exact⟨k+1,by omega,by simp,by rw[List.take_succ_eq_append_getElem hlt];exact hJ3⟩
   case measure=>simp[intOf];omega
  ·obtain rfl:k=zs.length:=by omega
   rw[List.take_length] at hJk
   gi_wp2
   go_end0
   exact⟨⟨_,rfl⟩,hJk⟩
set_option maxHeartbeats 2000000 in
theorem j43(n:Nat)(w W:World)(l Bs cap:Nat)(a:Option Addr)(hBs:Bs<w.heap.size)(J:List (List UInt8)->World->Prop)(hJ: ∀pre W1,J pre W1->Below w.heap.size w W1)(hc:w.cell? ⟨Bs,0,none⟩=some (.slice a 0 cap))(h0:J [] W):
  CallsIn Fence.wide n Tryz.prog 251 #[.func (.yield l) #[] #[],.pointer (some ⟨Bs,0,none⟩)] W fun e W'=>(∃v,e= .returned v)/\J [] W':=by
 have hc0:=((hJ _ _ h0).cell (p:=⟨Bs,0,none⟩) hBs).trans hc
 refine callsIn_of_wp Tryz.func251 rfl trivial ?_ rfl
 simp only[Tryz.ntmps251,List.size_toArray,List.length_cons,List.length_nil,Nat.reduceAdd,Nat.reduceSub,Array.replicate_succ,Array.replicate_zero,List.push_toArray,List.append_toArray,List.nil_append,List.cons_append]
 gi_wp2
 gi_loopw [7] (fun i wr=>i= .int .i64 0/\J [] wr) (fun _ _=>0)
 case atStart=>exact⟨rfl,h0⟩
 case round=>
  obtain⟨rfl,hJs⟩:=hrel
  gi_wp2
  go_end0
  exact⟨⟨_,rfl⟩,hJs⟩
theorem v2w{σ:Hv}{w:World}(Bs:Nat)(v:Value)(l:List ByteArray)(hV:View σ w)(hB:σ Bs=some (.cells #[v] 55 (0,0)))(hr:RSl 1 (REnc Qh) σ v l)(hs:Sml l.length):
  Calls Tryz.prog 269 #[.slice none 0 0,.func (.func 251) #[] #[.pointer (some ⟨Bs,0,none⟩)]] w fun e w1=> ∃v1,e= .returned v1/\Grow [] σ w σ w1/\((vec v1 9 1 l.length (l.flatMap Qh)).ok w1/\ ∀k,(vec v1 9 1 l.length (l.flatMap Qh)).foot=some k->w.heap.size<=k/\σ k=none):=by
 have hBw:=hV _ _ hB
 have hBl:=lt_of_block hBw
 have hBc:w.cell? ⟨Bs,0,none⟩=some v:=by simp[World.cell?,hBw]
 have hlen:(l.map (·.data.toList)).length=l.length:=List.length_map _
 have hgive:w04 Fence.wide 2 Tryz.prog 251 #[.pointer (some ⟨Bs,0,none⟩)] (l.map (·.data.toList)) w:=by
  intro lp J W _ _ hJB hY h0
  obtain⟨a,cap,rfl,h1,h2,hel⟩:=hr
  cases hl0:l with
  |nil=>
   subst hl0
   exact j43 2 w W lp Bs cap a hBl J hJB hBc h0
  |cons x l'=>
   obtain⟨ad,cs,rfl,_,hrow0,hcs0⟩:=hel 0 x (by rw[hl0];rfl)
   have cell0:=(hrow0.row hV) 0 _ (by rw[hcs0];rfl)
   obtain⟨ab,ao,asp⟩:=ad
   have hsp:asp=none:=by
    cases asp with
    |none=>rfl
    |some s=>
     have:=hrow0 0 (.string x) (by rw[hcs0];rfl)
     simp[Hv.cell,Addr.add] at this
     split at this<;>simp at this
   subst hsp
   have hbl:ab<w.heap.size:=by
    have:=hrow0 0 (.string x) (by rw[hcs0];rfl)
    simp only[Wm] at this
    unfold Hv.cell at this
    simp only at this
    cases hq:σ ab with
    |none=>rw[hq] at this;simp at this
    |some o=>exact lt_of_block (hV _ _ hq)
   rw[←hl0]
   have hcome:=j42 2 (by omega) w W lp Bs ab ao cap (l.map (·.data.toList)) (by rw[hlen];exact h2) hBl hbl J hJB (by rw[hlen];exact hBc) (fun j hj=>by
    rw[hlen] at hj
    obtain⟨y,hy⟩:=getq hj
    obtain⟨ad',cs',had,_,hrow,hcs⟩:=hel j y hy
    cases had
    have hc:=(hrow.row hV) 0 (.string y) (by rw[hcs];rfl)
    rw[Hb,Wm] at hc
    rw[List.getElem?_map,hy]
    simpa [encStr] using hc) hY h0
   exact hcome
 refine (callsIn_wide (n:=3)).1 ((z6f (ρ:=Tryz.sorted226_ren) {Tryz.sorted226 with} Fence.wide 3 trivial rfl (by omega) 251 _ trivial (enters_of Tryz.func251 (by kernel_rfl) rfl) (l.map (·.data.toList)) (by rw[hlen];exact (q0c hs (show 16<=32768 by omega)).2) (by rw[hlen];exact (q0c hs (by omega)).1) w hgive).mono ?_)
 rintro e w1 ⟨v1,rfl,hown,hbel⟩
 rw[hlen] at hown
 have hfl:(l.map (·.data.toList)).map encStr=l.flatMap Qh:=(Gc l).symm
 rw[hfl] at hown
 have hsame: ∀b,b<w.heap.size->w1.heap[b]? =w.heap[b]? :=fun b hb=>hbel.block b hb
 refine⟨v1,rfl,⟨⟨hbel.os,hbel.tape,hbel.output,hbel.size,fun k hk _=>hbel.block k hk⟩,fun b o hb=>(hbel.block b (lt_of_block (hV b o hb))).trans (hV b o hb),.refl _,fun _ _ _=>rfl⟩,?_,?_⟩
 ·exact⟨hown.1,hown.2.imp id fun ⟨g,cap,cur,e1,_,e3⟩=>⟨g,cap,cur,e1,Nat.zero_le _,e3⟩⟩
 ·intro k hk
  have hge:w.heap.size<=k:=(hown.lt k hk).1
  refine⟨hge,?_⟩
  cases hq:σ k with
  |none=>rfl
  |some o=>have:=lt_of_block (hV k o hq);omega
end Go.Proofs.YtjepffgpbidclaaGreatDoor
end
noncomputable section
set_option maxRecDepth 100000
namespace Go.Proofs.YtjepffgpbidclaaGreatDoor
open Go Go.Proofs Go.RowKit Go.Fl
set_option maxHeartbeats 2000000 in
theorem Bo{σ:Hv}{w:World}(s_p:(List ByteArray))(v1:Value){K:(List ByteArray)->Prop}(hV:View σ w)(hr1:RSl 1 (REnc Qh) σ v1 s_p)(hP:Q8 s_p K):
    Calls Tryz.prog 156 #[v1] w (fun e w1=> ∃(r1:(List ByteArray)) (v2:Value),e= .returned v2/\St ⟨w,σ,[]⟩ w1 σ [vec v2 9 1 r1.length ((r1).flatMap Qh)]/\Sml r1.length/\K r1):=by
 unfold Q8 at hP
 obtain⟨a1,cap1,rfl⟩:=hr1.shape
 refine enter Tryz.func156 rfl rfl rfl ?_
 have hS:=St.start hV
 refine Qu (Qv (v:=(.slice none 0 0)) rfl (wpList_nil (Qp (wp_seq (Qu (Q6 (v:=(.slice a1 s_p.length cap1)) rfl ?_))))))
 replace hP:=hP a1.isNone (RSl.isNil hr1)
 obtain⟨r1_,hn1⟩: ∃r:Bool,a1.isNone=r:=⟨_,rfl⟩
 rw[hn1] at hP
 refine w3u Tryz.underlying55 rfl hn1 (wpList_nil (Qp ?_))
 refine if_b rfl (fun ht1=> ?_) (fun ht1=> ?_)
 ·
  replace hP:=hP.1 ht1
  refine Qu (Qv (v:=(.slice none 0 0)) rfl (wpList_nil (Qp (wp_ret (Gt (ret1 rfl (show ev _ _ _=(.slice none 0 0) from rfl) ?_))))))
  have hS1:=hS.addNil 9 1
  exact⟨[],(.slice none 0 0),rfl,(St.back hS1 (Sub.refl _)),(by simp[Sml]),hP⟩
 ·
  replace hP:=hP.2 (by first|(rw[ht1];exact Bool.false_ne_true)|simp[ht1])
  refine wp_skip (Qp (Qu (z4l (cs:=[]) (e:=9) hS (fun _=>by kernel_rfl) ?_)))
  intro b1 w1 hS2
  refine Q6 (v:=(.slice a1 s_p.length cap1)) rfl ?_
  have hS3:=hS2.asVec (i:=0) (ms':=[vec (.slice (some ⟨b1,0,none⟩) 0 0) 9 1 0 []]) (size:=1) rfl rfl (by unfold maxLen;omega) rfl
  obtain⟨hsm1,hP⟩:=hP
  refine w90 (enc:=Qh) (l:=s_p) (Ms:=fun v3=>[vec v3 9 1 s_p.length ((s_p).flatMap Qh)]) (k':=s_p.length) (xs':=(s_p).flatMap Qh) Tryz.underlying55 Tryz.type9 rfl rfl (bytes:=16) rfl rfl (Nat.succ_pos _) hS3 rfl (q:=0) rfl rfl hr1 hS3.view q0b j9a hsm1 (by omega) (by first|rfl|exact List.length_append.symm|simp) (List.nil_append _) (fun _=>rfl) ?_
  intro v3 w2 ho1 hS4
  refine Qv (v:=v3) rfl (wpList_nil (Qp (wp_ret (ret1 rfl (show ev _ _ _=v3 from rfl) ?_))))
  exact⟨s_p,v3,rfl,(St.back hS4 (Sub.refl _)),hsm1,hP⟩
set_option maxHeartbeats 2000000 in
theorem Bp{σ:Hv}{w:World}(s_p:(List ByteArray))(v_p:ByteArray)(v1:Value){K:Int->Prop}(hV:View σ w)(hr1:RSl 1 (REnc Qh) σ v1 s_p)(hP:Q9 s_p v_p K):
    Calls Tryz.prog 180 #[v1,(.string v_p)] w (fun e w1=> ∃(r1:Int),e= .returned (.int .i64 r1)/\Grow [] σ w σ w1/\K r1):=by
 unfold Q9 at hP
 obtain⟨a1,cap1,rfl⟩:=hr1.shape
 refine enter Tryz.func180 rfl rfl rfl ?_
 have hS:=St.start hV
 refine Qu (Qv (v:=(.int .i64 (0:Int))) rfl (wpList_nil (Qp (wp_seq (Qu (Q6 (v:=(.slice a1 s_p.length cap1)) rfl (q4z rfl Tryz.underlying55 ?_)))))))
 have hlen1:=RSl.len63 hr1
 replace hP:=hP hlen1
 refine Q6 (v:=(.int .i64 (0:Int))) rfl (wpList_nil (Qp (wp_block ?_)))
 refine z9y (fun k_2 f z=> ∃(σ1:Hv) (g:Fr),f=(upd (upd (upd (upd g 0 (.slice a1 s_p.length cap1)) 1 (.string v_p)) 7 (.int .i64 ((s_p.length:Nat):Int))) 8 (.int .i64 ((k_2:Nat):Int)))/\St ⟨w,σ,[]⟩ z σ1 []/\Sub σ σ1) hP ⟨σ,_,(Zm rfl (Zm rfl (Zm rfl (Zm rfl rfl)))),hS,(Sub.refl _)⟩ ?_
 clear hP
 rintro k_2 Y1 hP f w1 ⟨σ1,g,rfl,hS1,hsub1⟩
 refine Qu (j80 (r:=(decide (((k_2:Nat):Int)<((s_p.length:Nat):Int)))) rfl rfl rfl (wpList_nil (Qp (wp_seq ?_))))
 refine if_d (((k_2:Nat):Int)<((s_p.length:Nat):Int)) rfl (fun ht1=> ?_) (fun ht1=> ?_)
 ·
  replace hP:=hP.1 ht1
  refine wp_skip (Qp (wp_seq (wp_block (Qu (Q6 (v:=(.int .i64 ((k_2:Nat):Int))) rfl (Qv (v:=(.int .i64 ((k_2:Nat):Int))) rfl (wpList_nil (Qp (Qu (Q6 (v:=(.string v_p)) rfl (Q6 (v:=(.slice a1 s_p.length cap1)) rfl (Q6 (v:=(.int .i64 ((k_2:Nat):Int))) rfl ?_))))))))))))
  obtain⟨x1_,hx1⟩:=getq (l:=s_p) (k:=k_2) (by have:=ht1;omega)
  replace hP:=hP x1_ hx1
  obtain⟨ad1,cs1,ha1,hl1,hr2,hR1,hlt1⟩:=RSl.at hr1 hx1
  cases hR1
  refine Gb (k:=k_2) (a':=(ad1.add (k_2*1))) (congrArg (fun z=>Value.slice z _ _) ha1) rfl rfl hlt1 Tryz.underlying55 Tryz.sizeOf9 rfl (q18 (v:=(.string x1_)) rfl Tryz.isAgg9 (hr2.cell (View.of hsub1 hS1.view) 0 rfl rfl) (w9t (r:=(decide (v_p=x1_))) rfl rfl rfl (wpList_nil (Qp ?_))))
  refine if_d (v_p=x1_) rfl (fun ht2=> ?_) (fun ht2=> ?_)
  ·
   replace hP:=hP.1 ht2
   refine Qu (Q6 (v:=(.int .i64 ((k_2:Nat):Int))) rfl (Qv (v:=(.int .i64 ((k_2:Nat):Int))) rfl (wpList_nil (Qp (wp_ret (z3w (Gt (Gt (z3w (Gt (ret1 rfl (show ev _ _ _=(.int .i64 ((k_2:Nat):Int)) from rfl) ?_)))))))))))
   exact⟨((k_2:Nat):Int),rfl,hS1.done.forget,hP⟩
  ·
   replace hP:=hP.2 ht2
   refine wp_skip (j7p (Qp (z17 (j7o (r:=((k_2+1:Nat):Int)) rfl rfl (nw (by omega) (by omega) (by have:=hlen1;omega)) (Q6 (v:=(.int .i64 ((k_2+1:Nat):Int))) rfl (wpList_nil (Qp ?_)))))))
   exact⟨k_2+1,_,rfl,hP,σ1,_,(Zm rfl (Zm rfl (Zm rfl (Zm rfl rfl)))),hS1,hsub1⟩
 ·
  replace hP:=hP.2 ht1
  refine wp_exit (q8v (q8v (z5b (Qp (Qu (Qv (v:=(.int .i64 (-1:Int))) rfl (wpList_nil (Qp (wp_ret (ret1 rfl (show ev _ _ _=(.int .i64 (-1:Int)) from rfl) ?_))))))))))
  exact⟨(-1:Int),rfl,hS1.done.forget,hP⟩
set_option maxHeartbeats 2000000 in
theorem Wd{σ:Hv}{w:World}(s_p:(List ByteArray))(v_p:ByteArray)(v1:Value){K:Bool->Prop}(hV:View σ w)(hr1:RSl 1 (REnc Qh) σ v1 s_p)(hP:Qx s_p v_p K):
    Calls Tryz.prog 142 #[v1,(.string v_p)] w (fun e w1=> ∃(r1:Bool),e= .returned (.bool (r1))/\Grow [] σ w σ w1/\K r1):=by
 unfold Qx at hP
 obtain⟨a1,cap1,rfl⟩:=hr1.shape
 refine enter Tryz.func142 rfl rfl rfl ?_
 have hS:=St.start hV
 refine Qu (Qv (v:=(.bool false)) rfl (wpList_nil (Qp (Qu (Q6 (v:=(.slice a1 s_p.length cap1)) rfl (Q6 (v:=(.string v_p)) rfl ?_))))))
 obtain⟨Y1,hK1,hc1⟩:=hP
 refine q3a (args:=[(.slice a1 s_p.length cap1),(.string v_p)]) rfl Tryz.call180 (Calls.mono (Bp s_p v_p (.slice a1 s_p.length cap1) hS.view hr1 hc1) ?_)
 rintro _ w1 ⟨r1_,rfl,hg1,hY1⟩
 refine⟨_,rfl,?_⟩
 have hS1:=hS.grow hg1
 replace hP:=hK1 r1_ hY1
 refine w9s (r:=(decide ((0:Int)<=r1_))) rfl rfl rfl (Qv (v:=(.bool (decide ((0:Int)<=r1_)))) rfl (wpList_nil (Qp (wp_ret (ret1 rfl (show ev _ _ _=(.bool (decide ((0:Int)<=r1_))) from rfl) ?_)))))
 exact⟨(decide ((0:Int)<=r1_)),rfl,hS1.done.forget,hP⟩
set_option maxHeartbeats 2000000 in
theorem w_graph_Order{σ:Hv}{w:World}(nodes_p:(List ByteArray))(edges_p:(List (ByteArray×ByteArray)))(v1:Value)(v2:Value){K:(List ByteArray)->Int->Prop}(hV:View σ w)(hr1:RSl 1 (REnc Qh) σ v1 nodes_p)(hr2:RSl 2 (REnc w91) σ v2 edges_p)(hP:P_graph_Order nodes_p edges_p K):
    Calls Tryz.prog 191 #[v1,v2] w (fun e w1=> ∃(r1:(List ByteArray)) (r2:Int) (v3:Value),e= .returned (.tuple #[v3,(.int .i64 r2)])/\St ⟨w,σ,[]⟩ w1 σ [vec v3 9 1 r1.length ((r1).flatMap Qh)]/\Sml r1.length/\K r1 r2):=by
 unfold P_graph_Order at hP
 obtain⟨a1,cap1,rfl⟩:=hr1.shape
 obtain⟨a2,cap2,rfl⟩:=hr2.shape
 refine enter Tryz.func191 rfl rfl rfl ?_
 have hS:=St.start hV
 refine Qu (Qv (v:=(.slice none 0 0)) rfl (Qv (v:=(.int .i64 (0:Int))) rfl (wpList_nil (Qp (Qu (Q6 (v:=(.slice a1 nodes_p.length cap1)) rfl (q3a (args:=[(.slice a1 nodes_p.length cap1)]) rfl Tryz.call227 ?_)))))))
 refine enter Tryz.func227 rfl rfl rfl ?_
 refine Qu (v1y (cs:=[(.slice a1 nodes_p.length cap1)]) hS rfl rfl ?_)
 intro b1 w1 hS1
 refine Qv (v:= .nilFunc) rfl (wpList_nil (Qp (Qu (z18 (la:=[]) (lb:=[(.pointer (some ⟨b1,0,none⟩))]) rfl rfl (Qv (v:=(.func (.func 251) #[] #[(.pointer (some ⟨b1,0,none⟩))])) rfl (wpList_nil (Qp (wp_ret (ret1 rfl (show ev _ _ _=(.func (.func 251) #[] #[(.pointer (some ⟨b1,0,none⟩))]) from rfl) ?_)))))))))
 refine⟨_,rfl,?_⟩
 refine q3a (args:=[(.func (.func 251) #[] #[(.pointer (some ⟨b1,0,none⟩))])]) rfl Tryz.call226 ?_
 refine enter Tryz.func226 rfl rfl rfl ?_
 refine Qu (Qv (v:=(.slice none 0 0)) rfl (wpList_nil (Qp (Qu (Q6 (v:=(.func (.func 251) #[] #[(.pointer (some ⟨b1,0,none⟩))])) rfl (q3a (args:=[(.func (.func 251) #[] #[(.pointer (some ⟨b1,0,none⟩))])]) rfl Tryz.call250 ?_))))))
 refine enter Tryz.func250 rfl rfl rfl ?_
 refine Qu (Qv (v:=(.slice none 0 0)) rfl (wpList_nil (Qp (Qu (Q6 (v:=(.func (.func 251) #[] #[(.pointer (some ⟨b1,0,none⟩))])) rfl ?_)))))
 obtain⟨σ1,hS2,hsub1,hfr1⟩:=hS1.freeze' (i:=0) rfl rfl
 have hB1:σ1 b1=some (.cells #[(.slice a1 nodes_p.length cap1)] 55 (0,0)):=(hfr1 _ rfl).trans (hS1.get (i:=0) rfl)
 obtain⟨hsm1,hP⟩:=hP
 refine q3a (args:=[(.slice none 0 0),(.func (.func 251) #[] #[(.pointer (some ⟨b1,0,none⟩))])]) rfl Tryz.call269 (Calls.mono (v2w b1 (.slice a1 nodes_p.length cap1) nodes_p hS2.view hB1 (RSl.menc hsub1 hr1) hsm1) ?_)
 rintro _ w2 ⟨v4,rfl,hg1,ho1⟩
 refine⟨_,rfl,?_⟩
 have hS3:=hS2.growAdd hg1 (o:=vec v4 9 1 nodes_p.length ((nodes_p).flatMap Qh)) ho1
 refine Qv (v:=v4) rfl (wpList_nil (Qp (wp_ret (ret1 rfl (show ev _ _ _=v4 from rfl) ?_))))
 refine⟨_,rfl,?_⟩
 refine Qv (v:=v4) rfl (wpList_nil (Qp (Qu (Q6 (v:=v4) rfl ?_))))
 refine q3a (args:=[v4]) rfl Tryz.call93 (Calls.mono (j54 Tryz.slices_Sort_string Tryz.slices_Sort_string_none hS3.view (hS3.get (i:=0) rfl) rfl (fun b hb=>hS3.off _ (List.mem_of_getElem? (i:=0) rfl) b hb) (by have:=hsm1;unfold Sml at this;omega)) ?_)
 rintro _ w3 ⟨rfl,hg2,ho2⟩
 refine⟨_,rfl,?_⟩
 have hS4:=hS3.growV (i:=0) (o':=vec v4 9 1 nodes_p.length ((srt nodes_p).flatMap Qh)) rfl hg2 rfl ho2 (ms':=[vec v4 9 1 nodes_p.length ((srt nodes_p).flatMap Qh)]) rfl
 have hS5:=hS4.re (ms':=[vec v4 9 1 ((srt nodes_p).length) ((srt nodes_p).flatMap Qh)]) (by simp only[Jc])
 refine wpList_nil (Qp (Qu (Q6 (v:=v4) rfl (Qv (v:=v4) rfl (wpList_nil (Qp (wp_ret (ret1 rfl (show ev _ _ _=v4 from rfl) ?_))))))))
 refine⟨_,rfl,?_⟩
 refine Qv (v:=v4) rfl (wpList_nil (Qp (wp_seq (Qu (Q6 (v:=v4) rfl ?_)))))
 obtain⟨σ2,hS6,hsub2,hr4⟩:=hS5.peek (i:=0) rfl q0b (show Sml (srt nodes_p).length by rw[Jc];exact hsm1)
 obtain⟨Y1,hK1,hc1⟩:=hP
 refine q3a (args:=[v4]) rfl Tryz.call156 (Calls.mono (Bo (srt nodes_p) v4 hS6.view hr4 hc1) ?_)
 rintro _ w4 ⟨r1_,v5,rfl,hg3,hl1,hY1⟩
 refine⟨_,rfl,?_⟩
 have hS7:=St.callM (ins:=[]) (rest:=[vec v4 9 1 ((srt nodes_p).length) ((srt nodes_p).flatMap Qh)]) (ms':=[vec v5 9 1 r1_.length ((r1_).flatMap Qh),vec v4 9 1 ((srt nodes_p).length) ((srt nodes_p).flatMap Qh)]) hS5 (St.back hg3 hsub2) rfl
 replace hP:=hK1 r1_ hY1
 obtain⟨hsm2,hP⟩:=hP
 refine q3a (args:=[v5]) rfl Tryz.call94 (Calls.mono (z5i Tryz.slices_Compact_string Tryz.slices_Compact_string_empty hS7.view (hS7.get (i:=0) rfl) rfl (fun b hb=>hS7.off _ (List.mem_of_getElem? (i:=0) rfl) b hb) (by have:=hl1;unfold Sml at this;omega)) ?_)
 rintro _ w5 ⟨v6,rfl,hf1,hg4,ho3⟩
 refine⟨_,rfl,?_⟩
 have ho4:=Gu ho3
 have hS8:=hS7.growV (i:=0) (o':=vec v6 9 1 ((cpt r1_).length) ((cpt r1_).flatMap Qh)) rfl hg4 hf1 ho3 (ms':=[vec v6 9 1 ((cpt r1_).length) ((cpt r1_).flatMap Qh),vec v4 9 1 ((srt nodes_p).length) ((srt nodes_p).flatMap Qh)]) rfl
 refine z0d hS8 rfl (i:=0) rfl Tryz.underlying55 ?_
 have hlen1:(cpt r1_).length<=9223372036854775807:=by have:=hsm2;unfold Sml at this;omega
 replace hP:=hP hlen1
 refine Q6 (v:=v4) rfl (z0d hS8 rfl (i:=1) rfl Tryz.underlying55 ?_)
 have hlen2:(srt nodes_p).length<=9223372036854775807:=by have:=(show Sml (srt nodes_p).length by rw[Jc];exact hsm1);unfold Sml at this;omega
 replace hP:=hP hlen2
 refine v1w (r:=(!decide ((((cpt r1_).length:Nat):Int)=(((srt nodes_p).length:Nat):Int)))) rfl rfl rfl (wpList_nil (Qp ?_))
 refine w9u ((((cpt r1_).length:Nat):Int)=(((srt nodes_p).length:Nat):Int)) rfl (fun ht1=> ?_) (fun ht1=> ?_)
 ·
  replace hP:=hP.2 ht1
  refine Qu (Qv (v:=(.slice none 0 0)) rfl (Qv (v:=(.int .i64 (10:Int))) rfl (wpList_nil (Qp (wp_ret (Gt (ret2 rfl (show ev _ _ _=(.slice none 0 0) from rfl) (show ev _ _ _=(.int .i64 (10:Int)) from rfl) ?_)))))))
  have hS9:=hS8.addNil 9 1
  exact⟨[],(10:Int),(.slice none 0 0),rfl,(St.back (hS9.keep 1 (ms':=[vec (.slice none 0 0) 9 1 0 []]) rfl) (Sub.refl _)),(by simp[Sml]),hP⟩
 ·
  replace hP:=hP.1 ht1
  refine wp_skip (Qp (Qu (j7t 9 1 Qh hS8 ?_)))
  intro b2 w6 hS10
  refine j4b (cs:=[(.map none)]) hS10 Tryz.zeroValue335 rfl ?_
  intro b3 w7 hS11
  refine j4a (T:=335) (vs:=[(.map (some b2))]) (cs':=[(.map (some b2))]) (ms':=(blk b3 335 [(.map (some b2))]::smap b2 (asl [])::vec v6 9 1 ((cpt r1_).length) ((cpt r1_).flatMap Qh)::vec v4 9 1 ((srt nodes_p).length) ((srt nodes_p).flatMap Qh)::Gz 9 1 Qh [])) (i:=0) hS11 rfl rfl rfl Tryz.sizeOf335 rfl (ones rfl) rfl (Nat.le_of_ble_eq_true rfl) rfl rfl ?_
  intro w8 hS12
  refine wpList_nil (Qp (wp_seq (Qu (Q6 (v:=(.slice a2 edges_p.length cap2)) rfl (q4z rfl Tryz.underlying278 ?_)))))
  have hlen3:=RSl.len63 hr2
  replace hP:=hP hlen3
  refine Q6 (v:=(.int .i64 (0:Int))) rfl (wpList_nil (Qp (wp_block ?_)))
  have hS13:=hS12.front 3 rfl (ms':=(vec v4 9 1 ((srt nodes_p).length) ((srt nodes_p).flatMap Qh)::blk b3 335 [(.map (some b2))]::smap b2 (asl [])::vec v6 9 1 ((cpt r1_).length) ((cpt r1_).flatMap Qh)::Gz 9 1 Qh [])) rfl
  have hS14:=hS13.front 3 rfl (ms':=(vec v6 9 1 ((cpt r1_).length) ((cpt r1_).flatMap Qh)::vec v4 9 1 ((srt nodes_p).length) ((srt nodes_p).flatMap Qh)::blk b3 335 [(.map (some b2))]::smap b2 (asl [])::Gz 9 1 Qh [])) rfl
  have hS15:=hS14.front 2 rfl (ms':=(blk b3 335 [(.map (some b2))]::vec v6 9 1 ((cpt r1_).length) ((cpt r1_).flatMap Qh)::vec v4 9 1 ((srt nodes_p).length) ((srt nodes_p).flatMap Qh)::smap b2 (asl [])::Gz 9 1 Qh [])) rfl
  have hS16:=hS15.front 3 rfl (ms':=(smap b2 (asl [])::blk b3 335 [(.map (some b2))]::vec v6 9 1 ((cpt r1_).length) ((cpt r1_).flatMap Qh)::vec v4 9 1 ((srt nodes_p).length) ((srt nodes_p).flatMap Qh)::Gz 9 1 Qh [])) rfl
  refine w3r (fun k_3 F_2 f z=> ∃(es2:EL ByteArray) (σ3:Hv) (g:Fr),f=(upd (upd (upd (upd (upd g 6 v4) 7 (.pointer (some ⟨b3,0,none⟩))) 24 (.slice a2 edges_p.length cap2)) 25 (.int .i64 ((edges_p.length:Nat):Int))) 26 (.int .i64 ((k_3:Nat):Int)))/\St ⟨w,σ,[]⟩ z σ3 (smap b2 (asl es2)::blk b3 335 [(.map (some b2))]::vec v6 9 1 ((cpt r1_).length) ((cpt r1_).flatMap Qh)::vec v4 9 1 ((srt nodes_p).length) ((srt nodes_p).flatMap Qh)::Gz 9 1 Qh es2)/\Sub σ1 σ3/\ELF es2 F_2) hP ⟨[],σ1,_,(Zm rfl (Zm rfl (Zm rfl (Zm rfl (Zm rfl rfl))))),hS16,(Sub.refl _),ELF.nil⟩ ?_
  clear hP
  rintro k_3 F_2 Y2 hP f w9 ⟨es2,σ3,g,rfl,hS17,hsub3,hF2⟩
  refine Qu (j80 (r:=(decide (((k_3:Nat):Int)<((edges_p.length:Nat):Int)))) rfl rfl rfl (wpList_nil (Qp (wp_seq ?_))))
  refine if_d (((k_3:Nat):Int)<((edges_p.length:Nat):Int)) rfl (fun ht2=> ?_) (fun ht2=> ?_)
  ·
   replace hP:=hP.1 ht2
   refine wp_skip (Qp (wp_seq (wp_block (Qu ?_))))
   obtain⟨x1_,hx1⟩:=getq (l:=edges_p) (k:=k_3) (by have:=ht2;omega)
   replace hP:=hP x1_ hx1
   obtain⟨ad1,cs1,ha1,hl2,hr6,hR1,hlt1⟩:=RSl.at hr2 hx1
   cases hR1
   refine Gb (k:=k_3) (a':=(ad1.add (k_3*2))) (congrArg (fun z=>Value.slice z _ _) ha1) rfl rfl hlt1 Tryz.underlying278 Tryz.sizeOf297 rfl (w6v (cs:=[(.string x1_.1),(.string x1_.2)]) rfl Tryz.isAgg297 Tryz.sizeOf297 rfl (hr6.row (View.of (Sub.trans hsub1 hsub3) hS17.view)) (j4b (cs:=[(.string (⟨#[]⟩:ByteArray)),(.string (⟨#[]⟩:ByteArray))]) hS17 Tryz.zeroValue297 rfl ?_))
   intro b4 w10 hS18
   refine j4a (T:=297) (vs:=[(.string x1_.1),(.string x1_.2)]) (cs':=[(.string x1_.1),(.string x1_.2)]) (ms':=(blk b4 297 [(.string x1_.1),(.string x1_.2)]::smap b2 (asl es2)::blk b3 335 [(.map (some b2))]::vec v6 9 1 ((cpt r1_).length) ((cpt r1_).flatMap Qh)::vec v4 9 1 ((srt nodes_p).length) ((srt nodes_p).flatMap Qh)::Gz 9 1 Qh es2)) (i:=0) hS18 rfl rfl rfl Tryz.sizeOf297 rfl (ones rfl) rfl (Nat.le_of_ble_eq_true rfl) rfl rfl ?_
   intro w11 hS19
   refine wpList_nil (Qp (wp_seq (Qu (Q6 (v:=v4) rfl (z48 (a':=⟨b4,0,none⟩) rfl Tryz.underlying297 rfl Tryz.sizeOf9 rfl (q18 (v:=(.string x1_.1)) rfl Tryz.isAgg9 (hS19.cell (i:=0) rfl rfl) ?_))))))
   obtain⟨σ4,hS20,hsub4,hr7⟩:=hS19.peek (i:=4) rfl q0b (show Sml (srt nodes_p).length by rw[Jc];exact hsm1)
   obtain⟨Y3,hK2,hc2⟩:=hP
   refine q3a (args:=[v4,(.string x1_.1)]) rfl Tryz.call142 (Calls.mono (Wd (srt nodes_p) x1_.1 v4 hS20.view hr7 hc2) ?_)
   rintro _ w12 ⟨r2_,rfl,hg5,hY2⟩
   refine⟨_,rfl,?_⟩
   have hg5b:=hg5.back hsub4
   have hS21:=hS19.grow hg5b
   replace hP:=hK2 r2_ hY2
   refine w3l (r:=(!r2_)) rfl rfl ?_
   rcases Bool.eq_false_or_eq_true (r2_) with hb1|hb1
   ·
    replace hP:=hP.1 hb1
    refine Q6 (v:=(.bool false)) (congrArg Value.bool (congrArg Bool.not hb1)) (o_on rfl rfl (Q6 (v:=v4) rfl (o_on rfl rfl (z48 (a':=⟨b4,1,none⟩) rfl Tryz.underlying297 rfl Tryz.sizeOf9 rfl (o_on rfl rfl (q18 (v:=(.string x1_.2)) rfl Tryz.isAgg9 (hS21.cell (i:=0) rfl rfl) (o_on rfl rfl ?_)))))))
    obtain⟨σ5,hS22,hsub5,hr8⟩:=hS21.peek (i:=4) rfl q0b (show Sml (srt nodes_p).length by rw[Jc];exact hsm1)
    obtain⟨Y4,hK3,hc3⟩:=hP
    refine q3a (args:=[v4,(.string x1_.2)]) rfl Tryz.call142 (Calls.mono (Wd (srt nodes_p) x1_.2 v4 hS22.view hr8 hc3) ?_)
    rintro _ w13 ⟨r3_,rfl,hg6,hY3⟩
    refine⟨_,rfl,?_⟩
    have hg6b:=hg6.back hsub5
    have hS23:=hS21.grow hg6b
    replace hP:=hK3 r3_ hY3
    refine o_on rfl rfl (w3l (r:=(!r3_)) rfl rfl (w3j (v:=(.bool (!r3_))) rfl rfl (wpList_nil (Qp ?_))))
    refine w9v rfl (fun ht3=> ?_) (fun ht3=> ?_)
    ·
     replace hP:=hP.2 (by first|(rw[ht3];exact Bool.false_ne_true)|simp[ht3])
     refine Qu (Qv (v:=(.slice none 0 0)) rfl (Qv (v:=(.int .i64 (11:Int))) rfl (wpList_nil (Qp (wp_ret (Gt (z3w (Gt (Gt (z3w (Gt (ret2 rfl (show ev _ _ _=(.slice none 0 0) from rfl) (show ev _ _ _=(.int .i64 (11:Int)) from rfl) ?_))))))))))))
     have hS24:=hS23.addNil 9 1
     exact⟨[],(11:Int),(.slice none 0 0),rfl,(St.back (hS24.keep 1 (ms':=[vec (.slice none 0 0) 9 1 0 []]) rfl) (Sub.refl _)),(by simp[Sml]),hP⟩
    ·
     replace hP:=hP.1 ht3
     refine wp_skip (Qp (dr (fun z=>St ⟨w,σ,[]⟩ z σ3 [blk b4 297 [(.string x1_.1),(.string x1_.2)],blk b3 335 [(.map (some b2))],vec v6 9 1 ((cpt r1_).length) ((cpt r1_).flatMap Qh),vec v4 9 1 ((srt nodes_p).length) ((srt nodes_p).flatMap Qh)]) (by kernel_rfl) rfl ?_))
     have hS25:=hS23.drew
     refine dt 0 1 (v:=(.map (some b2))) (by kernel_rfl) rfl rfl (fun _ _ _ h=>h) (hS25.sublist (.cons_cons _ (.cons _ (.cons_cons _ (.cons_cons _ (.cons_cons _ (List.nil_sublist _))))))) (fun _ hJ _ hK=>q18 (v:=(.map (some b2))) rfl Tryz.isAgg335 (hJ.cell (i:=1) rfl rfl) ⟨rfl,hK⟩) (dt 1 3 (v:=(.pointer (some ⟨b4,0,none⟩))) (by kernel_rfl) rfl rfl (fun _ _ _ h=>h) (hS25.sublist (.cons_cons _ (.cons _ (.cons_cons _ (.cons_cons _ (.cons_cons _ (List.nil_sublist _))))))) (fun _ _ _ hK=>z48 (a':=⟨b4,0,none⟩) rfl Tryz.underlying297 rfl Tryz.sizeOf9 rfl ⟨rfl,hK⟩) (dt 2 7 (v:=(.string x1_.1)) (by kernel_rfl) rfl rfl (fun _ _ _ h=>h) (hS25.sublist (.cons_cons _ (.cons _ (.cons_cons _ (.cons_cons _ (.cons_cons _ (List.nil_sublist _))))))) (fun _ hJ _ hK=>q18 (v:=(.string x1_.1)) rfl Tryz.isAgg9 (hJ.cell (i:=0) rfl rfl) ⟨rfl,hK⟩) (dt 3 15 (v:=(.map (some b2))) (by kernel_rfl) rfl rfl (fun _ _ _ h=>h) (hS25.sublist (.cons_cons _ (.cons _ (.cons_cons _ (.cons_cons _ (.cons_cons _ (List.nil_sublist _))))))) (fun _ hJ _ hK=>q18 (v:=(.map (some b2))) rfl Tryz.isAgg335 (hJ.cell (i:=1) rfl rfl) ⟨rfl,hK⟩) (dt 4 31 (v:=(.pointer (some ⟨b4,0,none⟩))) (by kernel_rfl) rfl rfl (fun _ _ _ h=>h) (hS25.sublist (.cons_cons _ (.cons _ (.cons_cons _ (.cons_cons _ (.cons_cons _ (List.nil_sublist _))))))) (fun _ _ _ hK=>z48 (a':=⟨b4,0,none⟩) rfl Tryz.underlying297 rfl Tryz.sizeOf9 rfl ⟨rfl,hK⟩) (dt 5 63 (v:=(.string x1_.1)) (by kernel_rfl) rfl rfl (fun _ _ _ h=>h) (hS25.sublist (.cons_cons _ (.cons _ (.cons_cons _ (.cons_cons _ (.cons_cons _ (List.nil_sublist _))))))) (fun _ hJ _ hK=>q18 (v:=(.string x1_.1)) rfl Tryz.isAgg9 (hJ.cell (i:=0) rfl rfl) ⟨rfl,hK⟩) (dt 7 191 (v:=(.pointer (some ⟨b4,1,none⟩))) (by kernel_rfl) rfl rfl (fun _ _ _ h=>h) (hS25.sublist (.cons_cons _ (.cons _ (.cons_cons _ (.cons_cons _ (.cons_cons _ (List.nil_sublist _))))))) (fun _ _ _ hK=>z48 (a':=⟨b4,1,none⟩) rfl Tryz.underlying297 rfl Tryz.sizeOf9 rfl ⟨rfl,hK⟩) (dt 8 447 (v:=(.string x1_.2)) (by kernel_rfl) rfl rfl (fun _ _ _ h=>h) (hS25.sublist (.cons_cons _ (.cons _ (.cons_cons _ (.cons_cons _ (.cons_cons _ (List.nil_sublist _))))))) (fun _ hJ _ hK=>q18 (v:=(.string x1_.2)) rfl Tryz.isAgg9 (hJ.cell (i:=0) rfl rfl) ⟨rfl,hK⟩) ?_)))))))
     refine d2 6 9 511 959 (by kernel_rfl) rfl rfl rfl rfl ?_ ?_
     ·
      obtain⟨v7,hv1⟩: ∃v,(asl es2 x1_.1).getD (.slice none 0 0)=v:=⟨_,rfl⟩
      refine j89 (i:=1) (v:=v7) hS25 rfl rfl rfl Tryz.underlying335 Tryz.underlying9 Tryz.zeroValue55 hv1 (wpList_nil ?_)
      refine⟨rfl,(hS25.sublist (.cons_cons _ (.cons _ (.cons_cons _ (.cons_cons _ (.cons_cons _ (List.nil_sublist _))))))),?_⟩
      refine d1 9 1023 (by kernel_rfl) rfl (z4l (cs:=[(.string x1_.2)]) (e:=9) hS25 (fun _=>by kernel_rfl) ?_)
      intro b5 w14 hS26
      refine wpList_nil ?_
      refine⟨rfl,(hS26.sublist (.cons _ (.cons_cons _ (.cons _ (.cons_cons _ (.cons_cons _ (.cons_cons _ (List.nil_sublist _)))))))),?_⟩
      refine d1 10 2047 (by kernel_rfl) rfl ?_
      obtain⟨es3,hS27,hL1,hl3⟩:=St.borrow (ms:=[blk b5 9 [(.string x1_.2)],blk b4 297 [(.string x1_.1),(.string x1_.2)],smap b2 (asl es2),blk b3 335 [(.map (some b2))],vec v6 9 1 ((cpt r1_).length) ((cpt r1_).flatMap Qh),vec v4 9 1 ((srt nodes_p).length) ((srt nodes_p).flatMap Qh)]) hS26 hF2 x1_.1 hv1
      obtain⟨hsm3,hP⟩:=hP
      refine w63 (Ms:=fun v8=>(vec v8 9 1 ((((F_2 x1_.1).getD [])++[x1_.2]).length) ((((F_2 x1_.1).getD [])++[x1_.2]).flatMap Qh)::blk b5 9 [(.string x1_.2)]::blk b4 297 [(.string x1_.1),(.string x1_.2)]::smap b2 (asl es2)::blk b3 335 [(.map (some b2))]::vec v6 9 1 ((cpt r1_).length) ((cpt r1_).flatMap Qh)::vec v4 9 1 ((srt nodes_p).length) ((srt nodes_p).flatMap Qh)::Gz 9 1 Qh es3)) (k':=(((F_2 x1_.1).getD [])++[x1_.2]).length) (xs':=(((F_2 x1_.1).getD [])++[x1_.2]).flatMap Qh) Tryz.underlying55 Tryz.type9 rfl rfl (bytes:=16) rfl rfl (Nat.succ_pos _) hS27 rfl (q:=0) rfl rfl rfl (q3t (hS27.get (i:=1) rfl)) (ones rfl) hsm3 (by omega) (by first|rfl|exact List.length_append.symm|simp) (by simp[Qh]) (fun _=>rfl) ?_
      intro v8 w15 ho5 hS28
      have hS29:=hS28.drop 1 (ms':=(vec v8 9 1 ((((F_2 x1_.1).getD [])++[x1_.2]).length) ((((F_2 x1_.1).getD [])++[x1_.2]).flatMap Qh)::blk b4 297 [(.string x1_.1),(.string x1_.2)]::smap b2 (asl es2)::blk b3 335 [(.map (some b2))]::vec v6 9 1 ((cpt r1_).length) ((cpt r1_).flatMap Qh)::vec v4 9 1 ((srt nodes_p).length) ((srt nodes_p).flatMap Qh)::Gz 9 1 Qh es3)) rfl
      refine wpList_nil ?_
      refine⟨rfl,(hS29.sublist (.cons _ (.cons_cons _ (.cons _ (.cons_cons _ (.cons_cons _ (.cons_cons _ (List.nil_sublist _)))))))),?_⟩
      refine d1 11 4095 (by kernel_rfl) rfl (w60 (v:=v8) (i:=2) (ms':=(vec v8 9 1 ((((F_2 x1_.1).getD [])++[x1_.2]).length) ((((F_2 x1_.1).getD [])++[x1_.2]).flatMap Qh)::blk b4 297 [(.string x1_.1),(.string x1_.2)]::smap b2 (fun k'=>if k'=x1_.1 then some v8 else asl es2 k')::blk b3 335 [(.map (some b2))]::vec v6 9 1 ((cpt r1_).length) ((cpt r1_).flatMap Qh)::vec v4 9 1 ((srt nodes_p).length) ((srt nodes_p).flatMap Qh)::Gz 9 1 Qh es3)) hS29 rfl rfl rfl rfl Tryz.underlying335 Tryz.underlying9 rfl ?_)
      intro w16 hS30
      have hS32:=St.giveback (ms:=[blk b4 297 [(.string x1_.1),(.string x1_.2)],smap b2 (fun k'=>if k'=x1_.1 then some v8 else asl es2 k'),blk b3 335 [(.map (some b2))],vec v6 9 1 ((cpt r1_).length) ((cpt r1_).flatMap Qh),vec v4 9 1 ((srt nodes_p).length) ((srt nodes_p).flatMap Qh)]) (ms':=[blk b4 297 [(.string x1_.1),(.string x1_.2)],smap b2 (asl ((x1_.1,v8,((F_2 x1_.1).getD [])++[x1_.2])::es3)),blk b3 335 [(.map (some b2))],vec v6 9 1 ((cpt r1_).length) ((cpt r1_).flatMap Qh),vec v4 9 1 ((srt nodes_p).length) ((srt nodes_p).flatMap Qh)]) (i:=1) hS30 hL1 rfl rfl
      have hF3:=ELF.put (v:=v8) hF2 hL1 hsm3
      refine wpList_nil ?_
      refine⟨rfl,(hS32.sublist (.cons_cons _ (.cons _ (.cons_cons _ (.cons_cons _ (.cons_cons _ (List.nil_sublist _))))))),z4m (J':=fun z=>St ⟨w,σ,[]⟩ z σ3 (blk b4 297 [(.string x1_.1),(.string x1_.2)]::smap b2 (asl ((x1_.1,v8,((F_2 x1_.1).getD [])++[x1_.2])::es3))::blk b3 335 [(.map (some b2))]::vec v6 9 1 ((cpt r1_).length) ((cpt r1_).flatMap Qh)::vec v4 9 1 ((srt nodes_p).length) ((srt nodes_p).flatMap Qh)::Gz 9 1 Qh ((x1_.1,v8,((F_2 x1_.1).getD [])++[x1_.2])::es3))) (fun w h=>h.sublist (.cons_cons _ (.cons _ (.cons_cons _ (.cons_cons _ (.cons_cons _ (List.nil_sublist _))))))) _ _ _ _ ?_⟩
      refine dz (by kernel_rfl) (j7p (Qp (z17 (j7o (r:=((k_3+1:Nat):Int)) rfl rfl (nw (by omega) (by omega) (by have:=hlen3;omega)) (Q6 (v:=(.int .i64 ((k_3+1:Nat):Int))) rfl (wpList_nil (Qp ?_)))))))
      exact⟨k_3+1,(put F_2 x1_.1 (((F_2 x1_.1).getD [])++[x1_.2])),_,rfl,hP,((x1_.1,v8,((F_2 x1_.1).getD [])++[x1_.2])::es3),σ3,_,(Zm rfl (Zm rfl (Zm rfl (Zm rfl (Zm rfl rfl))))),(hS32.sublist (ms':=(smap b2 (asl ((x1_.1,v8,((F_2 x1_.1).getD [])++[x1_.2])::es3))::blk b3 335 [(.map (some b2))]::vec v6 9 1 ((cpt r1_).length) ((cpt r1_).flatMap Qh)::vec v4 9 1 ((srt nodes_p).length) ((srt nodes_p).flatMap Qh)::Gz 9 1 Qh ((x1_.1,v8,((F_2 x1_.1).getD [])++[x1_.2])::es3))) (.cons _ (List.Sublist.refl _))),hsub3,hF3⟩
     ·
      refine z4l (cs:=[(.string x1_.2)]) (e:=9) hS25 (fun _=>by kernel_rfl) ?_
      intro b5 w14 hS26
      refine wpList_nil ?_
      refine⟨rfl,(hS26.sublist (.cons _ (.cons_cons _ (.cons _ (.cons_cons _ (.cons_cons _ (.cons_cons _ (List.nil_sublist _)))))))),?_⟩
      refine d1 6 1023 (by kernel_rfl) rfl ?_
      obtain⟨v7,hv1⟩: ∃v,(asl es2 x1_.1).getD (.slice none 0 0)=v:=⟨_,rfl⟩
      refine j89 (i:=2) (v:=v7) hS26 rfl rfl rfl Tryz.underlying335 Tryz.underlying9 Tryz.zeroValue55 hv1 (wpList_nil ?_)
      refine⟨rfl,(hS26.sublist (.cons _ (.cons_cons _ (.cons _ (.cons_cons _ (.cons_cons _ (.cons_cons _ (List.nil_sublist _)))))))),?_⟩
      refine d1 10 2047 (by kernel_rfl) rfl ?_
      obtain⟨es3,hS27,hL1,hl3⟩:=St.borrow (ms:=[blk b5 9 [(.string x1_.2)],blk b4 297 [(.string x1_.1),(.string x1_.2)],smap b2 (asl es2),blk b3 335 [(.map (some b2))],vec v6 9 1 ((cpt r1_).length) ((cpt r1_).flatMap Qh),vec v4 9 1 ((srt nodes_p).length) ((srt nodes_p).flatMap Qh)]) hS26 hF2 x1_.1 hv1
      obtain⟨hsm3,hP⟩:=hP
      refine w63 (Ms:=fun v8=>(vec v8 9 1 ((((F_2 x1_.1).getD [])++[x1_.2]).length) ((((F_2 x1_.1).getD [])++[x1_.2]).flatMap Qh)::blk b5 9 [(.string x1_.2)]::blk b4 297 [(.string x1_.1),(.string x1_.2)]::smap b2 (asl es2)::blk b3 335 [(.map (some b2))]::vec v6 9 1 ((cpt r1_).length) ((cpt r1_).flatMap Qh)::vec v4 9 1 ((srt nodes_p).length) ((srt nodes_p).flatMap Qh)::Gz 9 1 Qh es3)) (k':=(((F_2 x1_.1).getD [])++[x1_.2]).length) (xs':=(((F_2 x1_.1).getD [])++[x1_.2]).flatMap Qh) Tryz.underlying55 Tryz.type9 rfl rfl (bytes:=16) rfl rfl (Nat.succ_pos _) hS27 rfl (q:=0) rfl rfl rfl (q3t (hS27.get (i:=1) rfl)) (ones rfl) hsm3 (by omega) (by first|rfl|exact List.length_append.symm|simp) (by simp[Qh]) (fun _=>rfl) ?_
      intro v8 w15 ho5 hS28
      have hS29:=hS28.drop 1 (ms':=(vec v8 9 1 ((((F_2 x1_.1).getD [])++[x1_.2]).length) ((((F_2 x1_.1).getD [])++[x1_.2]).flatMap Qh)::blk b4 297 [(.string x1_.1),(.string x1_.2)]::smap b2 (asl es2)::blk b3 335 [(.map (some b2))]::vec v6 9 1 ((cpt r1_).length) ((cpt r1_).flatMap Qh)::vec v4 9 1 ((srt nodes_p).length) ((srt nodes_p).flatMap Qh)::Gz 9 1 Qh es3)) rfl
      refine wpList_nil ?_
      refine⟨rfl,(hS29.sublist (.cons _ (.cons_cons _ (.cons _ (.cons_cons _ (.cons_cons _ (.cons_cons _ (List.nil_sublist _)))))))),?_⟩
      refine d1 11 4095 (by kernel_rfl) rfl (w60 (v:=v8) (i:=2) (ms':=(vec v8 9 1 ((((F_2 x1_.1).getD [])++[x1_.2]).length) ((((F_2 x1_.1).getD [])++[x1_.2]).flatMap Qh)::blk b4 297 [(.string x1_.1),(.string x1_.2)]::smap b2 (fun k'=>if k'=x1_.1 then some v8 else asl es2 k')::blk b3 335 [(.map (some b2))]::vec v6 9 1 ((cpt r1_).length) ((cpt r1_).flatMap Qh)::vec v4 9 1 ((srt nodes_p).length) ((srt nodes_p).flatMap Qh)::Gz 9 1 Qh es3)) hS29 rfl rfl rfl rfl Tryz.underlying335 Tryz.underlying9 rfl ?_)
      intro w16 hS30
      have hS32:=St.giveback (ms:=[blk b4 297 [(.string x1_.1),(.string x1_.2)],smap b2 (fun k'=>if k'=x1_.1 then some v8 else asl es2 k'),blk b3 335 [(.map (some b2))],vec v6 9 1 ((cpt r1_).length) ((cpt r1_).flatMap Qh),vec v4 9 1 ((srt nodes_p).length) ((srt nodes_p).flatMap Qh)]) (ms':=[blk b4 297 [(.string x1_.1),(.string x1_.2)],smap b2 (asl ((x1_.1,v8,((F_2 x1_.1).getD [])++[x1_.2])::es3)),blk b3 335 [(.map (some b2))],vec v6 9 1 ((cpt r1_).length) ((cpt r1_).flatMap Qh),vec v4 9 1 ((srt nodes_p).length) ((srt nodes_p).flatMap Qh)]) (i:=1) hS30 hL1 rfl rfl
      have hF3:=ELF.put (v:=v8) hF2 hL1 hsm3
      refine wpList_nil ?_
      refine⟨rfl,(hS32.sublist (.cons_cons _ (.cons _ (.cons_cons _ (.cons_cons _ (.cons_cons _ (List.nil_sublist _))))))),z4m (J':=fun z=>St ⟨w,σ,[]⟩ z σ3 (blk b4 297 [(.string x1_.1),(.string x1_.2)]::smap b2 (asl ((x1_.1,v8,((F_2 x1_.1).getD [])++[x1_.2])::es3))::blk b3 335 [(.map (some b2))]::vec v6 9 1 ((cpt r1_).length) ((cpt r1_).flatMap Qh)::vec v4 9 1 ((srt nodes_p).length) ((srt nodes_p).flatMap Qh)::Gz 9 1 Qh ((x1_.1,v8,((F_2 x1_.1).getD [])++[x1_.2])::es3))) (fun w h=>h.sublist (.cons_cons _ (.cons _ (.cons_cons _ (.cons_cons _ (.cons_cons _ (List.nil_sublist _))))))) _ _ _ _ ?_⟩
      refine dz (by kernel_rfl) (j7p (Qp (z17 (j7o (r:=((k_3+1:Nat):Int)) rfl rfl (nw (by omega) (by omega) (by have:=hlen3;omega)) (Q6 (v:=(.int .i64 ((k_3+1:Nat):Int))) rfl (wpList_nil (Qp ?_)))))))
      exact⟨k_3+1,(put F_2 x1_.1 (((F_2 x1_.1).getD [])++[x1_.2])),_,rfl,hP,((x1_.1,v8,((F_2 x1_.1).getD [])++[x1_.2])::es3),σ3,_,(Zm rfl (Zm rfl (Zm rfl (Zm rfl (Zm rfl rfl))))),(hS32.sublist (ms':=(smap b2 (asl ((x1_.1,v8,((F_2 x1_.1).getD [])++[x1_.2])::es3))::blk b3 335 [(.map (some b2))]::vec v6 9 1 ((cpt r1_).length) ((cpt r1_).flatMap Qh)::vec v4 9 1 ((srt nodes_p).length) ((srt nodes_p).flatMap Qh)::Gz 9 1 Qh ((x1_.1,v8,((F_2 x1_.1).getD [])++[x1_.2])::es3))) (.cons _ (List.Sublist.refl _))),hsub3,hF3⟩
   ·
    replace hP:=hP.2 (by first|(rw[hb1];exact Bool.false_ne_true)|simp[hb1])
    refine Q6 (v:=(.bool true)) (congrArg Value.bool (congrArg Bool.not hb1)) (j8z rfl rfl (j8z rfl rfl (j8z rfl rfl (j8z rfl rfl (j8z rfl rfl (w3i (v:=(.bool true)) rfl rfl (wpList_nil (Qp (if_t rfl (Qu (Qv (v:=(.slice none 0 0)) rfl (Qv (v:=(.int .i64 (11:Int))) rfl (wpList_nil (Qp (wp_ret (Gt (z3w (Gt (Gt (z3w (Gt (ret2 rfl (show ev _ _ _=(.slice none 0 0) from rfl) (show ev _ _ _=(.int .i64 (11:Int)) from rfl) ?_))))))))))))))))))))))
    have hS33:=hS21.addNil 9 1
    exact⟨[],(11:Int),(.slice none 0 0),rfl,(St.back (hS33.keep 1 (ms':=[vec (.slice none 0 0) 9 1 0 []]) rfl) (Sub.refl _)),(by simp[Sml]),hP⟩
  ·
   replace hP:=hP.2 ht2
   refine wp_exit (q8v (q8v (z5b (Qp (Qu (Qv (v:=(.slice none 0 0)) rfl (wpList_nil (Qp (Qu (w61 (fun y:Bool=>(Value.bool (y))) hS17 ?_))))))))))
   intro b6 w17 hS34
   refine j4b (cs:=[(.map none)]) hS34 Tryz.zeroValue177 rfl ?_
   intro b7 w18 hS35
   refine j4a (T:=177) (vs:=[(.map (some b6))]) (cs':=[(.map (some b6))]) (ms':=(blk b7 177 [(.map (some b6))]::emap b6 (fun y:Bool=>(Value.bool (y))) (fun _=>none)::smap b2 (asl es2)::blk b3 335 [(.map (some b2))]::vec v6 9 1 ((cpt r1_).length) ((cpt r1_).flatMap Qh)::vec v4 9 1 ((srt nodes_p).length) ((srt nodes_p).flatMap Qh)::Gz 9 1 Qh es2)) (i:=0) hS35 rfl rfl rfl Tryz.sizeOf177 rfl (ones rfl) rfl (Nat.le_of_ble_eq_true rfl) rfl rfl ?_
   intro w19 hS36
   refine wpList_nil (Qp (wp_seq (wp_block ?_)))
   obtain⟨σ6,hS37,hsub6,hr9⟩:=St.freezeL (ms:=[blk b7 177 [(.map (some b6))],emap b6 (fun y:Bool=>(Value.bool (y))) (fun _=>none),smap b2 (asl es2),blk b3 335 [(.map (some b2))],vec v6 9 1 ((cpt r1_).length) ((cpt r1_).flatMap Qh),vec v4 9 1 ((srt nodes_p).length) ((srt nodes_p).flatMap Qh)]) (ms':=[blk b7 177 [(.map (some b6))],emap b6 (fun y:Bool=>(Value.bool (y))) (fun _=>none),blk b3 335 [(.map (some b2))],vec v6 9 1 ((cpt r1_).length) ((cpt r1_).flatMap Qh),vec v4 9 1 ((srt nodes_p).length) ((srt nodes_p).flatMap Qh)]) (i:=2) hS36 hF2 q0b rfl rfl
   have hS38:=hS37.addNil 9 1
   have hS39:=hS38.front 4 rfl (ms':=[vec v6 9 1 ((cpt r1_).length) ((cpt r1_).flatMap Qh),vec (.slice none 0 0) 9 1 0 [],blk b7 177 [(.map (some b6))],emap b6 (fun y:Bool=>(Value.bool (y))) (fun _=>none),blk b3 335 [(.map (some b2))],vec v4 9 1 ((srt nodes_p).length) ((srt nodes_p).flatMap Qh)]) rfl
   have hS40:=hS39.front 4 rfl (ms':=[blk b3 335 [(.map (some b2))],vec v6 9 1 ((cpt r1_).length) ((cpt r1_).flatMap Qh),vec (.slice none 0 0) 9 1 0 [],blk b7 177 [(.map (some b6))],emap b6 (fun y:Bool=>(Value.bool (y))) (fun _=>none),vec v4 9 1 ((srt nodes_p).length) ((srt nodes_p).flatMap Qh)]) rfl
   have hS41:=hS40.front 3 rfl (ms':=[blk b7 177 [(.map (some b6))],blk b3 335 [(.map (some b2))],vec v6 9 1 ((cpt r1_).length) ((cpt r1_).flatMap Qh),vec (.slice none 0 0) 9 1 0 [],emap b6 (fun y:Bool=>(Value.bool (y))) (fun _=>none),vec v4 9 1 ((srt nodes_p).length) ((srt nodes_p).flatMap Qh)]) rfl
   have hS42:=hS41.front 4 rfl (ms':=[emap b6 (fun y:Bool=>(Value.bool (y))) (fun _=>none),blk b7 177 [(.map (some b6))],blk b3 335 [(.map (some b2))],vec v6 9 1 ((cpt r1_).length) ((cpt r1_).flatMap Qh),vec (.slice none 0 0) 9 1 0 [],vec v4 9 1 ((srt nodes_p).length) ((srt nodes_p).flatMap Qh)]) rfl
   have hS43:=hS42.front 4 rfl (ms':=[vec (.slice none 0 0) 9 1 0 [],emap b6 (fun y:Bool=>(Value.bool (y))) (fun _=>none),blk b7 177 [(.map (some b6))],blk b3 335 [(.map (some b2))],vec v6 9 1 ((cpt r1_).length) ((cpt r1_).flatMap Qh),vec v4 9 1 ((srt nodes_p).length) ((srt nodes_p).flatMap Qh)]) rfl
   have hS44:=hS43.front 5 rfl (ms':=[vec v4 9 1 ((srt nodes_p).length) ((srt nodes_p).flatMap Qh),vec (.slice none 0 0) 9 1 0 [],emap b6 (fun y:Bool=>(Value.bool (y))) (fun _=>none),blk b7 177 [(.map (some b6))],blk b3 335 [(.map (some b2))],vec v6 9 1 ((cpt r1_).length) ((cpt r1_).flatMap Qh)]) rfl
   refine w3s (fun left_3 out_3 F_4 f z=> ∃(v13:Value) (v14:Value) (σ7:Hv) (g:Fr),f=(upd (upd (upd (upd g 6 v13) 7 (.pointer (some ⟨b3,0,none⟩))) 10 v14) 11 (.pointer (some ⟨b7,0,none⟩)))/\St ⟨w,σ,[]⟩ z σ7 [vec v13 9 1 left_3.length ((left_3).flatMap Qh),vec v14 9 1 out_3.length ((out_3).flatMap Qh),emap b6 (fun y:Bool=>(Value.bool (y))) F_4,blk b7 177 [(.map (some b6))],blk b3 335 [(.map (some b2))],vec v6 9 1 ((cpt r1_).length) ((cpt r1_).flatMap Qh)]/\Sub σ6 σ7/\v13.oneCell'=true/\Sml left_3.length/\v14.oneCell'=true/\Sml out_3.length) hP ⟨v4,(.slice none 0 0),σ6,_,(Zm rfl (Zm rfl (Zm rfl (Zm rfl rfl)))),hS44,(Sub.refl _),(Gu ho1.1),(show Sml (srt nodes_p).length by rw[Jc];exact hsm1),rfl,(by simp[Sml])⟩ ?_
   clear hP
   rintro left_3 out_3 F_4 Y5 hP f w20 ⟨v13,v14,σ7,g,rfl,hS45,hsub7,ho10,hl8,ho11,hl9⟩
   refine wp_seq (Qu (Q6 (v:=v13) rfl (z0d hS45 rfl (i:=0) rfl Tryz.underlying55 ?_)))
   have hlen4:left_3.length<=9223372036854775807:=by have:=hl8;unfold Sml at this;omega
   replace hP:=hP hlen4
   refine v1x (r:=(decide ((0:Int)<((left_3.length:Nat):Int)))) rfl rfl rfl (wpList_nil (Qp ?_))
   refine if_d ((0:Int)<((left_3.length:Nat):Int)) rfl (fun ht4=> ?_) (fun ht4=> ?_)
   ·
    replace hP:=hP.1 ht4
    refine wp_skip (Qp (wp_block (Qu (Q6 (v:=v13) rfl (z18 (la:=[]) (lb:=[(.pointer (some ⟨b3,0,none⟩)),(.pointer (some ⟨b7,0,none⟩))]) rfl rfl ?_)))))
    obtain⟨Y6,hK4,hP⟩:=hP
    refine q3a (args:=[v13,(.func (.func 229) #[] #[(.pointer (some ⟨b3,0,none⟩)),(.pointer (some ⟨b7,0,none⟩))])]) rfl Tryz.call228 (Calls.mono (R:=fun e z=> ∃(r_1:Int) (σ8:Hv),e= .returned (.int .i64 r_1)/\Y6 r_1/\St ⟨w,σ,[]⟩ z σ8 [vec v13 9 1 left_3.length ((left_3).flatMap Qh),vec v14 9 1 out_3.length ((out_3).flatMap Qh),emap b6 (fun y:Bool=>(Value.bool (y))) F_4,blk b7 177 [(.map (some b6))],blk b3 335 [(.map (some b2))],vec v6 9 1 ((cpt r1_).length) ((cpt r1_).flatMap Qh)]/\Sub σ7 σ8) ?_ ?_)
    ·
     refine enter Tryz.func228 rfl rfl rfl ?_
     refine Qu (Qv (v:=(.int .i64 (0:Int))) rfl (wpList_nil (Qp (wp_seq (Qu (Q6 (v:=v13) rfl (z0d hS45 rfl (i:=0) rfl Tryz.underlying55 (Q6 (v:=(.int .i64 (0:Int))) rfl (wpList_nil (Qp (wp_block ?_)))))))))))
     refine z9y (fun k_5 f z=> ∃(σ9:Hv) (g:Fr),f=(upd (upd (upd (upd g 0 v13) 1 (.func (.func 229) #[] #[(.pointer (some ⟨b3,0,none⟩)),(.pointer (some ⟨b7,0,none⟩))])) 7 (.int .i64 ((left_3.length:Nat):Int))) 8 (.int .i64 ((k_5:Nat):Int)))/\St ⟨w,σ,[]⟩ z σ9 [vec v13 9 1 left_3.length ((left_3).flatMap Qh),vec v14 9 1 out_3.length ((out_3).flatMap Qh),emap b6 (fun y:Bool=>(Value.bool (y))) F_4,blk b7 177 [(.map (some b6))],blk b3 335 [(.map (some b2))],vec v6 9 1 ((cpt r1_).length) ((cpt r1_).flatMap Qh)]/\Sub σ7 σ9) hP ⟨σ7,_,(Zm rfl (Zm rfl (Zm rfl (Zm rfl rfl)))),hS45,(Sub.refl _)⟩ ?_
     clear hP
     rintro k_5 Y7 hP f w21 ⟨σ9,g,rfl,hS46,hsub9⟩
     refine Qu (j80 (r:=(decide (((k_5:Nat):Int)<((left_3.length:Nat):Int)))) rfl rfl rfl (wpList_nil (Qp (wp_seq ?_))))
     refine if_d (((k_5:Nat):Int)<((left_3.length:Nat):Int)) rfl (fun ht5=> ?_) (fun ht5=> ?_)
     ·
      replace hP:=hP.1 ht5
      refine wp_skip (Qp (wp_seq (wp_block (Qu (Q6 (v:=(.int .i64 ((k_5:Nat):Int))) rfl (Qv (v:=(.int .i64 ((k_5:Nat):Int))) rfl (wpList_nil (Qp (Qu (Q6 (v:=(.func (.func 229) #[] #[(.pointer (some ⟨b3,0,none⟩)),(.pointer (some ⟨b7,0,none⟩))])) rfl (Q6 (v:=v13) rfl (Q6 (v:=(.int .i64 ((k_5:Nat):Int))) rfl ?_))))))))))))
      obtain⟨x2_,hx2⟩:=getq (l:=left_3) (k:=k_5) (by have:=ht5;omega)
      replace hP:=hP x2_ hx2
      obtain⟨g1,cp1,hv2⟩:=z9z (hS46.get (i:=0) rfl) (Qk hx2)
      refine Gb (k:=k_5) (a':=⟨g1,k_5*1,none⟩) hv2 rfl rfl (Qk hx2) Tryz.underlying55 Tryz.sizeOf9 (by simp[Wm]) (q18 (v:=(.string x2_)) rfl Tryz.isAgg9 (z5j q0b (j:=0) hv2 (hS46.get (i:=0) rfl) hx2 rfl) (j83 (args:=[(.string x2_),(.pointer (some ⟨b3,0,none⟩)),(.pointer (some ⟨b7,0,none⟩))]) rfl rfl Tryz.call229 ?_))
      refine enter Tryz.func229 rfl rfl rfl ?_
      refine Qu (Qv (v:=(.bool false)) rfl (wpList_nil (Qp (Qu (q18 (v:=(.map (some b2))) rfl Tryz.isAgg335 (hS46.cell (i:=4) rfl rfl) (Q6 (v:=(.string x2_)) rfl ?_))))))
      obtain⟨v15,hl10,hz1⟩:=RMp.at (z:= .slice none 0 0) (z0:=[]) RSl.nil hr9 x2_
      obtain⟨a3,cap3,rfl⟩:=hz1.shape
      refine w65 (v:=(.slice a3 ((F_2 x2_).getD []).length cap3)) hl10 (View.of (Sub.trans hsub7 hsub9) hS46.view) rfl rfl Tryz.underlying335 Tryz.underlying9 Tryz.zeroValue55 (z18 (la:=[]) (lb:=[(.pointer (some ⟨b7,0,none⟩))]) rfl rfl (q3a (args:=[(.slice a3 ((F_2 x2_).getD []).length cap3),(.func (.func 231) #[] #[(.pointer (some ⟨b7,0,none⟩))])]) rfl Tryz.call230 ?_))
      refine enter Tryz.func230 rfl rfl rfl ?_
      refine Qu (Qv (v:=(.bool false)) rfl (wpList_nil (Qp (Qu (Q6 (v:=(.slice a3 ((F_2 x2_).getD []).length cap3)) rfl (Q6 (v:=(.func (.func 231) #[] #[(.pointer (some ⟨b7,0,none⟩))])) rfl ?_))))))
      obtain⟨Y8,hK5,hP⟩:=hP
      refine q3a (args:=[(.slice a3 ((F_2 x2_).getD []).length cap3),(.func (.func 231) #[] #[(.pointer (some ⟨b7,0,none⟩))])]) rfl Tryz.call228 (Calls.mono (R:=fun e z=> ∃(r_2:Int) (σ10:Hv),e= .returned (.int .i64 r_2)/\Y8 r_2/\St ⟨w,σ,[]⟩ z σ10 [vec v13 9 1 left_3.length ((left_3).flatMap Qh),vec v14 9 1 out_3.length ((out_3).flatMap Qh),emap b6 (fun y:Bool=>(Value.bool (y))) F_4,blk b7 177 [(.map (some b6))],blk b3 335 [(.map (some b2))],vec v6 9 1 ((cpt r1_).length) ((cpt r1_).flatMap Qh)]/\Sub σ9 σ10) ?_ ?_)
      ·
       refine enter Tryz.func228 rfl rfl rfl ?_
       refine Qu (Qv (v:=(.int .i64 (0:Int))) rfl (wpList_nil (Qp (wp_seq (Qu (Q6 (v:=(.slice a3 ((F_2 x2_).getD []).length cap3)) rfl (q4z rfl Tryz.underlying55 ?_)))))))
       have hlen6:=RSl.len63 hz1
       replace hP:=hP hlen6
       refine Q6 (v:=(.int .i64 (0:Int))) rfl (wpList_nil (Qp (wp_block ?_)))
       refine z9y (fun k_7 f z=> ∃(σ11:Hv) (g:Fr),f=(upd (upd (upd (upd g 0 (.slice a3 ((F_2 x2_).getD []).length cap3)) 1 (.func (.func 231) #[] #[(.pointer (some ⟨b7,0,none⟩))])) 7 (.int .i64 ((((F_2 x2_).getD []).length:Nat):Int))) 8 (.int .i64 ((k_7:Nat):Int)))/\St ⟨w,σ,[]⟩ z σ11 [vec v13 9 1 left_3.length ((left_3).flatMap Qh),vec v14 9 1 out_3.length ((out_3).flatMap Qh),emap b6 (fun y:Bool=>(Value.bool (y))) F_4,blk b7 177 [(.map (some b6))],blk b3 335 [(.map (some b2))],vec v6 9 1 ((cpt r1_).length) ((cpt r1_).flatMap Qh)]/\Sub σ9 σ11) hP ⟨σ9,_,(Zm rfl (Zm rfl (Zm rfl (Zm rfl rfl)))),hS46,(Sub.refl _)⟩ ?_
       clear hP
       rintro k_7 Y9 hP f w22 ⟨σ11,g,rfl,hS47,hsub11⟩
       refine Qu (j80 (r:=(decide (((k_7:Nat):Int)<((((F_2 x2_).getD []).length:Nat):Int)))) rfl rfl rfl (wpList_nil (Qp (wp_seq ?_))))
       refine if_d (((k_7:Nat):Int)<((((F_2 x2_).getD []).length:Nat):Int)) rfl (fun ht6=> ?_) (fun ht6=> ?_)
       ·
        replace hP:=hP.1 ht6
        refine wp_skip (Qp (wp_seq (wp_block (Qu (Q6 (v:=(.int .i64 ((k_7:Nat):Int))) rfl (Qv (v:=(.int .i64 ((k_7:Nat):Int))) rfl (wpList_nil (Qp (Qu (Q6 (v:=(.func (.func 231) #[] #[(.pointer (some ⟨b7,0,none⟩))])) rfl (Q6 (v:=(.slice a3 ((F_2 x2_).getD []).length cap3)) rfl (Q6 (v:=(.int .i64 ((k_7:Nat):Int))) rfl ?_))))))))))))
        obtain⟨x3_,hx3⟩:=getq (l:=((F_2 x2_).getD [])) (k:=k_7) (by have:=ht6;omega)
        replace hP:=hP x3_ hx3
        obtain⟨ad2,cs2,ha2,hl11,hr10,hR2,hlt2⟩:=RSl.at hz1 hx3
        cases hR2
        refine Gb (k:=k_7) (a':=(ad2.add (k_7*1))) (congrArg (fun z=>Value.slice z _ _) ha2) rfl rfl hlt2 Tryz.underlying55 Tryz.sizeOf9 rfl (q18 (v:=(.string x3_)) rfl Tryz.isAgg9 (hr10.cell (View.of (Sub.trans (Sub.trans hsub7 hsub9) hsub11) hS47.view) 0 rfl rfl) (j83 (args:=[(.string x3_),(.pointer (some ⟨b7,0,none⟩))]) rfl rfl Tryz.call231 ?_))
        refine enter Tryz.func231 rfl rfl rfl ?_
        refine Qu (Qv (v:=(.bool false)) rfl (wpList_nil (Qp (Qu (q18 (v:=(.map (some b6))) rfl Tryz.isAgg177 (hS47.cell (i:=3) rfl rfl) (Q6 (v:=(.string x3_)) rfl (w62 (v:=(.bool (((F_4 x3_).getD false)))) (i:=2) hS47 rfl rfl rfl Tryz.underlying177 Tryz.underlying9 Tryz.zeroValue4 (w3t (fun y:Bool=>(Value.bool (y))) _ rfl) (w3l (r:=(!((F_4 x3_).getD false))) rfl rfl (Qv (v:=(.bool (!((F_4 x3_).getD false)))) rfl (wpList_nil (Qp (wp_ret (ret1 rfl (show ev _ _ _=(.bool (!((F_4 x3_).getD false))) from rfl) ?_)))))))))))))
        refine⟨_,rfl,?_⟩
        refine wpList_nil (Qp ?_)
        refine w9v rfl (fun ht7=> ?_) (fun ht7=> ?_)
        ·
         replace hP:=hP.2 (by first|(rw[ht7];exact Bool.false_ne_true)|simp[ht7])
         refine Qu (Q6 (v:=(.int .i64 ((k_7:Nat):Int))) rfl (Qv (v:=(.int .i64 ((k_7:Nat):Int))) rfl (wpList_nil (Qp (wp_ret (z3w (Gt (Gt (z3w (Gt (ret1 rfl (show ev _ _ _=(.int .i64 ((k_7:Nat):Int)) from rfl) ?_)))))))))))
         exact⟨((k_7:Nat):Int),σ11,rfl,hP,hS47,hsub11⟩
        ·
         replace hP:=hP.1 ht7
         refine wp_skip (j7p (Qp (z17 (j7o (r:=((k_7+1:Nat):Int)) rfl rfl (nw (by omega) (by omega) (by have:=hlen6;omega)) (Q6 (v:=(.int .i64 ((k_7+1:Nat):Int))) rfl (wpList_nil (Qp ?_)))))))
         exact⟨k_7+1,_,rfl,hP,σ11,_,(Zm rfl (Zm rfl (Zm rfl (Zm rfl rfl)))),hS47,hsub11⟩
       ·
        replace hP:=hP.2 ht6
        refine wp_exit (q8v (q8v (z5b (Qp (Qu (Qv (v:=(.int .i64 (-1:Int))) rfl (wpList_nil (Qp (wp_ret (ret1 rfl (show ev _ _ _=(.int .i64 (-1:Int)) from rfl) ?_))))))))))
        exact⟨(-1:Int),σ11,rfl,hP,hS47,hsub11⟩
      ·
       rintro _ w23 ⟨r_2,σ10,rfl,hY4,hS48,hsub10⟩
       refine⟨_,rfl,?_⟩
       replace hP:=hK5 r_2 hY4
       refine w9s (r:=(decide ((0:Int)<=r_2))) rfl rfl rfl (Qv (v:=(.bool (decide ((0:Int)<=r_2)))) rfl (wpList_nil (Qp (wp_ret (ret1 rfl (show ev _ _ _=(.bool (decide ((0:Int)<=r_2))) from rfl) ?_)))))
       refine⟨_,rfl,?_⟩
       refine w3l (r:=(!decide ((0:Int)<=r_2))) rfl rfl (Qv (v:=(.bool (!decide ((0:Int)<=r_2)))) rfl (wpList_nil (Qp (wp_ret (ret1 rfl (show ev _ _ _=(.bool (!decide ((0:Int)<=r_2))) from rfl) ?_)))))
       refine⟨_,rfl,?_⟩
       refine wpList_nil (Qp ?_)
       refine w9u ((0:Int)<=r_2) rfl (fun ht8=> ?_) (fun ht8=> ?_)
       ·
        replace hP:=hP.2 ht8
        refine Qu (Q6 (v:=(.int .i64 ((k_5:Nat):Int))) rfl (Qv (v:=(.int .i64 ((k_5:Nat):Int))) rfl (wpList_nil (Qp (wp_ret (z3w (Gt (Gt (z3w (Gt (ret1 rfl (show ev _ _ _=(.int .i64 ((k_5:Nat):Int)) from rfl) ?_)))))))))))
        exact⟨((k_5:Nat):Int),σ10,rfl,hP,hS48,(Sub.trans hsub9 hsub10)⟩
       ·
        replace hP:=hP.1 ht8
        refine wp_skip (j7p (Qp (z17 (j7o (r:=((k_5+1:Nat):Int)) rfl rfl (nw (by omega) (by omega) (by have:=hlen4;omega)) (Q6 (v:=(.int .i64 ((k_5+1:Nat):Int))) rfl (wpList_nil (Qp ?_)))))))
        exact⟨k_5+1,_,rfl,hP,σ10,_,(Zm rfl (Zm rfl (Zm rfl (Zm rfl rfl)))),hS48,(Sub.trans hsub9 hsub10)⟩
     ·
      replace hP:=hP.2 ht5
      refine wp_exit (q8v (q8v (z5b (Qp (Qu (Qv (v:=(.int .i64 (-1:Int))) rfl (wpList_nil (Qp (wp_ret (ret1 rfl (show ev _ _ _=(.int .i64 (-1:Int)) from rfl) ?_))))))))))
      exact⟨(-1:Int),σ9,rfl,hP,hS46,hsub9⟩
    ·
     rintro _ w24 ⟨r_1,σ8,rfl,hY5,hS49,hsub8⟩
     refine⟨_,rfl,?_⟩
     replace hP:=hK4 r_1 hY5
     refine Qv (v:=(.int .i64 r_1)) rfl (wpList_nil (Qp (wp_seq (Qu (Q6 (v:=(.int .i64 r_1)) rfl (j80 (r:=(decide (r_1<(0:Int)))) rfl rfl rfl (wpList_nil (Qp ?_))))))))
     refine if_d (r_1<(0:Int)) rfl (fun ht9=> ?_) (fun ht9=> ?_)
     ·
      replace hP:=hP.1 ht9
      refine Qu (Qv (v:=(.slice none 0 0)) rfl (Qv (v:=(.int .i64 (12:Int))) rfl (wpList_nil (Qp (wp_ret (Gt (z3w (Gt (z3w (Gt (ret2 rfl (show ev _ _ _=(.slice none 0 0) from rfl) (show ev _ _ _=(.int .i64 (12:Int)) from rfl) ?_)))))))))))
      have hS50:=hS49.addNil 9 1
      exact⟨[],(12:Int),(.slice none 0 0),rfl,(St.back (hS50.keep 1 (ms':=[vec (.slice none 0 0) 9 1 0 []]) rfl) (Sub.refl _)),(by simp[Sml]),hP⟩
     ·
      replace hP:=hP.2 ht9
      refine wp_skip (Qp (Qu (Q6 (v:=v14) rfl (Q6 (v:=v13) rfl (Q6 (v:=(.int .i64 r_1)) rfl ?_)))))
      obtain⟨j1_,hj1,hP⟩:=hP
      obtain⟨x4_,hx4,hP⟩:=hP
      obtain⟨g2,cp2,hv3⟩:=z9z (hS49.get (i:=0) rfl) (Qk hx4)
      refine Gb (k:=j1_) (a':=⟨g2,j1_*1,none⟩) hv3 rfl hj1 (Qk hx4) Tryz.underlying55 Tryz.sizeOf9 (by simp[Wm]) (q18 (v:=(.string x4_)) rfl Tryz.isAgg9 (z5j q0b (j:=0) hv3 (hS49.get (i:=0) rfl) hx4 rfl) (z4l (cs:=[(.string x4_)]) (e:=9) hS49 (fun _=>by kernel_rfl) ?_))
      intro b8 w25 hS51
      obtain⟨hsm4,hP⟩:=hP
      refine w63 (Ms:=fun v16=>[blk b8 9 [(.string x4_)],vec v13 9 1 left_3.length ((left_3).flatMap Qh),vec v16 9 1 ((out_3++[x4_]).length) ((out_3++[x4_]).flatMap Qh),emap b6 (fun y:Bool=>(Value.bool (y))) F_4,blk b7 177 [(.map (some b6))],blk b3 335 [(.map (some b2))],vec v6 9 1 ((cpt r1_).length) ((cpt r1_).flatMap Qh)]) (k':=(out_3++[x4_]).length) (xs':=(out_3++[x4_]).flatMap Qh) Tryz.underlying55 Tryz.type9 rfl rfl (bytes:=16) rfl rfl (Nat.succ_pos _) hS51 rfl (q:=2) rfl rfl rfl (q3t (hS51.get (i:=0) rfl)) (ones rfl) hsm4 (by omega) (by first|rfl|exact List.length_append.symm|simp) (by simp[Qh]) (fun _=>rfl) ?_
      intro v16 w26 ho12 hS52
      have hS53:=hS52.drop 0 (ms':=[vec v13 9 1 left_3.length ((left_3).flatMap Qh),vec v16 9 1 ((out_3++[x4_]).length) ((out_3++[x4_]).flatMap Qh),emap b6 (fun y:Bool=>(Value.bool (y))) F_4,blk b7 177 [(.map (some b6))],blk b3 335 [(.map (some b2))],vec v6 9 1 ((cpt r1_).length) ((cpt r1_).flatMap Qh)]) rfl
      refine Qv (v:=v16) rfl (wpList_nil (Qp (wp_seq (dr (fun z=>St ⟨w,σ,[]⟩ z σ8 [vec v13 9 1 left_3.length ((left_3).flatMap Qh),vec v16 9 1 ((out_3++[x4_]).length) ((out_3++[x4_]).flatMap Qh),blk b7 177 [(.map (some b6))],blk b3 335 [(.map (some b2))],vec v6 9 1 ((cpt r1_).length) ((cpt r1_).flatMap Qh)]) (by kernel_rfl) rfl ?_))))
      have hS54:=hS53.drew
      refine dt 0 1 (v:=(.map (some b6))) (by kernel_rfl) rfl rfl (fun _ _ _ h=>h) (hS54.sublist (.cons_cons _ (.cons_cons _ (.cons _ (List.Sublist.refl _))))) (fun _ hJ _ hK=>q18 (v:=(.map (some b6))) rfl Tryz.isAgg177 (hJ.cell (i:=2) rfl rfl) ⟨rfl,hK⟩) (dt 1 3 (v:=v13) (by kernel_rfl) rfl rfl (fun _ _ _ h=>h) (hS54.sublist (.cons_cons _ (.cons_cons _ (.cons _ (List.Sublist.refl _))))) (fun _ _ _ hK=>Q6 (v:=v13) rfl ⟨rfl,hK⟩) (dt 2 7 (v:=(.int .i64 r_1)) (by kernel_rfl) rfl rfl (fun _ _ _ h=>h) (hS54.sublist (.cons_cons _ (.cons_cons _ (.cons _ (List.Sublist.refl _))))) (fun _ _ _ hK=>Q6 (v:=(.int .i64 r_1)) rfl ⟨rfl,hK⟩) ?_))
      obtain⟨j2_,hj2,hP⟩:=hP
      obtain⟨x5_,hx5,hP⟩:=hP
      obtain⟨g3,cp3,hv4⟩:=z9z (hS54.get (i:=0) rfl) (Qk hx5)
      refine dt 3 15 (v:=(.pointer (some ⟨g3,j2_*1,none⟩))) (by kernel_rfl) rfl rfl (fun _ _ _ h=>h) (hS54.sublist (.cons_cons _ (.cons_cons _ (.cons _ (List.Sublist.refl _))))) (fun _ _ _ hK=>Gb (k:=j2_) (a':=⟨g3,j2_*1,none⟩) hv4 rfl hj2 (Qk hx5) Tryz.underlying55 Tryz.sizeOf9 (by simp[Wm]) ⟨rfl,hK⟩) (dt 4 31 (v:=(.string x5_)) (by kernel_rfl) rfl rfl (fun _ _ _ h=>h) (hS54.sublist (.cons_cons _ (.cons_cons _ (.cons _ (List.Sublist.refl _))))) (fun _ hJ _ hK=>q18 (v:=(.string x5_)) rfl Tryz.isAgg9 (z5j q0b (j:=0) hv4 (hJ.get (i:=0) rfl) hx5 rfl) ⟨rfl,hK⟩) (d1 5 63 (by kernel_rfl) rfl (w9z (y0:=true) (i:=2) (ms':=[vec v13 9 1 left_3.length ((left_3).flatMap Qh),vec v16 9 1 ((out_3++[x4_]).length) ((out_3++[x4_]).flatMap Qh),emap b6 (fun y:Bool=>(Value.bool (y))) (put F_4 x5_ true),blk b7 177 [(.map (some b6))],blk b3 335 [(.map (some b2))],vec v6 9 1 ((cpt r1_).length) ((cpt r1_).flatMap Qh)]) hS54 rfl rfl rfl rfl Tryz.underlying177 Tryz.underlying9 rfl ?_)))
      intro w27 hS55
      refine wpList_nil ?_
      refine⟨rfl,(hS55.sublist (.cons_cons _ (.cons_cons _ (.cons _ (List.Sublist.refl _))))),z4m (J':=fun z=>St ⟨w,σ,[]⟩ z σ8 [vec v13 9 1 left_3.length ((left_3).flatMap Qh),vec v16 9 1 ((out_3++[x4_]).length) ((out_3++[x4_]).flatMap Qh),emap b6 (fun y:Bool=>(Value.bool (y))) (put F_4 x5_ true),blk b7 177 [(.map (some b6))],blk b3 335 [(.map (some b2))],vec v6 9 1 ((cpt r1_).length) ((cpt r1_).flatMap Qh)]) (fun w h=>h.sublist (.cons_cons _ (.cons_cons _ (.cons _ (List.Sublist.refl _))))) _ _ _ _ ?_⟩
      refine dz (by kernel_rfl) (Qp (z17 (Q6 (v:=v13) rfl (Q6 (v:=(.int .i64 r_1)) rfl (Q6 (v:=(.int .i64 r_1)) rfl ?_)))))
      obtain⟨hi1,hP⟩:=hP
      refine j7o (r:=(r_1+(1:Int))) rfl rfl (nwi rfl hi1) ?_
      obtain⟨j3_,hj3,hP⟩:=hP
      obtain⟨hd1,hP⟩:=hP
      obtain⟨hd2,hP⟩:=hP
      obtain⟨hsm5,hP⟩:=hP
      have hd3:r_1=((j3_:Nat):Int)/\(r_1+(1:Int))=((j3_+1:Nat):Int):=⟨by omega,by omega⟩
      refine q3a (args:=[v13,(.int .i64 ((j3_:Nat):Int)),(.int .i64 ((j3_+1:Nat):Int))]) (by rw[←hd3.1,←hd3.2];rfl) Tryz.call232 (Calls.mono (j7r (i:=j3_) (j:=(j3_+1)) Tryz.slices_Delete_string hS55.view (hS55.get (i:=0) rfl) (fun b hb=>hS55.off _ (List.mem_of_getElem? (i:=0) rfl) b hb) (by omega) hd2 hd1) ?_)
      rintro _ w28 ⟨v17,rfl,hf2,hg7,ho13⟩
      refine⟨_,rfl,?_⟩
      have ho14:=Gu ho13
      have hS56:=hS55.growV (i:=0) (o':=vec v17 9 1 ((left_3.take j3_++left_3.drop (j3_+1)).length) ((left_3.take j3_++left_3.drop (j3_+1)).flatMap Qh)) rfl hg7 hf2 ho13 (ms':=[vec v17 9 1 ((left_3.take j3_++left_3.drop (j3_+1)).length) ((left_3.take j3_++left_3.drop (j3_+1)).flatMap Qh),vec v16 9 1 ((out_3++[x4_]).length) ((out_3++[x4_]).flatMap Qh),emap b6 (fun y:Bool=>(Value.bool (y))) (put F_4 x5_ true),blk b7 177 [(.map (some b6))],blk b3 335 [(.map (some b2))],vec v6 9 1 ((cpt r1_).length) ((cpt r1_).flatMap Qh)]) rfl
      refine Qv (v:=v17) rfl (wpList_nil (j7p (Qp ?_)))
      exact⟨left_3.take j3_++left_3.drop (j3_+1),out_3++[x4_],put F_4 x5_ true,_,rfl,hP,v17,v16,σ8,_,(Zm rfl (Zm rfl (Zm rfl (Zm rfl rfl)))),hS56,(Sub.trans hsub7 hsub8),ho14,hsm5,ho12,hsm4⟩
   ·
    replace hP:=hP.2 ht4
    refine wp_exit (q8v (q8v (z5b (Qp (Qu (Q6 (v:=v14) rfl (Qv (v:=v14) rfl (Qv (v:=(.int .i64 (0:Int))) rfl (wpList_nil (Qp (wp_ret (ret2 rfl (show ev _ _ _=v14 from rfl) (show ev _ _ _=(.int .i64 (0:Int)) from rfl) ?_))))))))))))
    have hS57:=hS45.front 1 rfl (ms':=[vec v14 9 1 out_3.length ((out_3).flatMap Qh),vec v13 9 1 left_3.length ((left_3).flatMap Qh),emap b6 (fun y:Bool=>(Value.bool (y))) F_4,blk b7 177 [(.map (some b6))],blk b3 335 [(.map (some b2))],vec v6 9 1 ((cpt r1_).length) ((cpt r1_).flatMap Qh)]) rfl
    exact⟨out_3,(0:Int),v14,rfl,(St.back (hS57.keep 1 (ms':=[vec v14 9 1 out_3.length ((out_3).flatMap Qh)]) rfl) (Sub.refl _)),hl9,hP⟩
end Go.Proofs.YtjepffgpbidclaaGreatDoor
end
noncomputable section
set_option maxRecDepth 100000
open Go Go.RowKit Go.Fl Go.Fl.Lk Go.Fx
namespace Go.En
theorem z41{σ:Hv}{w:World}{g:Nat}{T:C}{n:Nat}{l:List (car T)}(hV:View σ w)(hs:SRep D (fun _=>none) σ (.pointer (some ⟨g,0,none⟩)) (.fap T n l)){i j:Nat}{x:car T}{s:FV Sg}(hx:l[i]? =some x)(hj:(D.shape T x)[j]? =some s)(hz:j<D.size T):
  ∃v,w.cell? ⟨g,i*D.size T+j,none⟩=some v/\RepF D σ v s:=by
 generalize hq:Value.pointer (some (⟨g,0,none⟩:Addr))=q at hs
 cases hs with
 |fap ad cs T' N l' hN h hl hr=>
  cases hq
  have hrow:=hr i x hx
  have hlen:=okP.ok.len T x
  have hjl:j<((cs.drop (i*D.size T)).take (D.size T)).length:=by rw[hrow.1,hlen];exact hz
  obtain⟨v,hv⟩: ∃v,((cs.drop (i*D.size T)).take (D.size T))[j]? =some v:=⟨_,List.getElem?_eq_getElem hjl⟩
  refine⟨v,?_,hrow.2 j v s hv hj⟩
  rw[List.getElem?_take,if_pos hz,List.getElem?_drop] at hv
  have:=hV.cell (h _ v hv)
  rw[Wm,Nat.zero_add] at this
  exact this
theorem w4x: ∀c,c<256->j6u[c]? =some ((Go.Lib.firstT c:Nat):Int):=by decide
theorem v0s: ∀i,i<16->(z56[i]?).map (fun a=>(a.lo,a.hi))=some (((Go.Lib.accLo i:Nat):Int),((Go.Lib.accHi i:Nat):Int)):=by decide
theorem tabs{σ:Hv}{w:World}(hV:View σ w)(hG:Glb D σ):Go.Lib.Utf8Tabs (Proofs.Tryz.lays196_ren.g 3) (Proofs.Tryz.lays196_ren.g 4) w:=by
 refine⟨fun c hc=> ?_,fun i hi=> ?_⟩
 ·have h:=hG.known (Proofs.Tryz.lays196_ren.g 3)
  obtain⟨v,h1,h2⟩:=z41 (T:= .u8) (n:=256) (l:=j6u) hV h (i:=c) (j:=0) (s:= .int .u8 ((Go.Lib.firstT c:Nat):Int)) (w4x c hc) rfl (by decide)
  cases h2
  simpa [show D.size C.u8=1 from rfl] using h1
 ·have h:=hG.known (Proofs.Tryz.lays196_ren.g 4)
  have ha:=v0s i hi
  obtain⟨a,e1,e2⟩:=Option.map_eq_some_iff.1 ha
  obtain⟨v,h1,h2⟩:=z41 (T:= .acc) (n:=16) (l:=z56) hV h (i:=i) (j:=0) (s:= .int .u8 a.lo) e1 rfl (by decide)
  obtain⟨v',h1',h2'⟩:=z41 (T:= .acc) (n:=16) (l:=z56) hV h (i:=i) (j:=1) (s:= .int .u8 a.hi) e1 rfl (by decide)
  cases h2;cases h2'
  simp only[Prod.mk.injEq] at e2
  rw[e2.1] at h1;rw[e2.2] at h1'
  refine⟨by rw[Nat.mul_comm];simpa [show D.size C.acc=2 from rfl] using h1,by rw[Nat.mul_comm];simpa [show D.size C.acc=2 from rfl] using h1'⟩
theorem j44{w w':World}(h:Below w.heap.size w w'):Keeps [] w w':=⟨h.os,h.tape,h.output,h.size,fun k hk _=>h.block k hk⟩
theorem q4r{σ:Hv}{w w1:World}{args:List (Tr Sg)}{vals:List Value}{K:List (Tr Sg)->List (Tr Sg)->Prop}{rets outs:List (Tr Sg)}{rv:List Value}(hS:St ⟨w,σ,feet []⟩ w σ [])(hK:K rets outs)(hb:Below w.heap.size w w1)(hL:LayL D σ rets rv [])(hT:LayT D σ args outs vals [] []):
  Back D σ w args vals [] K (.returned (retV rv)) w1:=by
 have hk:=j44 hb
 refine⟨rets,outs,rv,σ,[],[],rfl,hK,hL,hT,?_⟩
 refine⟨hk,fun b o hbo=> ?_,Sub.refl _,fun _ _ _=>rfl,by simp,by simp,by simp,by simp⟩
 have h1:=hS.view b o hbo
 have hlt:b<w.heap.size:=by
  rcases Nat.lt_or_ge b w.heap.size with h|h
  ·exact h
  ·rw[Array.getElem?_eq_none h] at h1;cases h1
 rw[hk.block b hlt (by simp)];exact h1
theorem z0z:q4o Proofs.Tryz.prog D 262 (conV ([.v]:LP) ([.str]:LV) ([.bool]:LV) ([.same]:LV) (fun a K=>Wr a.1 (fun q0=>K (q0,()) ((),())))):=by
 intro args K hm w σ vals ins hG hL hS
 obtain⟨a,ha,hm⟩:=Qi hm
 have hargs:=J4 ha
 subst hargs
 obtain⟨s,_⟩:=a
 cases hL with
 |cons hp hr=>
 cases hr
 cases hp with
 |f hf=>
 cases hf
 have hm:s.size<=9223372036854775807/\K [.f (.bool (Go.Lib.validD s.data.toList))] [.same]:=hm
 refine Calls.mono (Go.Proofs.Any.utf8_ValidString Proofs.Tryz.lays196 s w hm.1 (tabs hS.view hG)) ?_
 rintro e w' ⟨rfl,hb⟩
 exact q4r (rv:=[.bool (Go.Lib.validD s.data.toList)]) hS hm.2 hb (.cons (ms:=[]) (.f (.bool _)) .nil) (.skip (a0:=[]) .nil)
theorem z00:q4o Proofs.Tryz.prog D 188 (conV ([.v,.v]:LP) ([.str,.str]:LV) ([.bool]:LV) ([.same,.same]:LV) (fun a K=>Rk a.1 a.2.1 (fun q0=>K (q0,()) ((),(),())))):=by
 intro args K hm w σ vals ins hG hL hS
 obtain⟨a,ha,hm⟩:=Qi hm
 have hargs:=J4 ha
 subst hargs
 obtain⟨s,t,_⟩:=a
 cases hL with
 |cons hp hr=>
 cases hr with
 |cons hq hr=>
 cases hr
 cases hp with
 |f hf=>
 cases hf
 cases hq with
 |f hf=>
 cases hf
 have hm:s.size<4294967281/\K [.f (.bool (Go.Lib.contains s.data.toList t.data.toList))] [.same,.same]:=hm
 obtain⟨n,hn⟩:=hG.free 2 .i64 rfl
 refine Calls.mono (Proofs.Tryz.strings_Contains s t n w hm.1 (hS.view.cell hn)) ?_
 rintro e w' ⟨rfl,rfl⟩
 exact q4r (rv:=[.bool (Go.Lib.contains s.data.toList t.data.toList)]) hS hm.2 (Below.refl _ _) (.cons (ms:=[]) (.f (.bool _)) .nil) (.skip (a0:=[]) (.skip (a0:=[]) .nil))
theorem z72:q4o Proofs.Tryz.prog D 265 (conV ([.v]:LP) ([.str]:LV) ([.int .i64,.ifc]:LV) ([.same]:LV) (fun a K=>B2 a.1 (fun q0 q1=>K (q0,q1,()) ((),())))):=by
 intro args K hm w σ vals ins hG hL hS
 obtain⟨a,ha,hm⟩:=Qi hm
 have hargs:=J4 ha
 subst hargs
 obtain⟨s,_⟩:=a
 cases hL with
 |cons hp hr=>
 cases hr
 cases hp with
 |f hf=>
 cases hf
 have hm:s.size<=281474976710656/\w4w s (fun n b=>K [.f (.int .i64 n),.f (.ifc b)] [.same]):=hm
 obtain⟨hsz,hm⟩:=hm
 have err: ∀g:Nat,D.glob g= .fptr [.ifc false] 0-> ∃ev,w.cell? ⟨g,0,none⟩=some ev/\(ev= .nilIface∨ ∃te pe,ev= .iface te pe):=by
  intro g hg
  have h:=hG.known g
  rw[hg] at h
  generalize hq:Value.pointer (some (⟨g,0,none⟩:Addr))=q at h
  cases h with
  |fptr ad cs l off hv hr=>
  cases hq
  obtain⟨v,hvl⟩: ∃v,cs=[v]:=List.length_eq_one_iff.1 hr.1
  subst hvl
  have hc:=hS.view.cell (hv 0 v rfl)
  have hR:=hr.2 0 v _ rfl rfl
  refine⟨v,?_,?_⟩
  ·rw[Wm] at hc;exact hc
  ·cases hR with
   |ifcS t p=>exact .inr ⟨t,p,rfl⟩
 unfold w4w at hm
 split at hm
 ·rename_i v hv
  refine Calls.mono (Proofs.Tryz.strconv_Atoi_ok s (by omega) v hv w) ?_
  rintro e w' ⟨rfl,hw⟩
  have hb:Below w.heap.size w w':=by
   rcases hw with rfl|⟨t,rfl⟩
   ·exact Below.refl _ _
   ·exact Go.Lib.bytesWorld_below _ _ _
  exact q4r (rv:=[.int .i64 v,.nilIface]) hS hm hb (.cons (ms:=[]) (.f (.int _ _)) (.cons (ms:=[]) (.f .ifcN) .nil)) (.skip (a0:=[]) .nil)
 ·rename_i hv
  obtain⟨ev,h1,h2⟩:=err 6 rfl
  refine Calls.mono (Proofs.Tryz.strconv_Atoi_range s hsz hv ev w h1 h2) ?_
  rintro e w' ⟨N,rfl,_,_,hb⟩
  exact q4r (rv:=[.int .i64 _,.iface _ _]) hS hm hb (.cons (ms:=[]) (.f (.int _ _)) (.cons (ms:=[]) (.f (.ifcS _ _)) .nil)) (.skip (a0:=[]) .nil)
 ·rename_i hv
  obtain⟨ev,h1,h2⟩:=err 5 rfl
  refine Calls.mono (Proofs.Tryz.strconv_Atoi_syntax s hsz hv ev w h1 h2) ?_
  rintro e w' ⟨N,rfl,_,_,hb⟩
  exact q4r (rv:=[.int .i64 _,.iface _ _]) hS hm hb (.cons (ms:=[]) (.f (.int _ _)) (.cons (ms:=[]) (.f (.ifcS _ _)) .nil)) (.skip (a0:=[]) .nil)
theorem q8h(l:List ByteArray):l.flatMap Qh=l.map Value.string:=by
 induction l with
 |nil=>rfl
 |cons a l ih=>rw[List.flatMap_cons,List.map_cons,ih];rfl
theorem v0t(l:List ByteArray):(cpt l).length<=l.length:=by
 unfold cpt Go.Lib.compact
 rw[List.length_map]
 have h: ∀(d:Array (List UInt8)) (m:Nat),(Go.Lib.compactUpTo d m).length<=m:=by
  intro d m
  unfold Go.Lib.compactUpTo
  rw[List.length_map]
  exact Nat.le_trans (List.length_filter_le _ _) (by simp)
 simpa using h _ _
theorem w05{σ:Hv}{xs:List Value}{l:List ByteArray}(h:Els D σ C.str xs l):xs=l.flatMap Qh:=by
 have h1:xs.length=l.length:=by rw[h.1];exact Nat.mul_one _
 rw[q8h]
 refine List.ext_getElem? fun i=> ?_
 rw[List.getElem?_map]
 rcases Nat.lt_or_ge i l.length with hi|hi
 ·obtain⟨v,hv⟩: ∃v,xs[i]? =some v:=⟨_,List.getElem?_eq_getElem (by omega)⟩
  obtain⟨x,hx⟩: ∃x,l[i]? =some x:=⟨_,List.getElem?_eq_getElem hi⟩
  have hR:=(h.2 i x hx).2 0 v (.str x) (by rw[show D.size C.str=1 from rfl,Nat.mul_one,List.getElem?_take,if_pos (by decide),List.getElem?_drop];exact hv) rfl
  rw[hv,hx]
  cases hR
  rfl
 ·rw[List.getElem?_eq_none (by omega),List.getElem?_eq_none hi];rfl
theorem z6g(σ:Hv)(l:List ByteArray):Els D σ C.str (l.flatMap Qh) l:=by
 rw[q8h]
 refine⟨by rw[List.length_map];exact (Nat.mul_one _).symm,fun i x hx=> ?_⟩
 rw[show D.size C.str=1 from rfl,Nat.mul_one]
 have hx:l[i]? =some x:=hx
 have e:((l.map Value.string).drop i).take 1=[.string x]:=by
  rw[←List.map_drop,List.drop_eq_getElem_cons (List.getElem?_eq_some_iff.1 hx).1,(List.getElem?_eq_some_iff.1 hx).2];rfl
 rw[e]
 refine⟨rfl,fun j v s hj hs=> ?_⟩
 cases j with
 |zero=>cases hj;cases hs;exact .str x
 |succ j=>cases hj
theorem q1k:q4o Proofs.Tryz.prog D 93 (conV ([.own 9 C.str]:LP) ([.vec 9 C.str]:LV) ([]:LV) ([.vec 9 C.str]:LV) (fun a K=>Z1 a.1 (fun q0=>K () (q0,())))):=by
 intro args K hm w σ vals ins hG hL hS
 obtain⟨a,ha,hm⟩:=Qi hm
 have hargs:=J4 ha
 subst hargs
 obtain⟨s,_⟩:=a
 cases hL with
 |cons hp hr=>
 cases hr
 cases hp with
 |vec hE hl h1=>
 have hx:=w05 hE
 subst hx
 have hm:K [] [.vec 9 C.str (srt s)]:=hm
 refine Calls.mono (j54 Proofs.Tryz.slices_Sort_string Proofs.Tryz.slices_Sort_string_none hS.view (hS.get (i:=0) rfl) rfl (fun b hb=>hS.off _ (List.mem_of_getElem? (i:=0) rfl) b hb) (by omega)) ?_
 rintro _ w1 ⟨rfl,hg,ho⟩
 have hS1:=hS.growV (i:=0) (o':=vec _ 9 1 s.length ((srt s).flatMap Qh)) rfl hg rfl ho (ms':=[vec _ 9 1 s.length ((srt s).flatMap Qh)]) rfl
 refine⟨[],_,[],σ,[],[vec _ 9 1 (srt s).length ((srt s).flatMap Qh)],rfl,hm,.nil,.keep (.vec (z6g σ _) (Nat.le_trans (Nat.le_of_eq (Jc _)) hl) h1) .nil,?_⟩
 have e:(srt s).length=s.length:=Jc _
 rw[e];exact hS1
theorem Bq:q4o Proofs.Tryz.prog D 94 (conV ([.own 9 C.str]:LP) ([.vec 9 C.str]:LV) ([.vec 9 C.str]:LV) ([.same]:LV) (fun a K=>Je a.1 (fun q0=>K (q0,()) ((),())))):=by
 intro args K hm w σ vals ins hG hL hS
 obtain⟨a,ha,hm⟩:=Qi hm
 have hargs:=J4 ha
 subst hargs
 obtain⟨s,_⟩:=a
 cases hL with
 |cons hp hr=>
 cases hr
 cases hp with
 |vec hE hl h1=>
 have hx:=w05 hE
 subst hx
 have hm:K [.vec 9 C.str (cpt s)] [.same]:=hm
 refine Calls.mono (z5i Proofs.Tryz.slices_Compact_string Proofs.Tryz.slices_Compact_string_empty hS.view (hS.get (i:=0) rfl) rfl (fun b hb=>hS.off _ (List.mem_of_getElem? (i:=0) rfl) b hb) (by omega)) ?_
 rintro _ w1 ⟨v1,rfl,hf,hg,ho⟩
 have hlc:(cpt s).length<=140737488355328:=Nat.le_trans (v0t _) hl
 have hS1:=hS.growV (i:=0) (o':=vec v1 9 1 (cpt s).length ((cpt s).flatMap Qh)) rfl hg hf ho (ms':=[vec v1 9 1 (cpt s).length ((cpt s).flatMap Qh)]) rfl
 exact⟨[.vec 9 C.str (cpt s)],[.same],[v1],σ,[vec v1 9 1 (cpt s).length ((cpt s).flatMap Qh)],[],rfl,hm,.cons (.vec (z6g σ _) hlc (Gu ho)) .nil,.skip .nil,hS1⟩
theorem w8k{σ:Hv}{v:Value}{l:List ByteArray}(h:RepF D σ v (.sl C.str l)):RSl 1 (REnc Qh) σ v l:=by
 obtain⟨a,cap,e1,e2,e3,e4⟩:=h.toRSl okP.ok
 refine⟨a,cap,e1,e2,e3,fun i x hx=> ?_⟩
 obtain⟨ad,cs,f1,f2,f3,f4⟩:=e4 i x hx
 refine⟨ad,cs,f1,f2,f3,?_⟩
 obtain⟨u,rfl⟩: ∃u,cs=[u]:=List.length_eq_one_iff.1 f2
 have g1:=f4.2 0 u (.str x) rfl rfl
 cases g1
 rfl
theorem w4y{σ:Hv}{v:Value}{l:List Edg}(h:RepF D σ v (.sl C.edge l)):RSl 2 (REnc w91) σ v (l.map fun e=>(e.1,e.2)):=by
 obtain⟨a,cap,e1,e2,e3,e4⟩:=h.toRSl okP.ok
 have hl:(l.map fun e=>(e.1,e.2)).length=l.length:=List.length_map ..
 refine⟨a,cap,by rw[hl];exact e1,by rw[hl];exact e2,by rw[hl];exact e3,fun i x hx=> ?_⟩
 rw[List.getElem?_map] at hx
 obtain⟨y,hy,rfl⟩:=Option.map_eq_some_iff.1 hx
 obtain⟨ad,cs,f1,f2,f3,f4⟩:=e4 i y hy
 refine⟨ad,cs,f1,f2,f3,?_⟩
 obtain⟨u,v,rfl⟩: ∃u v,cs=[u,v]:=by
  match cs,f2 with
  |[u,v],_=>exact⟨u,v,rfl⟩
 have g1:=f4.2 0 u (.str y.src) rfl rfl
 have g2:=f4.2 1 v (.str y.dst) rfl rfl
 cases g1;cases g2
 rfl
theorem j0h:q4o Proofs.Tryz.prog D 191 (conV ([.sl C.str,.sl C.edge]:LP) ([.sl C.str,.sl C.edge]:LV) ([.vec 9 C.str,.int .i64]:LV) ([.same,.same]:LV) (fun a K=>P_graph_Order a.1 a.2.1 (fun q0 q1=>K (q0,q1,()) ((),(),())))):=by
 intro args K hm w σ vals ins hG hL hS
 obtain⟨a,ha,hm⟩:=Qi hm
 have hargs:=J4 ha
 subst hargs
 obtain⟨s,t,_⟩:=a
 cases hL with
 | @cons _ _ v1 _ _ _ hp hr=>
 cases hr with
 | @cons _ _ v2 _ _ _ hq hr=>
 cases hr
 cases hp with
 |f hf1=>
 cases hq with
 |f hf2=>
 have hm:Go.Fl.P_graph_Order s (t.map fun e=>(e.1,e.2)) (fun l n=>K [.vec 9 C.str l,.f (.int .i64 n)] [.same,.same]):=hm
 refine Calls.mono (Go.Proofs.YtjepffgpbidclaaGreatDoor.w_graph_Order s (t.map fun e=>(e.1,e.2)) v1 v2 hS.view (w8k hf1) (w4y hf2) hm) ?_
 rintro e w1 ⟨l,n,v,rfl,hS1,hsm,hK⟩
 have hl:l.length<=140737488355328:=by unfold Sml at hsm;omega
 exact⟨[.vec 9 C.str l,.f (.int .i64 n)],[.same,.same],[v,.int .i64 n],σ,[vec v 9 1 l.length (l.flatMap Qh)],[],rfl,hK,.cons (.vec (z6g σ _) hl (Gu (hS1.get (i:=0) rfl))) (.cons (ms:=[]) (.f (.int _ _)) .nil),.skip (a0:=[]) (.skip (a0:=[]) .nil),hS1⟩
theorem z6h:q4o Proofs.Tryz.prog D 245 (conV ([.v,.v]:LP) ([.str,.str]:LV) ([.vec 9 C.str]:LV) ([.same,.same]:LV) (fun a K=>q2i a.1 a.2.1 (fun q0=>K (q0,()) ((),(),())))):=by
 intro args K hm w σ vals ins hG hL hS
 obtain⟨a,ha,hm⟩:=Qi hm
 have hargs:=J4 ha
 subst hargs
 obtain⟨s,t,_⟩:=a
 cases hL with
 |cons hp hr=>
 cases hr with
 |cons hq hr=>
 cases hr
 cases hp with
 |f hf=>
 cases hf
 cases hq with
 |f hf=>
 cases hf
 have hm:t.size=1/\s.size<4294967281/\K [.vec 9 C.str (H2 s t)] [.same,.same]:=hm
 obtain⟨h1,hsz,hm⟩:=hm
 obtain⟨n,hn⟩:=hG.free 2 .i64 rfl
 have hlen:(H2 s t).length=Go.Lib.countB s t+1:=Go.Lib.splitB_all t (by omega) 0 _ s rfl
 have hcnt:=Go.Lib.countB_le t (by omega) s.size s (Nat.le_refl _)
 refine Calls.mono (Proofs.Tryz.strings_Split s t n w hsz (hS.view.cell hn) (by omega)) ?_
 rintro e w' ⟨rfl,rfl⟩
 have ho:(vec (.slice (some ⟨w.heap.size,0,none⟩) (H2 s t).length (H2 s t).length) 9 1 (H2 s t).length ((H2 s t).flatMap Qh)).ok (w.alloc (.cells ((H2 s t).map Value.string).toArray 9)):=by
  refine⟨by rw[q8h];simp,.inr ⟨w.heap.size,_,_,rfl,Nat.zero_le _,heap_alloc_new _ _,Nat.le_refl _,by unfold maxLen;omega,by simp,?_⟩⟩
  rw[q8h,Nat.mul_one]
  exact List.take_of_length_le (by rw[List.length_map];exact Nat.le_refl _)
 have hS1:=hS.add (Jr w _) ho (by rintro k ⟨⟩;exact Nat.le_refl _)
 have hl:(H2 s t).length<=140737488355328:=by omega
 have hr:=(⟨[.vec 9 C.str (H2 s t)],[.same,.same],[_],σ,[_],[],rfl,hm,.cons (.vec (z6g σ _) hl (Gu ho)) .nil,.skip (a0:=[]) (.skip (a0:=[]) .nil),hS1⟩:Back D σ w [.f (.str s),.f (.str t)] [.string s,.string t] [] K (.returned (retV [.slice (some ⟨w.heap.size,0,none⟩) (H2 s t).length (H2 s t).length])) (w.alloc (.cells ((H2 s t).map Value.string).toArray 9)))
 rw[hlen] at hr
 exact hr
theorem v2x: ∀c,c<256->j6v[c]? =some (if Go.Lib.isSp (UInt8.ofNat c) then (1:Int) else 0):=by decide
theorem w06: ∀(ws:Bool) (l:List UInt8),Go.Lib.cntF ws l<=l.length
 |_,[]=>by simp[Go.Lib.cntF]
 |ws,b::l=>by
  have:=w06 (Go.Lib.isSp b) l
  simp only[Go.Lib.cntF,List.length_cons]
  split<;>omega
theorem z30:q4o Proofs.Tryz.prog D 85 (conV ([.v]:LP) ([.str]:LV) ([.vec 9 C.str]:LV) ([.same]:LV) (fun a K=>q0q a.1 (fun q0=>K (q0,()) ((),())))):=by
 intro args K hm w σ vals ins hG hL hS
 obtain⟨a,ha,hm⟩:=Qi hm
 have hargs:=J4 ha
 subst hargs
 obtain⟨s,_⟩:=a
 cases hL with
 |cons hp hr=>
 cases hr
 cases hp with
 |f hf=>
 cases hf
 have hm:s.size<4294967281/\w03 s/\K [.vec 9 C.str (Vg s)] [.same]:=hm
 obtain⟨hsz,hasc,hm⟩:=hm
 have hT: ∀c:Nat,c<256->w.cell? ⟨Proofs.Tryz.lays157_ren.g 0,c,none⟩=some (.int .u8 (if Go.Lib.isSp (UInt8.ofNat c) then 1 else 0)):=fun c hc=>by
  have h:=hG.known (Proofs.Tryz.lays157_ren.g 0)
  obtain⟨v,h1,h2⟩:=z41 (T:= .u8) (n:=256) (l:=j6v) hS.view h (i:=c) (j:=0) (s:= .int .u8 (if Go.Lib.isSp (UInt8.ofNat c) then 1 else 0)) (v2x c hc) rfl (by decide)
  cases h2
  simpa [show D.size C.u8=1 from rfl] using h1
 have hlen:(Vg s).length=(Go.Lib.fields s.data.toList).length:=by unfold Vg;rw[List.length_map]
 have hcnt:(Go.Lib.fields s.data.toList).length<=s.size:=by rw[Go.Lib.fields_length];exact Nat.le_trans (w06 _ _) (Nat.le_of_eq rfl)
 refine Calls.mono (Go.Proofs.Any.strings_Fields_core Proofs.Tryz.lays157 (by kernel_rfl) s w hsz hasc hT) ?_
 rintro e w' ⟨rfl,rfl⟩
 rw[show (Go.Lib.fields s.data.toList).map (fun l=>Value.string ⟨l.toArray⟩)=(Vg s).map Value.string by unfold Vg;rw[List.map_map];rfl,←hlen]
 rw[←hlen] at hcnt
 have ho:(vec (.slice (some ⟨w.heap.size,0,none⟩) (Vg s).length (Vg s).length) 9 1 (Vg s).length ((Vg s).flatMap Qh)).ok (w.alloc (.cells ((Vg s).map Value.string).toArray 9)):=by
  refine⟨by rw[q8h];simp,.inr ⟨w.heap.size,_,_,rfl,Nat.zero_le _,heap_alloc_new _ _,Nat.le_refl _,by unfold maxLen;omega,by simp,?_⟩⟩
  rw[q8h,Nat.mul_one]
  exact List.take_of_length_le (by rw[List.length_map];exact Nat.le_refl _)
 have hS1:=hS.add (Jr w _) ho (by rintro k ⟨⟩;exact Nat.le_refl _)
 exact (⟨[.vec 9 C.str (Vg s)],[.same],[_],σ,[_],[],rfl,hm,.cons (.vec (z6g σ _) (by omega) (Gu ho)) .nil,.skip (a0:=[]) .nil,hS1⟩:Back D σ w [.f (.str s)] [.string s] [] K (.returned (retV [.slice (some ⟨w.heap.size,0,none⟩) (Vg s).length (Vg s).length])) (w.alloc (.cells ((Vg s).map Value.string).toArray 9)))
end Go.En
end
noncomputable section
set_option maxRecDepth 100000
open Go Go.RowKit Go.Fl Go.Fl.Lk Go.Fx
namespace Go.En
def q2t(X:Wy):Con Sg:=conS [] [.vec 9 C.str] fun _ K=>X (fun q0=>K (q0,()))
theorem q5u:MT 19 (q2t Bk):=mS (l:=[]) trivial []
def Hj(X:Js):Con Sg:=conS [.int .u8,.int .u8,.int .u16,.int .u16,.int .u16] [.el C.env] fun a K=>X a.1 a.2.1 a.2.2.1 a.2.2.2.1 a.2.2.2.2.1 (fun q0=>K (q0,()))
theorem z32{Q0:Wy}(h:AL [(19,q2t Q0)]):MT 28 (Hj (q0m Q0)):=mS h [(13,⟨bl 68702731295,[4,1,0],[(2,(42,8))],[sI 15,(.cell 2 5,.own 84 C.flag)]⟩),(21,⟨bl 273606445743135,[6,2],[(7,(84,13))],[sI 17,(.cell 7 2,.own 65 C.val)]⟩),(31,⟨bl 1099494915103,[6,4,1,0],[(2,(42,8))],[sI 18,(.cell 2 6,.own 91 C.layer)]⟩),(45,⟨bl 324518398916143177040605671652383,[8,6,4,1,0],[(2,(42,8))],[sI 22,(.cell 2 7,.own 97 C.exper)]⟩)]
theorem q6j:MT 28 (Hj V3):=z32 ⟨q5u,trivial⟩
def z6i(X:q4q):Con Sg:=conS [.str] [.el C.subj] fun a K=>X a.1 (fun q0=>K (q0,()))
theorem j24:MT 23 (z6i q62):=mS (l:=[]) trivial []
def q2u(X:W7):Con Sg:=conS [.el C.subj,.str] [.int .i64] fun a K=>X a.1 a.2.1 (fun q0=>K (q0,()))
theorem q7c:MT 99 (q2u Uu):=mS (l:=[]) trivial [(135000005,⟨bl 195,[1],[],[sI 8]⟩)]
def R2(X:Wo):Con Sg:=conS [.el C.val] [.el C.val] fun a K=>X a.1 (fun q0=>K (q0,()))
theorem q5v:MT 122 (R2 Wp):=mS (l:=[]) trivial []
def Br(X:W8):Con Sg:=conS [.el C.attr] [.el C.attr] fun a K=>X a.1 (fun q0=>K (q0,()))
theorem z2y{Zl:Wo}(h:AL [(122,R2 Zl)]):MT 137 (Br (Bl Zl)):=mS h []
theorem z2z:MT 137 (Br Ge):=z2y ⟨q5v,trivial⟩
def q2v(X:Uv):Con Sg:=conS [.el C.ctx] [.el C.ctx] fun a K=>X a.1 (fun q0=>K (q0,()))
theorem z6j{Gm:W8}(h:AL [(137,Br Gm)]):MT 100 (q2v (q2f Gm)):=mS h [(137000007,⟨bl 7955,[],[],[(.slot 5,.own 244 C.attr),sI 13]⟩)]
theorem z6k:MT 100 (q2v Ra):=z6j ⟨z2z,trivial⟩
def G6(X:Jh):Con Sg:=conS [.el C.subj,.str] [.el C.ctx,.bool] fun a K=>X a.1 a.2.1 (fun q0 q1=>K (q0,q1,()))
theorem z73{Z6:W7}{Bb:Uv}(h:AL [(99,q2u Z6),(100,q2v Bb)]):MT 67 (G6 (q3v Z6 Bb)):=mS h []
theorem q38:MT 67 (G6 Ud):=z73 ⟨q7c,z6k,trivial⟩
def q82(X:Bz):Con Sg:=conS [.sl C.bytes] [.vec 5 C.u8] fun a K=>X a.1 (fun q0=>K (q0,()))
theorem z74:MT 112 (q82 B0):=mS (l:=[]) trivial [(7,⟨bl 389,[],[],[(.slot 3,.own 5 C.u8),sI 9]⟩),(13,⟨bl 8101,[],[],[(.slot 3,.own 5 C.u8),sI 6]⟩)]
def q2w(X:Vh):Con Sg:=conS [.int .u64,.int .i64] [.int .u64] fun a K=>X a.1 a.2.1 (fun q0=>K (q0,()))
theorem q9t:MT 192 (q2w Vi):=mS (l:=[]) trivial []
def W4(X:Zq):Con Sg:=conV [.ptr 253 [.v,.v,.v,.v],.v] [.ptr 253 [.int .u64,.int .u64,.int .u64,.int .u64],.int .i64] [] [.ptr 253 [.int .u64,.int .u64,.int .u64,.int .u64],.same] fun a K=>X a.1.1 a.1.2.1 a.1.2.2.1 a.1.2.2.2.1 a.2.1 (fun q0 q1 q2 q3=>K () ((q0,q1,q2,q3,()),(),()))
theorem q8p{Zf:Vh}(h:AL [(192,q2w Zf)]):MT 148 (W4 (Gv Zf)):=mP (rk:=[]) h [(3,⟨[0,1,4],[],[(0,(253,4))],[sI 5,(.cell 0 0,.int IntKind.u64),(.cell 0 1,.int IntKind.u64),(.cell 0 2,.int IntKind.u64),(.cell 0 3,.int IntKind.u64)]⟩)]
theorem q00:MT 148 (W4 Zh):=q8p ⟨q9t,trivial⟩
def R3(X:Wq):Con Sg:=conV [.ptr 253 [.v,.v,.v,.v],.v] [.ptr 253 [.int .u64,.int .u64,.int .u64,.int .u64],.int .u64] [] [.ptr 253 [.int .u64,.int .u64,.int .u64,.int .u64],.same] fun a K=>X a.1.1 a.1.2.1 a.1.2.2.1 a.1.2.2.2.1 a.2.1 (fun q0 q1 q2 q3=>K () ((q0,q1,q2,q3,()),(),()))
theorem z01{Q7:Zq}(h:AL [(148,W4 Q7)]):MT 147 (R3 (Rb Q7)):=mP (rk:=[]) h []
theorem z02:MT 147 (R3 Uk):=z01 ⟨q00,trivial⟩
end Go.En
end
noncomputable section
set_option maxRecDepth 100000
open Go Go.RowKit Go.Fl Go.Fl.Lk Go.Fx
namespace Go.En
def q7d(X:q0d):Con Sg:=conS [.int .u64,.int .u64,.sl C.u8] [.int .u64] fun a K=>X a.1 a.2.1 a.2.2.1 (fun q0=>K (q0,()))
theorem j25{Ww:Wq}{Q7:Zq}(h:AL [(147,R3 Ww),(148,W4 Q7)]):MT 111 (q7d (q63 Ww Q7)):=mS h [(9,⟨bl 67101127,[],[(0,(253,4))],[sI 9,(.cell 0 0,.int IntKind.u64),(.cell 0 1,.int IntKind.u64),(.cell 0 2,.int IntKind.u64),(.cell 0 3,.int IntKind.u64)]⟩),(17,⟨bl 2147476423,[0],[],[(.slot 10,.int IntKind.u64),sI 33]⟩),(29,⟨bl 15762600843272903,[0],[],[(.slot 8,.int IntKind.u64),sI 54]⟩)]
theorem j26:MT 111 (q7d q3d):=j25 ⟨z02,q00,trivial⟩
def q5w(X:Rc):Con Sg:=conS [.int .u64,.sl C.bytes] [.int .u64] fun a K=>X a.1 a.2.1 (fun q0=>K (q0,()))
theorem j0i{B5:Bz}{q3o:q0d}(h:AL [(112,q82 B5),(111,q7d q3o)]):MT 80 (q5w (q47 B5 q3o)):=mS h []
theorem j0j:MT 80 (q5w q06):=j0i ⟨z74,j26,trivial⟩
def Bt(X:J5):Con Sg:=conS [.str,.str] [.int .i64] fun a K=>X a.1 a.2.1 (fun q0=>K (q0,()))
theorem j45{q1s:Rc}(h:AL [(80,q5w q1s)]):MT 35 (Bt (q9l q1s)):=mS h []
theorem q5x:MT 35 (Bt Vj):=j45 ⟨j0j,trivial⟩
def q7e(X:Rd):Con Sg:=conS [.sl C.forced,.str] [.el C.forced,.bool] fun a K=>X a.1 a.2.1 (fun q0 q1=>K (q0,q1,()))
theorem z6l:MT 68 (q7e Re):=mS (l:=[]) trivial [(5,⟨bl 787,[],[(0,(142,3))],[sI 10,(.cell 0 0,.str),(.cell 0 1,.str),(.cell 0 2,.int .i64)]⟩)]
def z03(X:q07):Con Sg:=conS [.el C.env,.el C.forced] [.bool] fun a K=>X a.1 a.2.1 (fun q0=>K (q0,()))
theorem j0k:MT 69 (z03 q08):=mSg 8 (l:=[]) trivial [(46000005,⟨bl 195,[1],[],[sI 8]⟩),(139000005,⟨bl 195,[],[],[sI 8]⟩)]
def q5y(X:Rf):Con Sg:=conS [.el C.env,.el C.subj] [.bool] fun a K=>X a.1 a.2.1 (fun q0=>K (q0,()))
theorem j0l{Zb:Jh}{Q1:J5}(h:AL [(67,G6 Zb),(35,Bt Q1)]):MT 70 (q5y (q48 Zb Q1)):=mS h []
theorem j0m:MT 70 (q5y q09):=j0l ⟨q38,q5x,trivial⟩
def q1l(X:Gf):Con Sg:=conS [.int .i64] [.bool] fun a K=>X a.1 (fun q0=>K (q0,()))
theorem z04:MT 182 (q1l Vk):=mS (l:=[]) trivial []
def Jt(X:Q5):Con Sg:=conS [.sl C.str,.sl C.str] [.bool] fun a K=>X a.1 a.2.1 (fun q0=>K (q0,()))
theorem Ua:MT 216 (Jt Zg):=mS (l:=[]) trivial [(9,⟨bl 8131,[],[],[sI 13]⟩)]
def q3j(X:q0e):Con Sg:=conS [.el C.val,.el C.val] [.bool] fun a K=>X a.1 a.2.1 (fun q0=>K (q0,()))
theorem j27{Qq:Q5}(h:AL [(216,Jt Qq)]):MT 280 (q3j (q64 Qq)):=mS h []
theorem j28:MT 280 (q3j H3):=j27 ⟨Ua,trivial⟩
def q5z(X:Uw):Con Sg:=conV [.el C.ex,.el C.ex] [.el C.ex,.el C.ex] [.bool] [.same,.same] fun a K=>X a.1 a.2.1 (fun q0=>K (q0,()) ((),(),()))
def z3q:PT:=Q4 ([(280000009,⟨bl 130055,[],[],[sI 17]⟩),(282000009,⟨bl 130055,[],[],[sI 17]⟩)]:LS)
theorem j0n(q3p:q0e)(X:Uw)(a:Ex)(b:Ex)(K:Bool->Prop):q9m q3p X a b K=fnV (((WL [(280,q3j q3p)]).with 267 (q5z X)).pl z3q) 4 267 ([.el C.ex,.el C.ex]:LP) ([.v]:LP) ([.el C.ex,.el C.ex]:LV) ([.bool]:LV) ([.same,.same]:LV) (a,b,()) (fun r _=>K r.1):=by kernel_rfl
theorem j46:MT 267 (q5z Hr):=by
 show MT _ (conV ([.el C.ex,.el C.ex]:LP) ([.el C.ex,.el C.ex]:LV) ([.bool]:LV) ([.same,.same]:LV) fun a K=>Hr a.1 a.2.1 (fun q0=>K (q0,()) ((),(),())))
 refine mR (l:=[(280,q3j H3)]) (u:=4) (rk:=[.v]) (p:=z3q) ⟨j28,trivial⟩ (by kernel_rfl) fun a K h X hX=> ?_
 exact h (fun a b K=>X (a,b,()) fun r _=>K r.1) (fun a b K hs=>hX (a,b,()) (fun r _=>K r.1) (Eq.mp (j0n H3 (fun a b K=>X (a,b,()) fun r _=>K r.1) a b K) hs))
def q39(X:J2):Con Sg:=conV [.own 95 C.ex,.el C.ex] [.vec 95 C.ex,.el C.ex] [.vec 95 C.ex] [.same,.same] fun a K=>X a.1 a.2.1 (fun q0=>K (q0,()) ((),(),()))
def q7f:PT:=Q4 ([(6,⟨[1,3,4],[1],[],[(.slot 0,.own 95 C.ex)]⟩),(9,⟨bl 234881050,[1],[],[(.slot 0,.own 95 C.ex),sI 28]⟩),(180000005,⟨bl 195,[0],[],[sI 8]⟩)]:LS)
theorem z33(Jx:Gf)(q27:Uw)(X:J2)(l:List (Ex))(e:Ex)(K:List (Ex)->Prop):q3w Jx q27 X l e K=fnV (((WL [(182,q1l Jx),(267,q5z q27)]).with 248 (q39 X)).pl q7f) 4 248 ([.own 95 C.ex,.el C.ex]:LP) ([.own 95 C.ex]:LP) ([.vec 95 C.ex,.el C.ex]:LV) ([.vec 95 C.ex]:LV) ([.same,.same]:LV) (l,e,()) (fun r _=>K r.1):=by kernel_rfl
theorem z77:MT 248 (q39 B1):=by
 show MT _ (conV ([.own 95 C.ex,.el C.ex]:LP) ([.vec 95 C.ex,.el C.ex]:LV) ([.vec 95 C.ex]:LV) ([.same,.same]:LV) fun a K=>B1 a.1 a.2.1 (fun q0=>K (q0,()) ((),(),())))
 refine mR (l:=[(182,q1l Vk),(267,q5z Hr)]) (u:=4) (rk:=[.own 95 C.ex]) (p:=q7f) ⟨z04,j46,trivial⟩ (by kernel_rfl) fun a K h X hX=> ?_
 exact h (fun l e K=>X (l,e,()) fun r _=>K r.1) (fun l e K hs=>hX (l,e,()) (fun r _=>K r.1) (Eq.mp (z33 Vk Hr (fun l e K=>X (l,e,()) fun r _=>K r.1) l e K) hs))
def q7g(X:Vd):Con Sg:=conV [.el C.ex] [.el C.ex] [.el C.ex] [.same] fun a K=>X a.1 (fun q0=>K (q0,()) ((),()))
def z05:PT:=Q4 ([(269000007,⟨bl 7955,[],[],[(.slot 5,.own 65 C.val),sI 13]⟩),(248000007,⟨bl 7955,[],[],[(.slot 5,.own 95 C.ex),sI 13]⟩)]:LS)
theorem z78(Zl:Wo)(X:Vd)(e:Ex)(K:Ex->Prop):q65 Zl X e K=fnV (((WL [(122,R2 Zl)]).with 249 (q7g X)).pl z05) 4 249 ([.el C.ex]:LP) ([.el C.ex]:LP) ([.el C.ex]:LV) ([.el C.ex]:LV) ([.same]:LV) (e,()) (fun r _=>K r.1):=by kernel_rfl
theorem j29:MT 249 (q7g q3e):=by
 show MT _ (conV ([.el C.ex]:LP) ([.el C.ex]:LV) ([.el C.ex]:LV) ([.same]:LV) fun a K=>q3e a.1 (fun q0=>K (q0,()) ((),())))
 refine mR (l:=[(122,R2 Wp)]) (u:=4) (rk:=[.el C.ex]) (p:=z05) ⟨q5v,trivial⟩ (by kernel_rfl) fun _ K h X hX=> ?_
 exact h (fun e K=>X (e,()) fun r _=>K r.1) (fun e K hs=>hX (e,()) (fun r _=>K r.1) (Eq.mp (z78 Wp (fun e K=>X (e,()) fun r _=>K r.1) e K) hs))
end Go.En
end
noncomputable section
set_option maxRecDepth 100000
open Go Go.RowKit Go.Fl Go.Fl.Lk Go.Fx
namespace Go.En
def q4a(X:G3):Con Sg:=conS [.el C.ex] [.vec 95 C.ex] fun a K=>X a.1 (fun q0=>K (q0,()))
theorem z79{B6:J2}{q3q:Vd}(h:AL [(248,q39 B6),(249,q7g q3q)]):MT 225 (q4a (q3x B6 q3q)):=mS h [(248000007,⟨bl 7955,[1],[],[(.slot 5,.own 95 C.ex),sI 13]⟩)]
theorem z8a:MT 225 (q4a q3y):=z79 ⟨z77,j29,trivial⟩
def Jw(X:Zi):Con Sg:=conV [.own 9 C.str] [.vec 9 C.str] [] [.vec 9 C.str] fun a K=>X a.1 (fun q0=>K () (q0,()))
theorem Uo:MT 93 (Jw Z1):=⟨entB (by kernel_rfl),q1k⟩
def Vb(X:Jd):Con Sg:=conV [.own 9 C.str] [.vec 9 C.str] [.vec 9 C.str] [.same] fun a K=>X a.1 (fun q0=>K (q0,()) ((),()))
theorem Bu:MT 94 (Vb Je):=⟨entB (by kernel_rfl),Bq⟩
def q0t(X:V4):Con Sg:=conS [.el C.ex] [.sl C.str] fun a K=>X a.1 (fun q0=>K (q0,()))
theorem z34{B7:G3}{Qs:Zi}{Zo:Jd}(h:AL [(225,q4a B7),(93,Jw Qs),(94,Vb Zo)]):MT 190 (q0t (q0n B7 Qs Zo)):=mS h [(7,⟨bl 455,[1,0],[],[(.slot 3,.own 9 C.str),sI 9]⟩)]
theorem z35:MT 190 (q0t Hc):=z34 ⟨z8a,Uo,Bu,trivial⟩
def z06(X:q49):Con Sg:=conV [.sl C.str,.sl C.edge] [.sl C.str,.sl C.edge] [.vec 9 C.str,.int .i64] [.same,.same] fun a K=>X a.1 a.2.1 (fun q0 q1=>K (q0,q1,()) ((),(),()))
theorem j0o:MT 191 (z06 P_graph_Order):=⟨entB (by kernel_rfl),j0h⟩
def q2x(X:Ux):Con Sg:=conS [.sl C.seg] [.vec 9 C.str,.int .i64] fun a K=>X a.1 (fun q0 q1=>K (q0,q1,()))
theorem z6m{Hm:V4}{q1t:q49}(h:AL [(190,q0t Hm),(191,z06 q1t)]):MT 144 (q2x (q2g Hm q1t)):=mS h [(9,⟨bl 3085,[],[],[(.slot 4,.own 9 C.str),(.slot 5,.own 297 C.edge),sI 12]⟩),(17,⟨bl 33488029,[6,5,3],[],[(.slot 5,.own 297 C.edge),sI 25]⟩)]
theorem z6n:MT 144 (q2x Rg):=z6m ⟨z35,j0o,trivial⟩
def q0u(X:V5):Con Sg:=conS [.el C.subj,.str,.str] [.el C.val,.bool] fun a K=>X a.1 a.2.1 a.2.2.1 (fun q0 q1=>K (q0,q1,()))
theorem z36{Z6:W7}{Zl:Wo}(h:AL [(99,q2u Z6),(122,R2 Zl)]):MT 181 (q0u (q0o Z6 Zl)):=mS h [(17,⟨bl 1912468303,[2,0],[(1,(65,4))],[sI 31,(.cell 1 0,.int .i64),(.cell 1 1,.int .i64),(.cell 1 2,.str),(.cell 1 3,.sl C.str)]⟩)]
theorem z38:MT 181 (q0u Hd):=z36 ⟨q7c,q5v,trivial⟩
def q50(X:Rh):Con Sg:=conS [.el C.val,.el C.val] [.bool] fun a K=>X a.1 a.2.1 (fun q0=>K (q0,()))
theorem j0p{Qq:Q5}(h:AL [(216,Jt Qq)]):MT 185 (q50 (q5a Qq)):=mS h []
theorem j0q:MT 185 (q50 Ri):=j0p ⟨Ua,trivial⟩
def Vu(X:Zn):Con Sg:=conS [.str,.str] [.bool] fun a K=>X a.1 a.2.1 (fun q0=>K (q0,()))
theorem R4:MT 217 (Vu Z2):=mS (l:=[]) trivial []
def Hy(X:J6):Con Sg:=conS [.str,.str] [.bool] fun a K=>X a.1 a.2.1 (fun q0=>K (q0,()))
theorem q9u{Q3:Zn}(h:AL [(217,Vu Q3)]):MT 186 (Hy (Hs Q3)):=mS h []
theorem q9v:MT 186 (Hy Vl):=q9u ⟨R4,trivial⟩
def R5(X:Jv):Con Sg:=conS [.str,.str] [.bool] fun a K=>X a.1 a.2.1 (fun q0=>K (q0,()))
theorem q51:MT 218 (R5 Vm):=mS (l:=[]) trivial []
def Hz(X:J7):Con Sg:=conS [.str,.str] [.bool] fun a K=>X a.1 a.2.1 (fun q0=>K (q0,()))
theorem q9w{Jy:Jv}(h:AL [(218,R5 Jy)]):MT 187 (Hz (Ht Jy)):=mS h []
theorem q9x:MT 187 (Hz Vn):=q9w ⟨q51,trivial⟩
end Go.En
end
