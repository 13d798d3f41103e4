/- For every input AuditStays returns true and leaves its arguments as they were. This is part 4 of 10. Conditions: those in the statements. -/
import Derived.Test.YtjepffgpbidclaaGreatDoorProg
import Derived.Test.YtjepffgpbidclaaGreatDoorSy3
import Derived.Lib.ValidU
import Derived.Lib.ItoaNum
import Derived.KernelRfl
import Derived.Conc.MuLone
import Derived.Shelf.Small.Bits
import Derived.Shelf.Utf8.RuneCount
import Derived.Shelf.Strconv.Atoi
import Derived.Shelf.Strconv.Itoa0
import Derived.Shelf.Strconv.Itoa1
import Derived.Shelf.LaysM
import Derived.Shelf.Strconv.Itoa2
import Derived.Shelf.Strconv.Itoa3
import Derived.Shelf.Strconv.AtoiErrFast
import Derived.Shelf.Strconv.ParseIntEmpty
import Derived.Shelf.Strconv.AtoiFail
import Derived.Shelf.Strconv.Clone
import Derived.Shelf.Strconv.SyntaxError
import Derived.Shelf.LaysC
import Derived.Shelf.Strconv.ToError
import Derived.Shelf.Strconv.Lower
import Derived.Shelf.Strconv.ParseUint10
import Derived.Shelf.Strconv.ParseUint10Empty
import Derived.Shelf.Strconv.ParseUint10Any
import Derived.Shelf.Strconv.ParseInt10
import Derived.Shelf.Strconv.AtoiLong
import Derived.Shelf.Strconv.AtoiInnerAll
import Derived.Shelf.Strconv.RangeError
import Derived.Shelf.Strconv.ToErrorRange
import Derived.Shelf.Strconv.AtoiAll
import Derived.Shelf.Strconv.ErrVarAll
import Derived.Shelf.Strings.Search1
import Derived.Shelf.Strings.Search2
import Derived.Shelf.Strings.Search3
import Derived.Shelf.Strings.Count
import Derived.Shelf.Strings.Shaped
import Derived.Shelf.Sort.Plain
import Derived.Shelf.Strings.Split
import Derived.Shelf.Strings.Fields
import Derived.Shelf.Strings.SplitShaped
import Derived.Shelf.Unicode.Latin
import Derived.Shelf.Unicode.Decode
import Derived.Shelf.Strings.RuneCount
import Derived.Shelf.Strings.Explode
import Derived.Shelf.Unicode.DecodeSlow
import Derived.Shelf.Unicode.DecodeAny
import Derived.Shelf.Unicode.Is16White
import Derived.Shelf.Unicode.IsSpaceAny
import Derived.Shelf.Unicode.Is16Any
import Derived.Shelf.Unicode.Is32Any
import Derived.Shelf.Unicode.ExclAny
import Derived.Ground.Names2Prog
import Derived.Shelf.Slices.Clone
import Derived.Shelf.Slices.CompactS
import Derived.Shelf.Slices.SearchI
import Derived.Shelf.Slices.Delete
import Derived.Shelf.Slices.Cells
import Derived.Shelf.Slices.In.SortNone
import Derived.Shelf.Slices.Empties
import Derived.Ground.SlgnProg
import Derived.Shelf.SlicesE.Clone
import Derived.Ground.NamesProg
import Derived.Shelf.Unicode.ValidAny
import Derived.Shelf.SlIter.Sorted
import Derived.Ground.GgzProg
import Derived.Shelf.SlIter.Collect
import Derived.WalkKit
import Derived.OwnWalkIn
import Derived.TacticsInMore
import Derived.LoopNIn
import Derived.LoopIn
import Derived.RangeFuncLeaves
import Derived.Lib.AppendIntMem
noncomputable section
set_option maxRecDepth 100000
open Go Go.RowKit Go.Fl Go.Fl.Lk Go.Fx
namespace Go.En
abbrev Two(p:Prop):Prop:=p/\p
abbrev Gj:Type:=(List (ByteArray)->Prop)->Prop
def Jr:Gj:=fun K=>K [B8 [104,111,109,101],B8 [115,104,111,112]]
abbrev J6:Type:=Int->Int->Int->Int->Int->(Envt->Prop)->Prop
def q1w(Qu:Gj):J6:=fun salt hold cut one two K=>(26:Int)≠(0:Int)/\(↑((B8 [115]).size+(bsOf [Go.IntKind.u8.wrap ((97:Int)+salt.tmod (26:Int))]).size):Int)<=(9223372036854775807:Int)/\InI hold/\(50:Int)≠(0:Int)/\InI (hold.tmod (50:Int)*(20:Int))/\Lp2 (fun Qi q0r v04=>[B8 [102,97,115,116,45,102,108,97,103],B8 [115,104,111,112,45,102,108,97,103],B8 [115,108,111,119,45,102,108,97,103],B8 [116,111,112,45,102,108,97,103]].length<=(9223372036854775807:Nat)->Cnd (Qi<(↑[B8 [102,97,115,116,45,102,108,97,103],B8 [115,104,111,112,45,102,108,97,103],B8 [115,108,111,119,45,102,108,97,103],B8 [116,111,112,45,102,108,97,103]].length:Int)) (((0:Int)<=Qi/\Qi<(↑[B8 [102,97,115,116,45,102,108,97,103],B8 [115,104,111,112,45,102,108,97,103],B8 [115,108,111,119,45,102,108,97,103],B8 [116,111,112,45,102,108,97,103]].length:Int))/\ ∀y2,[B8 [102,97,115,116,45,102,108,97,103],B8 [115,104,111,112,45,102,108,97,103],B8 [115,108,111,119,45,102,108,97,103],B8 [116,111,112,45,102,108,97,103]][Qi.toNat]? =some y2->Lp2 (fun Zt Hn j7k=>Cnd (Zt<=3) (InI (Zt*10)/\Sml (Hn++[Val.mk (2:Int) (Zt*10) (B8 []) []]).length/\InI (Zt+1)/\j7k (Zt+1) (Hn++[Val.mk (2:Int) (Zt*10) (B8 []) []])) (Sml (q0r++[Flg.mk y2 (2:Int) Hn true (3:Int) [] [] [] (Srv.mk (3:Int) (B8 []) (B8 []) (B8 []) [])]).length/\InI (Qi+1)/\v04 (Qi+1) (q0r++[Flg.mk y2 (2:Int) Hn true (3:Int) [] [] [] (Srv.mk (3:Int) (B8 []) (B8 []) (B8 []) [])]))) (1:Int) []) (Lp2 (fun Zs q4n j3j=>Cnd (Zs<2) (Qu fun Qj=>At Qj Zs fun y4=>Qu fun Jm=>At Jm Zs fun y7=>(↑((B8 [115]++bsOf [Go.IntKind.u8.wrap ((97:Int)+salt.tmod (26:Int))]).size+y7.size):Int)<=(9223372036854775807:Int)/\Sml (q4n++[Lay_.mk y4 (B8 [117,115,101,114]) (B8 [115]++bsOf [Go.IntKind.u8.wrap ((97:Int)+salt.tmod (26:Int))]++y7) (hold.tmod (50:Int)*(20:Int)) (0:Int) []]).length/\InI (Zs+1)/\j3j (Zs+1) (q4n++[Lay_.mk y4 (B8 [117,115,101,114]) (B8 [115]++bsOf [Go.IntKind.u8.wrap ((97:Int)+salt.tmod (26:Int))]++y7) (hold.tmod (50:Int)*(20:Int)) (0:Int) []])) (InI one/\(9998:Int)≠(0:Int)/\InI ((1:Int)+one.tmod (9998:Int))/\InI ((1:Int)+one.tmod (9998:Int)+(1:Int))/\InI two/\InI ((9999:Int) - ((1:Int)+one.tmod (9998:Int)))/\(9999:Int) - ((1:Int)+one.tmod (9998:Int))≠(0:Int)/\InI ((1:Int)+one.tmod (9998:Int)+(1:Int)+two.tmod ((9999:Int) - ((1:Int)+one.tmod (9998:Int))))/\InI (hold.tmod (50:Int)*(20:Int)+(1:Int))/\InI cut/\InI ((10000:Int) - hold.tmod (50:Int)*(20:Int))/\InI ((10000:Int) - hold.tmod (50:Int)*(20:Int) - (1:Int))/\(10000:Int) - hold.tmod (50:Int)*(20:Int) - (1:Int)≠(0:Int)/\InI (hold.tmod (50:Int)*(20:Int)+(1:Int)+cut.tmod ((10000:Int) - hold.tmod (50:Int)*(20:Int) - (1:Int)))/\Lp2 (fun Qj R4 z8f=>Cnd (Qj<4) ((2:Int)≠(0:Int)/\((0:Int)<=Qj/\Qj<(↑[B8 [102,97,115,116,45,102,108,97,103],B8 [115,104,111,112,45,102,108,97,103],B8 [115,108,111,119,45,102,108,97,103],B8 [116,111,112,45,102,108,97,103]].length:Int))/\ ∀y4,[B8 [102,97,115,116,45,102,108,97,103],B8 [115,104,111,112,45,102,108,97,103],B8 [115,108,111,119,45,102,108,97,103],B8 [116,111,112,45,102,108,97,103]][Qj.toNat]? =some y4->(((0:Int)<=Qj/\Qj<(↑[B8 [98,108,117,101],B8 [102,97,115,116],B8 [103,114,101,101,110],B8 [115,108,111,119]].length:Int))/\ ∀y6,[B8 [98,108,117,101],B8 [102,97,115,116],B8 [103,114,101,101,110],B8 [115,108,111,119]][Qj.toNat]? =some y6->(Qu fun Ui=>((0:Int)<=Qj.tmod (2:Int)/\Qj.tmod (2:Int)<(↑Ui.length:Int))/\ ∀y9,Ui[(Qj.tmod (2:Int)).toNat]? =some y9->(↑((B8 [115]++bsOf [Go.IntKind.u8.wrap ((97:Int)+salt.tmod (26:Int))]).size+(bsOf [Go.IntKind.u8.wrap ((48:Int)+Go.IntKind.u8.wrap Qj)]).size):Int)<=(9223372036854775807:Int)/\Cnd ((2:Int)<=Qj) (Sml (R4++[Exper.mk y6 y9 y4 (B8 [115]++bsOf [Go.IntKind.u8.wrap ((97:Int)+salt.tmod (26:Int))]++bsOf [Go.IntKind.u8.wrap ((48:Int)+Go.IntKind.u8.wrap Qj)]) (2:Int) [Spn.mk (hold.tmod (50:Int)*(20:Int)+(1:Int)+cut.tmod ((10000:Int) - hold.tmod (50:Int)*(20:Int) - (1:Int))) (10000:Int)] [Rng.mk (0:Int) ((1:Int)+one.tmod (9998:Int)) (1:Int),Rng.mk ((1:Int)+one.tmod (9998:Int)) ((1:Int)+one.tmod (9998:Int)+(1:Int)+two.tmod ((9999:Int) - ((1:Int)+one.tmod (9998:Int)))) (2:Int),Rng.mk ((1:Int)+one.tmod (9998:Int)+(1:Int)+two.tmod ((9999:Int) - ((1:Int)+one.tmod (9998:Int)))) (10000:Int) (3:Int)] (Ex.mk (1:Int) (B8 []) (B8 []) [] [])]).length/\InI (Qj+1)/\z8f (Qj+1) (R4++[Exper.mk y6 y9 y4 (B8 [115]++bsOf [Go.IntKind.u8.wrap ((97:Int)+salt.tmod (26:Int))]++bsOf [Go.IntKind.u8.wrap ((48:Int)+Go.IntKind.u8.wrap Qj)]) (2:Int) [Spn.mk (hold.tmod (50:Int)*(20:Int)+(1:Int)+cut.tmod ((10000:Int) - hold.tmod (50:Int)*(20:Int) - (1:Int))) (10000:Int)] [Rng.mk (0:Int) ((1:Int)+one.tmod (9998:Int)) (1:Int),Rng.mk ((1:Int)+one.tmod (9998:Int)) ((1:Int)+one.tmod (9998:Int)+(1:Int)+two.tmod ((9999:Int) - ((1:Int)+one.tmod (9998:Int)))) (2:Int),Rng.mk ((1:Int)+one.tmod (9998:Int)+(1:Int)+two.tmod ((9999:Int) - ((1:Int)+one.tmod (9998:Int)))) (10000:Int) (3:Int)] (Ex.mk (1:Int) (B8 []) (B8 []) [] [])])) (Sml (R4++[Exper.mk y6 y9 y4 (B8 [115]++bsOf [Go.IntKind.u8.wrap ((97:Int)+salt.tmod (26:Int))]++bsOf [Go.IntKind.u8.wrap ((48:Int)+Go.IntKind.u8.wrap Qj)]) (2:Int) [Spn.mk (hold.tmod (50:Int)*(20:Int)) (hold.tmod (50:Int)*(20:Int)+(1:Int)+cut.tmod ((10000:Int) - hold.tmod (50:Int)*(20:Int) - (1:Int)))] [Rng.mk (0:Int) ((1:Int)+one.tmod (9998:Int)) (1:Int),Rng.mk ((1:Int)+one.tmod (9998:Int)) ((1:Int)+one.tmod (9998:Int)+(1:Int)+two.tmod ((9999:Int) - ((1:Int)+one.tmod (9998:Int)))) (2:Int),Rng.mk ((1:Int)+one.tmod (9998:Int)+(1:Int)+two.tmod ((9999:Int) - ((1:Int)+one.tmod (9998:Int)))) (10000:Int) (3:Int)] (Ex.mk (1:Int) (B8 []) (B8 []) [] [])]).length/\InI (Qj+1)/\z8f (Qj+1) (R4++[Exper.mk y6 y9 y4 (B8 [115]++bsOf [Go.IntKind.u8.wrap ((97:Int)+salt.tmod (26:Int))]++bsOf [Go.IntKind.u8.wrap ((48:Int)+Go.IntKind.u8.wrap Qj)]) (2:Int) [Spn.mk (hold.tmod (50:Int)*(20:Int)) (hold.tmod (50:Int)*(20:Int)+(1:Int)+cut.tmod ((10000:Int) - hold.tmod (50:Int)*(20:Int) - (1:Int)))] [Rng.mk (0:Int) ((1:Int)+one.tmod (9998:Int)) (1:Int),Rng.mk ((1:Int)+one.tmod (9998:Int)) ((1:Int)+one.tmod (9998:Int)+(1:Int)+two.tmod ((9999:Int) - ((1:Int)+one.tmod (9998:Int)))) (2:Int),Rng.mk ((1:Int)+one.tmod (9998:Int)+(1:Int)+two.tmod ((9999:Int) - ((1:Int)+one.tmod (9998:Int)))) (10000:Int) (3:Int)] (Ex.mk (1:Int) (B8 []) (B8 []) [] [])])))/\(↑((B8 [115]++bsOf [Go.IntKind.u8.wrap ((97:Int)+salt.tmod (26:Int))]).size+(bsOf [Go.IntKind.u8.wrap ((48:Int)+Go.IntKind.u8.wrap Qj)]).size):Int)<=(9223372036854775807:Int)/\Qu fun Ui=>((0:Int)<=Qj.tmod (2:Int)/\Qj.tmod (2:Int)<(↑Ui.length:Int))/\ ∀y9,Ui[(Qj.tmod (2:Int)).toNat]? =some y9->Cnd ((2:Int)<=Qj) (Sml (R4++[Exper.mk y6 y9 y4 (B8 [115]++bsOf [Go.IntKind.u8.wrap ((97:Int)+salt.tmod (26:Int))]++bsOf [Go.IntKind.u8.wrap ((48:Int)+Go.IntKind.u8.wrap Qj)]) (2:Int) [Spn.mk (hold.tmod (50:Int)*(20:Int)+(1:Int)+cut.tmod ((10000:Int) - hold.tmod (50:Int)*(20:Int) - (1:Int))) (10000:Int)] [Rng.mk (0:Int) ((1:Int)+one.tmod (9998:Int)) (1:Int),Rng.mk ((1:Int)+one.tmod (9998:Int)) ((1:Int)+one.tmod (9998:Int)+(1:Int)+two.tmod ((9999:Int) - ((1:Int)+one.tmod (9998:Int)))) (2:Int),Rng.mk ((1:Int)+one.tmod (9998:Int)+(1:Int)+two.tmod ((9999:Int) - ((1:Int)+one.tmod (9998:Int)))) (10000:Int) (3:Int)] (Ex.mk (1:Int) (B8 []) (B8 []) [] [])]).length/\InI (Qj+1)/\z8f (Qj+1) (R4++[Exper.mk y6 y9 y4 (B8 [115]++bsOf [Go.IntKind.u8.wrap ((97:Int)+salt.tmod (26:Int))]++bsOf [Go.IntKind.u8.wrap ((48:Int)+Go.IntKind.u8.wrap Qj)]) (2:Int) [Spn.mk (hold.tmod (50:Int)*(20:Int)+(1:Int)+cut.tmod ((10000:Int) - hold.tmod (50:Int)*(20:Int) - (1:Int))) (10000:Int)] [Rng.mk (0:Int) ((1:Int)+one.tmod (9998:Int)) (1:Int),Rng.mk ((1:Int)+one.tmod (9998:Int)) ((1:Int)+one.tmod (9998:Int)+(1:Int)+two.tmod ((9999:Int) - ((1:Int)+one.tmod (9998:Int)))) (2:Int),Rng.mk ((1:Int)+one.tmod (9998:Int)+(1:Int)+two.tmod ((9999:Int) - ((1:Int)+one.tmod (9998:Int)))) (10000:Int) (3:Int)] (Ex.mk (1:Int) (B8 []) (B8 []) [] [])])) (Sml (R4++[Exper.mk y6 y9 y4 (B8 [115]++bsOf [Go.IntKind.u8.wrap ((97:Int)+salt.tmod (26:Int))]++bsOf [Go.IntKind.u8.wrap ((48:Int)+Go.IntKind.u8.wrap Qj)]) (2:Int) [Spn.mk (hold.tmod (50:Int)*(20:Int)) (hold.tmod (50:Int)*(20:Int)+(1:Int)+cut.tmod ((10000:Int) - hold.tmod (50:Int)*(20:Int) - (1:Int)))] [Rng.mk (0:Int) ((1:Int)+one.tmod (9998:Int)) (1:Int),Rng.mk ((1:Int)+one.tmod (9998:Int)) ((1:Int)+one.tmod (9998:Int)+(1:Int)+two.tmod ((9999:Int) - ((1:Int)+one.tmod (9998:Int)))) (2:Int),Rng.mk ((1:Int)+one.tmod (9998:Int)+(1:Int)+two.tmod ((9999:Int) - ((1:Int)+one.tmod (9998:Int)))) (10000:Int) (3:Int)] (Ex.mk (1:Int) (B8 []) (B8 []) [] [])]).length/\InI (Qj+1)/\z8f (Qj+1) (R4++[Exper.mk y6 y9 y4 (B8 [115]++bsOf [Go.IntKind.u8.wrap ((97:Int)+salt.tmod (26:Int))]++bsOf [Go.IntKind.u8.wrap ((48:Int)+Go.IntKind.u8.wrap Qj)]) (2:Int) [Spn.mk (hold.tmod (50:Int)*(20:Int)) (hold.tmod (50:Int)*(20:Int)+(1:Int)+cut.tmod ((10000:Int) - hold.tmod (50:Int)*(20:Int) - (1:Int)))] [Rng.mk (0:Int) ((1:Int)+one.tmod (9998:Int)) (1:Int),Rng.mk ((1:Int)+one.tmod (9998:Int)) ((1:Int)+one.tmod (9998:Int)+(1:Int)+two.tmod ((9999:Int) - ((1:Int)+one.tmod (9998:Int)))) (2:Int),Rng.mk ((1:Int)+one.tmod (9998:Int)+(1:Int)+two.tmod ((9999:Int) - ((1:Int)+one.tmod (9998:Int)))) (10000:Int) (3:Int)] (Ex.mk (1:Int) (B8 []) (B8 []) [] [])])))/\(Qu fun Jm=>((0:Int)<=Qj.tmod (2:Int)/\Qj.tmod (2:Int)<(↑Jm.length:Int))/\ ∀y7,Jm[(Qj.tmod (2:Int)).toNat]? =some y7->(((0:Int)<=Qj/\Qj<(↑[B8 [98,108,117,101],B8 [102,97,115,116],B8 [103,114,101,101,110],B8 [115,108,111,119]].length:Int))/\ ∀y9,[B8 [98,108,117,101],B8 [102,97,115,116],B8 [103,114,101,101,110],B8 [115,108,111,119]][Qj.toNat]? =some y9->(↑((B8 [115]++bsOf [Go.IntKind.u8.wrap ((97:Int)+salt.tmod (26:Int))]).size+(bsOf [Go.IntKind.u8.wrap ((48:Int)+Go.IntKind.u8.wrap Qj)]).size):Int)<=(9223372036854775807:Int)/\Cnd ((2:Int)<=Qj) (Sml (R4++[Exper.mk y9 y7 y4 (B8 [115]++bsOf [Go.IntKind.u8.wrap ((97:Int)+salt.tmod (26:Int))]++bsOf [Go.IntKind.u8.wrap ((48:Int)+Go.IntKind.u8.wrap Qj)]) (2:Int) [Spn.mk (hold.tmod (50:Int)*(20:Int)+(1:Int)+cut.tmod ((10000:Int) - hold.tmod (50:Int)*(20:Int) - (1:Int))) (10000:Int)] [Rng.mk (0:Int) ((1:Int)+one.tmod (9998:Int)) (1:Int),Rng.mk ((1:Int)+one.tmod (9998:Int)) ((1:Int)+one.tmod (9998:Int)+(1:Int)+two.tmod ((9999:Int) - ((1:Int)+one.tmod (9998:Int)))) (2:Int),Rng.mk ((1:Int)+one.tmod (9998:Int)+(1:Int)+two.tmod ((9999:Int) - ((1:Int)+one.tmod (9998:Int)))) (10000:Int) (3:Int)] (Ex.mk (1:Int) (B8 []) (B8 []) [] [])]).length/\InI (Qj+1)/\z8f (Qj+1) (R4++[Exper.mk y9 y7 y4 (B8 [115]++bsOf [Go.IntKind.u8.wrap ((97:Int)+salt.tmod (26:Int))]++bsOf [Go.IntKind.u8.wrap ((48:Int)+Go.IntKind.u8.wrap Qj)]) (2:Int) [Spn.mk (hold.tmod (50:Int)*(20:Int)+(1:Int)+cut.tmod ((10000:Int) - hold.tmod (50:Int)*(20:Int) - (1:Int))) (10000:Int)] [Rng.mk (0:Int) ((1:Int)+one.tmod (9998:Int)) (1:Int),Rng.mk ((1:Int)+one.tmod (9998:Int)) ((1:Int)+one.tmod (9998:Int)+(1:Int)+two.tmod ((9999:Int) - ((1:Int)+one.tmod (9998:Int)))) (2:Int),Rng.mk ((1:Int)+one.tmod (9998:Int)+(1:Int)+two.tmod ((9999:Int) - ((1:Int)+one.tmod (9998:Int)))) (10000:Int) (3:Int)] (Ex.mk (1:Int) (B8 []) (B8 []) [] [])])) (Sml (R4++[Exper.mk y9 y7 y4 (B8 [115]++bsOf [Go.IntKind.u8.wrap ((97:Int)+salt.tmod (26:Int))]++bsOf [Go.IntKind.u8.wrap ((48:Int)+Go.IntKind.u8.wrap Qj)]) (2:Int) [Spn.mk (hold.tmod (50:Int)*(20:Int)) (hold.tmod (50:Int)*(20:Int)+(1:Int)+cut.tmod ((10000:Int) - hold.tmod (50:Int)*(20:Int) - (1:Int)))] [Rng.mk (0:Int) ((1:Int)+one.tmod (9998:Int)) (1:Int),Rng.mk ((1:Int)+one.tmod (9998:Int)) ((1:Int)+one.tmod (9998:Int)+(1:Int)+two.tmod ((9999:Int) - ((1:Int)+one.tmod (9998:Int)))) (2:Int),Rng.mk ((1:Int)+one.tmod (9998:Int)+(1:Int)+two.tmod ((9999:Int) - ((1:Int)+one.tmod (9998:Int)))) (10000:Int) (3:Int)] (Ex.mk (1:Int) (B8 []) (B8 []) [] [])]).length/\InI (Qj+1)/\z8f (Qj+1) (R4++[Exper.mk y9 y7 y4 (B8 [115]++bsOf [Go.IntKind.u8.wrap ((97:Int)+salt.tmod (26:Int))]++bsOf [Go.IntKind.u8.wrap ((48:Int)+Go.IntKind.u8.wrap Qj)]) (2:Int) [Spn.mk (hold.tmod (50:Int)*(20:Int)) (hold.tmod (50:Int)*(20:Int)+(1:Int)+cut.tmod ((10000:Int) - hold.tmod (50:Int)*(20:Int) - (1:Int)))] [Rng.mk (0:Int) ((1:Int)+one.tmod (9998:Int)) (1:Int),Rng.mk ((1:Int)+one.tmod (9998:Int)) ((1:Int)+one.tmod (9998:Int)+(1:Int)+two.tmod ((9999:Int) - ((1:Int)+one.tmod (9998:Int)))) (2:Int),Rng.mk ((1:Int)+one.tmod (9998:Int)+(1:Int)+two.tmod ((9999:Int) - ((1:Int)+one.tmod (9998:Int)))) (10000:Int) (3:Int)] (Ex.mk (1:Int) (B8 []) (B8 []) [] [])])))/\(↑((B8 [115]++bsOf [Go.IntKind.u8.wrap ((97:Int)+salt.tmod (26:Int))]).size+(bsOf [Go.IntKind.u8.wrap ((48:Int)+Go.IntKind.u8.wrap Qj)]).size):Int)<=(9223372036854775807:Int)/\((0:Int)<=Qj/\Qj<(↑[B8 [98,108,117,101],B8 [102,97,115,116],B8 [103,114,101,101,110],B8 [115,108,111,119]].length:Int))/\ ∀y9,[B8 [98,108,117,101],B8 [102,97,115,116],B8 [103,114,101,101,110],B8 [115,108,111,119]][Qj.toNat]? =some y9->Cnd ((2:Int)<=Qj) (Sml (R4++[Exper.mk y9 y7 y4 (B8 [115]++bsOf [Go.IntKind.u8.wrap ((97:Int)+salt.tmod (26:Int))]++bsOf [Go.IntKind.u8.wrap ((48:Int)+Go.IntKind.u8.wrap Qj)]) (2:Int) [Spn.mk (hold.tmod (50:Int)*(20:Int)+(1:Int)+cut.tmod ((10000:Int) - hold.tmod (50:Int)*(20:Int) - (1:Int))) (10000:Int)] [Rng.mk (0:Int) ((1:Int)+one.tmod (9998:Int)) (1:Int),Rng.mk ((1:Int)+one.tmod (9998:Int)) ((1:Int)+one.tmod (9998:Int)+(1:Int)+two.tmod ((9999:Int) - ((1:Int)+one.tmod (9998:Int)))) (2:Int),Rng.mk ((1:Int)+one.tmod (9998:Int)+(1:Int)+two.tmod ((9999:Int) - ((1:Int)+one.tmod (9998:Int)))) (10000:Int) (3:Int)] (Ex.mk (1:Int) (B8 []) (B8 []) [] [])]).length/\InI (Qj+1)/\z8f (Qj+1) (R4++[Exper.mk y9 y7 y4 (B8 [115]++bsOf [Go.IntKind.u8.wrap ((97:Int)+salt.tmod (26:Int))]++bsOf [Go.IntKind.u8.wrap ((48:Int)+Go.IntKind.u8.wrap Qj)]) (2:Int) [Spn.mk (hold.tmod (50:Int)*(20:Int)+(1:Int)+cut.tmod ((10000:Int) - hold.tmod (50:Int)*(20:Int) - (1:Int))) (10000:Int)] [Rng.mk (0:Int) ((1:Int)+one.tmod (9998:Int)) (1:Int),Rng.mk ((1:Int)+one.tmod (9998:Int)) ((1:Int)+one.tmod (9998:Int)+(1:Int)+two.tmod ((9999:Int) - ((1:Int)+one.tmod (9998:Int)))) (2:Int),Rng.mk ((1:Int)+one.tmod (9998:Int)+(1:Int)+two.tmod ((9999:Int) - ((1:Int)+one.tmod (9998:Int)))) (10000:Int) (3:Int)] (Ex.mk (1:Int) (B8 []) (B8 []) [] [])])) (Sml (R4++[Exper.mk y9 y7 y4 (B8 [115]++bsOf [Go.IntKind.u8.wrap ((97:Int)+salt.tmod (26:Int))]++bsOf [Go.IntKind.u8.wrap ((48:Int)+Go.IntKind.u8.wrap Qj)]) (2:Int) [Spn.mk (hold.tmod (50:Int)*(20:Int)) (hold.tmod (50:Int)*(20:Int)+(1:Int)+cut.tmod ((10000:Int) - hold.tmod (50:Int)*(20:Int) - (1:Int)))] [Rng.mk (0:Int) ((1:Int)+one.tmod (9998:Int)) (1:Int),Rng.mk ((1:Int)+one.tmod (9998:Int)) ((1:Int)+one.tmod (9998:Int)+(1:Int)+two.tmod ((9999:Int) - ((1:Int)+one.tmod (9998:Int)))) (2:Int),Rng.mk ((1:Int)+one.tmod (9998:Int)+(1:Int)+two.tmod ((9999:Int) - ((1:Int)+one.tmod (9998:Int)))) (10000:Int) (3:Int)] (Ex.mk (1:Int) (B8 []) (B8 []) [] [])]).length/\InI (Qj+1)/\z8f (Qj+1) (R4++[Exper.mk y9 y7 y4 (B8 [115]++bsOf [Go.IntKind.u8.wrap ((97:Int)+salt.tmod (26:Int))]++bsOf [Go.IntKind.u8.wrap ((48:Int)+Go.IntKind.u8.wrap Qj)]) (2:Int) [Spn.mk (hold.tmod (50:Int)*(20:Int)) (hold.tmod (50:Int)*(20:Int)+(1:Int)+cut.tmod ((10000:Int) - hold.tmod (50:Int)*(20:Int) - (1:Int)))] [Rng.mk (0:Int) ((1:Int)+one.tmod (9998:Int)) (1:Int),Rng.mk ((1:Int)+one.tmod (9998:Int)) ((1:Int)+one.tmod (9998:Int)+(1:Int)+two.tmod ((9999:Int) - ((1:Int)+one.tmod (9998:Int)))) (2:Int),Rng.mk ((1:Int)+one.tmod (9998:Int)+(1:Int)+two.tmod ((9999:Int) - ((1:Int)+one.tmod (9998:Int)))) (10000:Int) (3:Int)] (Ex.mk (1:Int) (B8 []) (B8 []) [] [])])))/\(↑((B8 [115]++bsOf [Go.IntKind.u8.wrap ((97:Int)+salt.tmod (26:Int))]).size+(bsOf [Go.IntKind.u8.wrap ((48:Int)+Go.IntKind.u8.wrap Qj)]).size):Int)<=(9223372036854775807:Int)/\(((0:Int)<=Qj/\Qj<(↑[B8 [98,108,117,101],B8 [102,97,115,116],B8 [103,114,101,101,110],B8 [115,108,111,119]].length:Int))/\ ∀y6,[B8 [98,108,117,101],B8 [102,97,115,116],B8 [103,114,101,101,110],B8 [115,108,111,119]][Qj.toNat]? =some y6->Qu fun Ui=>((0:Int)<=Qj.tmod (2:Int)/\Qj.tmod (2:Int)<(↑Ui.length:Int))/\ ∀y9,Ui[(Qj.tmod (2:Int)).toNat]? =some y9->Cnd ((2:Int)<=Qj) (Sml (R4++[Exper.mk y6 y9 y4 (B8 [115]++bsOf [Go.IntKind.u8.wrap ((97:Int)+salt.tmod (26:Int))]++bsOf [Go.IntKind.u8.wrap ((48:Int)+Go.IntKind.u8.wrap Qj)]) (2:Int) [Spn.mk (hold.tmod (50:Int)*(20:Int)+(1:Int)+cut.tmod ((10000:Int) - hold.tmod (50:Int)*(20:Int) - (1:Int))) (10000:Int)] [Rng.mk (0:Int) ((1:Int)+one.tmod (9998:Int)) (1:Int),Rng.mk ((1:Int)+one.tmod (9998:Int)) ((1:Int)+one.tmod (9998:Int)+(1:Int)+two.tmod ((9999:Int) - ((1:Int)+one.tmod (9998:Int)))) (2:Int),Rng.mk ((1:Int)+one.tmod (9998:Int)+(1:Int)+two.tmod ((9999:Int) - ((1:Int)+one.tmod (9998:Int)))) (10000:Int) (3:Int)] (Ex.mk (1:Int) (B8 []) (B8 []) [] [])]).length/\InI (Qj+1)/\z8f (Qj+1) (R4++[Exper.mk y6 y9 y4 (B8 [115]++bsOf [Go.IntKind.u8.wrap ((97:Int)+salt.tmod (26:Int))]++bsOf [Go.IntKind.u8.wrap ((48:Int)+Go.IntKind.u8.wrap Qj)]) (2:Int) [Spn.mk (hold.tmod (50:Int)*(20:Int)+(1:Int)+cut.tmod ((10000:Int) - hold.tmod (50:Int)*(20:Int) - (1:Int))) (10000:Int)] [Rng.mk (0:Int) ((1:Int)+one.tmod (9998:Int)) (1:Int),Rng.mk ((1:Int)+one.tmod (9998:Int)) ((1:Int)+one.tmod (9998:Int)+(1:Int)+two.tmod ((9999:Int) - ((1:Int)+one.tmod (9998:Int)))) (2:Int),Rng.mk ((1:Int)+one.tmod (9998:Int)+(1:Int)+two.tmod ((9999:Int) - ((1:Int)+one.tmod (9998:Int)))) (10000:Int) (3:Int)] (Ex.mk (1:Int) (B8 []) (B8 []) [] [])])) (Sml (R4++[Exper.mk y6 y9 y4 (B8 [115]++bsOf [Go.IntKind.u8.wrap ((97:Int)+salt.tmod (26:Int))]++bsOf [Go.IntKind.u8.wrap ((48:Int)+Go.IntKind.u8.wrap Qj)]) (2:Int) [Spn.mk (hold.tmod (50:Int)*(20:Int)) (hold.tmod (50:Int)*(20:Int)+(1:Int)+cut.tmod ((10000:Int) - hold.tmod (50:Int)*(20:Int) - (1:Int)))] [Rng.mk (0:Int) ((1:Int)+one.tmod (9998:Int)) (1:Int),Rng.mk ((1:Int)+one.tmod (9998:Int)) ((1:Int)+one.tmod (9998:Int)+(1:Int)+two.tmod ((9999:Int) - ((1:Int)+one.tmod (9998:Int)))) (2:Int),Rng.mk ((1:Int)+one.tmod (9998:Int)+(1:Int)+two.tmod ((9999:Int) - ((1:Int)+one.tmod (9998:Int)))) (10000:Int) (3:Int)] (Ex.mk (1:Int) (B8 []) (B8 []) [] [])]).length/\InI (Qj+1)/\z8f (Qj+1) (R4++[Exper.mk y6 y9 y4 (B8 [115]++bsOf [Go.IntKind.u8.wrap ((97:Int)+salt.tmod (26:Int))]++bsOf [Go.IntKind.u8.wrap ((48:Int)+Go.IntKind.u8.wrap Qj)]) (2:Int) [Spn.mk (hold.tmod (50:Int)*(20:Int)) (hold.tmod (50:Int)*(20:Int)+(1:Int)+cut.tmod ((10000:Int) - hold.tmod (50:Int)*(20:Int) - (1:Int)))] [Rng.mk (0:Int) ((1:Int)+one.tmod (9998:Int)) (1:Int),Rng.mk ((1:Int)+one.tmod (9998:Int)) ((1:Int)+one.tmod (9998:Int)+(1:Int)+two.tmod ((9999:Int) - ((1:Int)+one.tmod (9998:Int)))) (2:Int),Rng.mk ((1:Int)+one.tmod (9998:Int)+(1:Int)+two.tmod ((9999:Int) - ((1:Int)+one.tmod (9998:Int)))) (10000:Int) (3:Int)] (Ex.mk (1:Int) (B8 []) (B8 []) [] [])])))/\Qu fun Jm=>((0:Int)<=Qj.tmod (2:Int)/\Qj.tmod (2:Int)<(↑Jm.length:Int))/\ ∀y7,Jm[(Qj.tmod (2:Int)).toNat]? =some y7->((0:Int)<=Qj/\Qj<(↑[B8 [98,108,117,101],B8 [102,97,115,116],B8 [103,114,101,101,110],B8 [115,108,111,119]].length:Int))/\ ∀y9,[B8 [98,108,117,101],B8 [102,97,115,116],B8 [103,114,101,101,110],B8 [115,108,111,119]][Qj.toNat]? =some y9->Cnd ((2:Int)<=Qj) (Sml (R4++[Exper.mk y9 y7 y4 (B8 [115]++bsOf [Go.IntKind.u8.wrap ((97:Int)+salt.tmod (26:Int))]++bsOf [Go.IntKind.u8.wrap ((48:Int)+Go.IntKind.u8.wrap Qj)]) (2:Int) [Spn.mk (hold.tmod (50:Int)*(20:Int)+(1:Int)+cut.tmod ((10000:Int) - hold.tmod (50:Int)*(20:Int) - (1:Int))) (10000:Int)] [Rng.mk (0:Int) ((1:Int)+one.tmod (9998:Int)) (1:Int),Rng.mk ((1:Int)+one.tmod (9998:Int)) ((1:Int)+one.tmod (9998:Int)+(1:Int)+two.tmod ((9999:Int) - ((1:Int)+one.tmod (9998:Int)))) (2:Int),Rng.mk ((1:Int)+one.tmod (9998:Int)+(1:Int)+two.tmod ((9999:Int) - ((1:Int)+one.tmod (9998:Int)))) (10000:Int) (3:Int)] (Ex.mk (1:Int) (B8 []) (B8 []) [] [])]).length/\InI (Qj+1)/\z8f (Qj+1) (R4++[Exper.mk y9 y7 y4 (B8 [115]++bsOf [Go.IntKind.u8.wrap ((97:Int)+salt.tmod (26:Int))]++bsOf [Go.IntKind.u8.wrap ((48:Int)+Go.IntKind.u8.wrap Qj)]) (2:Int) [Spn.mk (hold.tmod (50:Int)*(20:Int)+(1:Int)+cut.tmod ((10000:Int) - hold.tmod (50:Int)*(20:Int) - (1:Int))) (10000:Int)] [Rng.mk (0:Int) ((1:Int)+one.tmod (9998:Int)) (1:Int),Rng.mk ((1:Int)+one.tmod (9998:Int)) ((1:Int)+one.tmod (9998:Int)+(1:Int)+two.tmod ((9999:Int) - ((1:Int)+one.tmod (9998:Int)))) (2:Int),Rng.mk ((1:Int)+one.tmod (9998:Int)+(1:Int)+two.tmod ((9999:Int) - ((1:Int)+one.tmod (9998:Int)))) (10000:Int) (3:Int)] (Ex.mk (1:Int) (B8 []) (B8 []) [] [])])) (Sml (R4++[Exper.mk y9 y7 y4 (B8 [115]++bsOf [Go.IntKind.u8.wrap ((97:Int)+salt.tmod (26:Int))]++bsOf [Go.IntKind.u8.wrap ((48:Int)+Go.IntKind.u8.wrap Qj)]) (2:Int) [Spn.mk (hold.tmod (50:Int)*(20:Int)) (hold.tmod (50:Int)*(20:Int)+(1:Int)+cut.tmod ((10000:Int) - hold.tmod (50:Int)*(20:Int) - (1:Int)))] [Rng.mk (0:Int) ((1:Int)+one.tmod (9998:Int)) (1:Int),Rng.mk ((1:Int)+one.tmod (9998:Int)) ((1:Int)+one.tmod (9998:Int)+(1:Int)+two.tmod ((9999:Int) - ((1:Int)+one.tmod (9998:Int)))) (2:Int),Rng.mk ((1:Int)+one.tmod (9998:Int)+(1:Int)+two.tmod ((9999:Int) - ((1:Int)+one.tmod (9998:Int)))) (10000:Int) (3:Int)] (Ex.mk (1:Int) (B8 []) (B8 []) [] [])]).length/\InI (Qj+1)/\z8f (Qj+1) (R4++[Exper.mk y9 y7 y4 (B8 [115]++bsOf [Go.IntKind.u8.wrap ((97:Int)+salt.tmod (26:Int))]++bsOf [Go.IntKind.u8.wrap ((48:Int)+Go.IntKind.u8.wrap Qj)]) (2:Int) [Spn.mk (hold.tmod (50:Int)*(20:Int)) (hold.tmod (50:Int)*(20:Int)+(1:Int)+cut.tmod ((10000:Int) - hold.tmod (50:Int)*(20:Int) - (1:Int)))] [Rng.mk (0:Int) ((1:Int)+one.tmod (9998:Int)) (1:Int),Rng.mk ((1:Int)+one.tmod (9998:Int)) ((1:Int)+one.tmod (9998:Int)+(1:Int)+two.tmod ((9999:Int) - ((1:Int)+one.tmod (9998:Int)))) (2:Int),Rng.mk ((1:Int)+one.tmod (9998:Int)+(1:Int)+two.tmod ((9999:Int) - ((1:Int)+one.tmod (9998:Int)))) (10000:Int) (3:Int)] (Ex.mk (1:Int) (B8 []) (B8 []) [] [])]))) (K (Envt.mk (Sett.mk (B8 []) (B8 []) (0:Int)) [] [] q0r q4n R4))) (0:Int) [])) (0:Int) [])) (0:Int) []
def Uo:J6:=q1w Jr
abbrev q1m:Type:=ByteArray->(Subj->Prop)->Prop
def R9:q1m:=fun id K=>K (Subj.mk [Ctxt.mk (B8 [117,115,101,114]) id []])
abbrev Vu:Type:=Subj->ByteArray->(Int->Prop)->Prop
def Gk:Vu:=fun s kind K=>Fits s.1->Lp1 (fun Qx q6c=>CAt s.1 Qx (fun y2=>Cnd (y2.1=kind) (K Qx) (InI (Qx+1)/\q6c (Qx+1))) (K (-1:Int))) (0:Int)
abbrev W8:Type:=Val->(Val->Prop)->Prop
def Jb:W8:=fun v K=> ∀n0,(n0=true->v.4=[])->Cnd (n0=true) (K (Val.mk v.1 v.2 v.3 [])) (Sml ([]++v.4).length/\K (Val.mk v.1 v.2 v.3 ([]++v.4)))
abbrev Vv:Type:=Attr->(Attr->Prop)->Prop
def q0s(Zw:W8):Vv:=fun a K=>Zw (Val.mk a.2.1 a.2.2 a.2.3 a.2.4) fun Qi=>K (Attr.mk a.1 Qi)
def Ha:Vv:=q0s Jb
abbrev Gl:Type:=Ctxt->(Ctxt->Prop)->Prop
def q3w(Hi:Vv):Gl:=fun c K=>Fits c.3->((0:Int)<=(0:Int)/\(0:Int)<=(↑c.3.length:Int)/\Sml (↑c.3.length:Int).toNat)/\(Fits c.3->Lp2 (fun Zs q4n j3j=>CAt c.3 q4n (fun y3=>Hi (Attr.mk y3.1 (Val.mk y3.2.1 y3.2.2 y3.2.3 y3.2.4)) fun Q0=>Sml (Zs++[Attr.mk Q0.1 (Val.mk Q0.2.1 Q0.2.2 Q0.2.3 Q0.2.4)]).length/\InI (q4n+1)/\j3j (Zs++[Attr.mk Q0.1 (Val.mk Q0.2.1 Q0.2.2 Q0.2.3 Q0.2.4)]) (q4n+1)) (K (Ctxt.mk c.1 c.2 Zs))) (List.replicate (Int.toNat (0:Int)) (Attr.mk (B8 []) (Val.mk (0:Int) (0:Int) (B8 []) []))) (0:Int))
def Ba:Gl:=q3w Ha
abbrev Zm:Type:=Subj->ByteArray->(Ctxt->Bool->Prop)->Prop
def q5c(Ji:Vu)(q0g:Gl):Zm:=fun s kind K=>Ji (Subj.mk s.1) kind fun Qi=>Cnd (Qi<0) (K (Ctxt.mk (B8 []) (B8 []) []) false) (At s.1 Qi fun y1=>q0g y1 fun Qj=>K Qj true)
def Wj:Zm:=q5c Gk Ba
abbrev q08:Type:=List (List Int)->(List (Int)->Prop)->Prop
def q09:q08:=fun fields K=>Fits fields->Lp2 (fun Qx q6d j7h=>CAt fields q6d (fun y2=>Lp2 (fun Zt Hn j7k=>Cnd ((0:Int)<=Hn) (Fits y2->InI ((8:Int)*Hn)/\(0:Int)<=(8:Int)*Hn/\Sml (Zt++[Go.IntKind.u8.wrap ((Go.IntKind.u64.wrap (↑y2.length:Int)).fdiv ((2:Int) ^ Min.min ((8:Int)*Hn).toNat (64:Nat)))]).length/\InI (Hn - 1)/\j7k (Zt++[Go.IntKind.u8.wrap ((Go.IntKind.u64.wrap (↑y2.length:Int)).fdiv ((2:Int) ^ Min.min ((8:Int)*Hn).toNat (64:Nat)))]) (Hn - 1)) (Sml (Zt++y2).length/\InI (q6d+1)/\j7h (Zt++y2) (q6d+1))) Qx (7:Int)) (K Qx)) [] (0:Int)
abbrev V4:Type:=Int->Int->(Int->Prop)->Prop
def V5:V4:=fun x k K=>(0:Int)<=Go.IntKind.u64.wrap (↑(BitVec.ofInt (64:Nat) (Go.IntKind.u64.wrap k) &&& BitVec.ofInt (64:Nat) (63:Int)).toNat:Int)/\(0:Int)<=Go.IntKind.u64.wrap ((64:Int) - Go.IntKind.u64.wrap (↑(BitVec.ofInt (64:Nat) (Go.IntKind.u64.wrap k) &&& BitVec.ofInt (64:Nat) (63:Int)).toNat:Int))/\K (Go.IntKind.u64.wrap (↑(BitVec.ofInt (64:Nat) (Go.IntKind.u64.wrap (x*2 ^ Min.min (Go.IntKind.u64.wrap (↑(BitVec.ofInt (64:Nat) (Go.IntKind.u64.wrap k) &&& BitVec.ofInt (64:Nat) (63:Int)).toNat:Int)).toNat (64:Nat)))|||BitVec.ofInt (64:Nat) (x.fdiv ((2:Int) ^ Min.min (Go.IntKind.u64.wrap ((64:Int) - Go.IntKind.u64.wrap (↑(BitVec.ofInt (64:Nat) (Go.IntKind.u64.wrap k) &&& BitVec.ofInt (64:Nat) (63:Int)).toNat:Int))).toNat (64:Nat)))).toNat:Int))
abbrev Zy:Type:=Int->Int->Int->Int->Int->(Int->Int->Int->Int->Prop)->Prop
def Hp(Zk:V4):Zy:=fun v0 v1 v2 v3 n K=>Lp5 (fun Qi q0r z0v z2b z7o w88=>Cnd (Qi<n) (Zk z0v (13:Int) fun Qx=>Zk (Go.IntKind.u64.wrap (q0r+z0v)) (32:Int) fun Zs=>Zk z7o (16:Int) fun Qj=>Zk (Go.IntKind.u64.wrap (↑(BitVec.ofInt (64:Nat) Qj ^^^ BitVec.ofInt (64:Nat) (Go.IntKind.u64.wrap (z2b+z7o))).toNat:Int)) (21:Int) fun Zt=>Zk (Go.IntKind.u64.wrap (↑(BitVec.ofInt (64:Nat) Qx ^^^ BitVec.ofInt (64:Nat) (Go.IntKind.u64.wrap (q0r+z0v))).toNat:Int)) (17:Int) fun Q0=>Zk (Go.IntKind.u64.wrap (Go.IntKind.u64.wrap (z2b+z7o)+Go.IntKind.u64.wrap (↑(BitVec.ofInt (64:Nat) Qx ^^^ BitVec.ofInt (64:Nat) (Go.IntKind.u64.wrap (q0r+z0v))).toNat:Int))) (32:Int) fun Jm=>InI (Qi+1)/\w88 (Qi+1) (Go.IntKind.u64.wrap (Zs+Go.IntKind.u64.wrap (↑(BitVec.ofInt (64:Nat) Qj ^^^ BitVec.ofInt (64:Nat) (Go.IntKind.u64.wrap (z2b+z7o))).toNat:Int))) (Go.IntKind.u64.wrap (↑(BitVec.ofInt (64:Nat) Q0 ^^^ BitVec.ofInt (64:Nat) (Go.IntKind.u64.wrap (Go.IntKind.u64.wrap (z2b+z7o)+Go.IntKind.u64.wrap (↑(BitVec.ofInt (64:Nat) Qx ^^^ BitVec.ofInt (64:Nat) (Go.IntKind.u64.wrap (q0r+z0v))).toNat:Int)))).toNat:Int)) Jm (Go.IntKind.u64.wrap (↑(BitVec.ofInt (64:Nat) Zt ^^^ BitVec.ofInt (64:Nat) (Go.IntKind.u64.wrap (Zs+Go.IntKind.u64.wrap (↑(BitVec.ofInt (64:Nat) Qj ^^^ BitVec.ofInt (64:Nat) (Go.IntKind.u64.wrap (z2b+z7o))).toNat:Int)))).toNat:Int))) (K q0r z0v z2b z7o)) (0:Int) v0 v1 v2 v3
def Zo:Zy:=Hp V5
abbrev W9:Type:=Int->Int->Int->Int->Int->(Int->Int->Int->Int->Prop)->Prop
def Bb(Zc:Zy):W9:=fun v0 v1 v2 v3 m K=>Zc v0 v1 v2 (Go.IntKind.u64.wrap (↑(BitVec.ofInt (64:Nat) v3 ^^^ BitVec.ofInt (64:Nat) m).toNat:Int)) (2:Int) fun Qi q0r z0v z2b=>K (Go.IntKind.u64.wrap (↑(BitVec.ofInt (64:Nat) Qi ^^^ BitVec.ofInt (64:Nat) m).toNat:Int)) q0r z0v z2b
def U9:W9:=Bb Zo
abbrev q1n:Type:=Int->Int->List (Int)->(Int->Prop)->Prop
def q8e(Vh:W9)(Zc:Zy):q1n:=fun k0 k1 b K=>Fits b->(0:Int)<=(56:Int)/\Lp5 (fun Qx q6d w1c w84 v3i v3s=>InI (Qx+8)/\(Fits b->Cnd (Qx+8<=(↑b.length:Int)) (Lp2 (fun Qj R4 z8f=>Cnd (R4<8) (InI (Qx+R4)/\At b (Qx+R4) fun y4=>InI ((8:Int)*R4)/\(0:Int)<=(8:Int)*R4/\InI (R4+1)/\z8f (Go.IntKind.u64.wrap (↑(BitVec.ofInt (64:Nat) Qj|||BitVec.ofInt (64:Nat) (Go.IntKind.u64.wrap (Go.IntKind.u64.wrap y4*2 ^ Min.min ((8:Int)*R4).toNat (64:Nat)))).toNat:Int)) (R4+1)) (Vh q6d w1c w84 v3i Qj fun Zt Hn v2x v2y=>InI (Qx+8)/\v3s (Qx+8) Zt Hn v2x v2y)) (0:Int) (0:Int)) (Fits b->(8:Int)≠(0:Int)/\Lp2 (fun Zt Hn j7k=>Cnd (Hn<(↑b.length:Int).tmod (8:Int)) (Fits b->Fits b->(8:Int)≠(0:Int)/\InI ((↑b.length:Int) - (↑b.length:Int).tmod (8:Int))/\InI ((↑b.length:Int) - (↑b.length:Int).tmod (8:Int)+Hn)/\((0:Int)<=(↑b.length:Int) - (↑b.length:Int).tmod (8:Int)+Hn/\(↑b.length:Int) - (↑b.length:Int).tmod (8:Int)+Hn<(↑b.length:Int))/\ ∀y7,b[((↑b.length:Int) - (↑b.length:Int).tmod (8:Int)+Hn).toNat]? =some y7->InI ((8:Int)*Hn)/\(0:Int)<=(8:Int)*Hn/\InI (Hn+1)/\j7k (Go.IntKind.u64.wrap (↑(BitVec.ofInt (64:Nat) Zt|||BitVec.ofInt (64:Nat) (Go.IntKind.u64.wrap (Go.IntKind.u64.wrap y7*2 ^ Min.min ((8:Int)*Hn).toNat (64:Nat)))).toNat:Int)) (Hn+1)) (Vh q6d w1c w84 v3i Zt fun Q0 q5y j7l v2z=>Zc Q0 q5y (Go.IntKind.u64.wrap (↑(BitVec.ofInt (64:Nat) j7l ^^^ BitVec.ofInt (64:Nat) (255:Int)).toNat:Int)) v2z (4:Int) fun Jm q76 j4w j4x=>K (Go.IntKind.u64.wrap (↑(BitVec.ofInt (64:Nat) (Go.IntKind.u64.wrap (↑(BitVec.ofInt (64:Nat) (Go.IntKind.u64.wrap (↑(BitVec.ofInt (64:Nat) Jm ^^^ BitVec.ofInt (64:Nat) q76).toNat:Int)) ^^^ BitVec.ofInt (64:Nat) j4w).toNat:Int)) ^^^ BitVec.ofInt (64:Nat) j4x).toNat:Int)))) (Go.IntKind.u64.wrap (Go.IntKind.u64.wrap (↑b.length:Int)*2 ^ Min.min (Int.toNat (56:Int)) (64:Nat))) (0:Int)))) (0:Int) (Go.IntKind.u64.wrap (↑(BitVec.ofInt (64:Nat) k0 ^^^ BitVec.ofInt (64:Nat) (8317987319222330741:Int)).toNat:Int)) (Go.IntKind.u64.wrap (↑(BitVec.ofInt (64:Nat) k1 ^^^ BitVec.ofInt (64:Nat) (7237128888997146477:Int)).toNat:Int)) (Go.IntKind.u64.wrap (↑(BitVec.ofInt (64:Nat) k0 ^^^ BitVec.ofInt (64:Nat) (7816392313619706465:Int)).toNat:Int)) (Go.IntKind.u64.wrap (↑(BitVec.ofInt (64:Nat) k1 ^^^ BitVec.ofInt (64:Nat) (8387220255154660723:Int)).toNat:Int))
def q4r:q1n:=q8e U9 Zo
abbrev Bc:Type:=Int->List (List Int)->(Int->Prop)->Prop
def q6o(q1e:q08)(q45:q1n):Bc:=fun domain fields K=>q1e fields fun Qi=>q45 domain (0:Int) Qi fun Qx=>K Qx
def q2p:Bc:=q6o q09 q4r
abbrev Z7:Type:=ByteArray->ByteArray->(Int->Prop)->Prop
def q96(q3b:Bc):Z7:=fun salt key K=>Sml salt.size/\Sml key.size/\q3b (1:Int) [List.map (fun b=>(↑b.toNat:Int)) (salt,key,()).1.data.toList,List.map (fun b=>(↑b.toNat:Int)) (salt,key,()).2.1.data.toList] fun Qi=>(10000:Int)≠(0:Int)/\InI (Qi.tmod (10000:Int))/\K (Qi.tmod (10000:Int))
def Wq:Z7:=q96 q2p
abbrev Bd:Type:=List (Frc)->ByteArray->(Frc->Bool->Prop)->Prop
def Be:Bd:=fun l layer K=>Fits l->Lp4 (fun Qx q6d w1c w84 v3t=>CAt l Qx (fun y2=>Cnd (y2.1=layer) (K y2 true) (InI (Qx+1)/\v3t (Qx+1) q6d w1c w84)) (K (Frc.mk (B8 []) (B8 []) (0:Int)) false)) (0:Int) (B8 []) (B8 []) (0:Int)
abbrev q2q:Type:=Envt->Frc->(Bool->Prop)->Prop
def q2r:q2q:=fun v f K=>Fits v.6->Lp1 (fun Qx q6c=>CAt v.6 Qx (fun y2=>Cnd (y2.1=f.2) (Cnd (y2.2=f.1) (Cnd (y2.5=2) (Fits y2.7->Lp1 (fun Q0 j08=>CAt y2.7 Q0 (fun y6=>Cnd (y6.3=f.3) (Cnd ((0:Int)<=Q0) (K (decide ((0:Int)<=Qx))) (InI (Qx+1)/\q6c (Qx+1))) (InI (Q0+1)/\j08 (Q0+1))) (Cnd ((0:Int)<=(-1:Int)) (K (decide ((0:Int)<=Qx))) (InI (Qx+1)/\q6c (Qx+1)))) (0:Int)) (InI (Qx+1)/\q6c (Qx+1))) (InI (Qx+1)/\q6c (Qx+1))) (InI (Qx+1)/\q6c (Qx+1))) (K (decide ((0:Int)<=(-1:Int))))) (0:Int)
abbrev Bf:Type:=Envt->Subj->(Bool->Prop)->Prop
def q6p(Qn:Zm)(Ql:Z7):Bf:=fun v s K=>Cnd (v.1.3<=0) (K false) (Qn (Subj.mk s.1) v.1.2 fun Qi q0r=>Cnd (q0r=true) (Ql v.1.1 Qi.2 fun Qx=>K (decide (Qx<v.1.3))) (K false))
def q2s:Bf:=q6p Wj Wq
abbrev Bg:Type:=Int->(Bool->Prop)->Prop
def V6:Bg:=fun op K=>Cnd ((6:Int)<=op) (K (decide (op<=15))) (K false)
abbrev Q7:Type:=List (ByteArray)->List (ByteArray)->(Bool->Prop)->Prop
def Zl:Q7:=fun s1 s2 K=>Fits s1->Fits s2->Cnd ((↑s1.length:Int)=(↑s2.length:Int)) (Fits s1->Lp1 (fun Qj z0u=>CAt s1 Qj (fun y4=>At s2 Qj fun y6=>Cnd (y4=y6) (InI (Qj+1)/\z0u (Qj+1)) (K false)) (K true)) (0:Int)) (K false)
abbrev q4s:Type:=Val->Val->(Bool->Prop)->Prop
def q8f(Qs:Q7):q4s:=fun a b K=>Cnd (a.1=b.1) (Cnd (a.2=b.2) (Cnd (a.3=b.3) (Qs a.4 b.4 fun Qi=>K Qi) (K false)) (K false)) (K false)
def R2:q4s:=q8f Zl
abbrev q0t:Type:=Ex->Ex->(Bool->Prop)->Prop
def q97(j3i:q4s)(X:q0t):q0t:=fun a b K=>Cnd (a.1=b.1) (Cnd (a.2=b.2) (Cnd (a.3=b.3) (Fits a.4->Fits b.4->Cnd ((↑a.4.length:Int)=(↑b.4.length:Int)) (Fits a.4->Lp1 (fun Qj z0u=>CAt a.4 Qj (fun y4=>At b.4 Qj fun y6=>j3i y4 y6 fun Ui=>Cnd (Ui=true) (InI (Qj+1)/\z0u (Qj+1)) (K false)) (Fits a.5->Fits b.5->Cnd ((↑a.5.length:Int)=(↑b.5.length:Int)) (Fits a.5->Lp1 (fun Q3 w4o=>CAt a.5 Q3 (fun y8=>At b.5 Q3 fun y10=>X (Ex.mk y8.1 y8.2 y8.3 y8.4 y8.5) (Ex.mk y10.1 y10.2 y10.3 y10.4 y10.5) fun Uj=>Cnd (Uj=true) (InI (Q3+1)/\w4o (Q3+1)) (K false)) (K true)) (0:Int)) (K false))) (0:Int)) (K false)) (K false)) (K false)) (K false)
def Rp:q0t:=fun a b K=> ∀X:q0t,(∀a b K,q97 R2 X a b K->X a b K)->X a b K
abbrev Vj:Type:=List (Ex)->Ex->(List (Ex)->Prop)->Prop
def q5d(Hj:Bg)(z7n:q0t)(X:Vj):Vj:=fun l e K=>Jn1 (fun Qi=>Fits e.5->Lp2 (fun Zs q4n j3j=>CAt e.5 q4n (fun y3=>X Zs (Ex.mk y3.1 y3.2 y3.3 y3.4 y3.5) fun Q0=>InI (q4n+1)/\j3j Q0 (q4n+1)) (K Zs)) Qi (0:Int)) fun q5z=>Hj e.1 fun Qx=>Cnd (Qx=true) (Fits l->Lp1 (fun Qj z0u=>CAt l Qj (fun y4=>z7n (Ex.mk y4.1 y4.2 y4.3 y4.4 y4.5) (Ex.mk e.1 e.2 e.3 e.4 e.5) fun Jm=>Cnd (Jm=true) (Cnd ((0:Int)<=Qj) (q5z l) (Sml (l++[Ex.mk e.1 e.2 e.3 e.4 e.5]).length/\q5z (l++[Ex.mk e.1 e.2 e.3 e.4 e.5]))) (InI (Qj+1)/\z0u (Qj+1))) (Cnd ((0:Int)<=(-1:Int)) (q5z l) (Sml (l++[Ex.mk e.1 e.2 e.3 e.4 e.5]).length/\q5z (l++[Ex.mk e.1 e.2 e.3 e.4 e.5])))) (0:Int)) (Cnd (e.1=5) (Fits l->Lp1 (fun Qj z0u=>CAt l Qj (fun y4=>z7n (Ex.mk y4.1 y4.2 y4.3 y4.4 y4.5) (Ex.mk e.1 e.2 e.3 e.4 e.5) fun Jm=>Cnd (Jm=true) (Cnd ((0:Int)<=Qj) (q5z l) (Sml (l++[Ex.mk e.1 e.2 e.3 e.4 e.5]).length/\q5z (l++[Ex.mk e.1 e.2 e.3 e.4 e.5]))) (InI (Qj+1)/\z0u (Qj+1))) (Cnd ((0:Int)<=(-1:Int)) (q5z l) (Sml (l++[Ex.mk e.1 e.2 e.3 e.4 e.5]).length/\q5z (l++[Ex.mk e.1 e.2 e.3 e.4 e.5])))) (0:Int)) (q5z l))
def q1a:Vj:=fun l e K=> ∀X:Vj,(∀l e K,q5d V6 Rp X l e K->X l e K)->X l e K
abbrev Gm:Type:=Ex->(Ex->Prop)->Prop
def q8g(Zw:W8)(X:Gm):Gm:=fun e K=>Fits e.4->((0:Int)<=(0:Int)/\(0:Int)<=(↑e.4.length:Int)/\Sml (↑e.4.length:Int).toNat)/\(Fits e.4->Lp2 (fun Zs q4n j3j=>CAt e.4 q4n (fun y3=>Zw y3 fun Q0=>Sml (Zs++[Q0]).length/\InI (q4n+1)/\j3j (Zs++[Q0]) (q4n+1)) (Fits e.5->((0:Int)<=(0:Int)/\(0:Int)<=(↑e.5.length:Int)/\Sml (↑e.5.length:Int).toNat)/\(Fits e.5->Lp2 (fun Q0 q5y w1f=>CAt e.5 q5y (fun y6=>X (Ex.mk y6.1 y6.2 y6.3 y6.4 y6.5) fun Ui=>Sml (Q0++[Ex.mk Ui.1 Ui.2 Ui.3 Ui.4 Ui.5]).length/\InI (q5y+1)/\w1f (Q0++[Ex.mk Ui.1 Ui.2 Ui.3 Ui.4 Ui.5]) (q5y+1)) (K (Ex.mk e.1 e.2 e.3 Zs Q0))) (List.replicate (Int.toNat (0:Int)) (Ex.mk (0:Int) (B8 []) (B8 []) [] [])) (0:Int)))) (List.replicate (Int.toNat (0:Int)) (Val.mk (0:Int) (0:Int) (B8 []) [])) (0:Int))
def q4t:Gm:=fun e K=> ∀X:Gm,(∀e K,q8g Jb X e K->X e K)->X e K
abbrev H0:Type:=Ex->(List (Ex)->Prop)->Prop
def q5e(q1f:Vj)(q46:Gm):H0:=fun e K=>q1f [] (Ex.mk e.1 e.2 e.3 e.4 e.5) fun Qi=>Fits Qi->((0:Int)<=(0:Int)/\(0:Int)<=(↑Qi.length:Int)/\Sml (↑Qi.length:Int).toNat)/\(Fits Qi->Lp2 (fun Qj R4 z8f=>CAt Qi R4 (fun y4=>q46 (Ex.mk y4.1 y4.2 y4.3 y4.4 y4.5) fun Jm=>Sml (Qj++[Ex.mk Jm.1 Jm.2 Jm.3 Jm.4 Jm.5]).length/\InI (R4+1)/\z8f (Qj++[Ex.mk Jm.1 Jm.2 Jm.3 Jm.4 Jm.5]) (R4+1)) (K Qj)) (List.replicate (Int.toNat (0:Int)) (Ex.mk (0:Int) (B8 []) (B8 []) [] [])) (0:Int))
def q5f:H0:=q5e q1a q4t
abbrev Q4:Type:=List (ByteArray)->(List (ByteArray)->Prop)->Prop
def Zb(x:List (ByteArray))(K:List (ByteArray)->Prop):Prop:=K (srt x)
abbrev Zf:Type:=List (ByteArray)->(List (ByteArray)->Prop)->Prop
def Zg(s:List (ByteArray))(K:List (ByteArray)->Prop):Prop:=K (cpt s)
abbrev Up:Type:=Ex->(List (ByteArray)->Prop)->Prop
def q1x(q1g:H0)(Qg:Q4)(Qm:Zf):Up:=fun e K=>q1g (Ex.mk e.1 e.2 e.3 e.4 e.5) fun Qi=>Fits Qi->Lp2 (fun Zs q4n j3j=>CAt Qi q4n (fun y3=>Cnd (y3.1=5) (Sml (Zs++[y3.3]).length/\InI (q4n+1)/\j3j (Zs++[y3.3]) (q4n+1)) (InI (q4n+1)/\j3j Zs (q4n+1))) (Qg Zs fun Qj=>Qm Qj fun Zt=>K Zt)) [] (0:Int)
def H9:Up:=q1x q5f Zb Zg
abbrev q6q:Type:=List (ByteArray)->List (Edg)->(List (ByteArray)->Int->Prop)->Prop
def P_graph_Order(nodes:List (ByteArray))(edges:List (Edg))(K:List (ByteArray)->Int->Prop):Prop:=Go.Fl.P_graph_Order nodes (edges.map fun e=>(e.1,e.2)) K
abbrev Gn:Type:=List (Seg)->(List (ByteArray)->Int->Prop)->Prop
def q3x(Rh:Up)(q3c:q6q):Gn:=fun l K=>Fits l->Lp3 (fun Qx q6d w1c v22=>CAt l w1c (fun y2=>Sml (Qx++[y2.1]).length/\Rh (Ex.mk y2.5.1 y2.5.2 y2.5.3 y2.5.4 y2.5.5) fun Zt=>Fits Zt->Lp2 (fun Jm q76 w1d=>CAt Zt q76 (fun y7=>Sml (Jm++[Edg.mk y2.1 y7]).length/\InI (q76+1)/\w1d (Jm++[Edg.mk y2.1 y7]) (q76+1)) (InI (w1c+1)/\v22 (Qx++[y2.1]) Jm (w1c+1))) q6d (0:Int)) (q3c Qx q6d fun Zs q4n=>K Zs q4n)) [] [] (0:Int)
def Bh:Gn:=q3x H9 P_graph_Order
abbrev J7:Type:=Subj->ByteArray->ByteArray->(Val->Bool->Prop)->Prop
def q1y(Ji:Vu)(Zw:W8):J7:=fun s kind name K=>Ji (Subj.mk s.1) kind fun Qi=>Cnd (Qi<0) (K (Val.mk (0:Int) (0:Int) (B8 []) []) false) (At s.1 Qi fun y1=>Cnd (name=B8 [107,101,121]) (K (Val.mk (3:Int) (0:Int) y1.2 []) true) (Fits y1.3->Lp5 (fun Zt Hn v2x v2y (v3u:List ByteArray) v3v=>CAt y1.3 Zt (fun y5=>Cnd (y5.1=name) (Zw (Val.mk y5.2.1 y5.2.2 y5.2.3 y5.2.4) fun Q3=>K Q3 true) (InI (Zt+1)/\v3v (Zt+1) Hn v2x v2y v3u)) (K (Val.mk (0:Int) (0:Int) (B8 []) []) false)) (0:Int) (0:Int) (0:Int) (B8 []) []))
def Uq:J7:=q1y Gk Jb
abbrev Bi:Type:=Val->Val->(Bool->Prop)->Prop
def q6r(Qs:Q7):Bi:=fun a b K=>Cnd (a.1=b.1) (Cnd (a.2=b.2) (Cnd (a.3=b.3) (Qs a.4 b.4 fun Qi=>K Qi) (K false)) (K false)) (K false)
def Bj:Bi:=q6r Zl
abbrev Zv:Type:=ByteArray->ByteArray->(Bool->Prop)->Prop
def Jc:Zv:=fun s prefix_ K=>Cnd ((↑prefix_.size:Int)<=(↑s.size:Int)) (((0:Int)<=(0:Int)/\(0:Int)<=(↑prefix_.size:Int)/\(↑prefix_.size:Int)<=(↑s.size:Int))/\K (decide (s.extract (Int.toNat (0:Int)) (↑prefix_.size:Int).toNat=prefix_))) (K false)
abbrev Wr:Type:=ByteArray->ByteArray->(Bool->Prop)->Prop
def Rq(Q5:Zv):Wr:=fun s prefix_ K=>Q5 s prefix_ fun Qi=>K Qi
def V7:Wr:=Rq Jc
abbrev Wd:Type:=ByteArray->ByteArray->(Bool->Prop)->Prop
def V8:Wd:=fun s suffix K=>Cnd ((↑suffix.size:Int)<=(↑s.size:Int)) (InI ((↑s.size:Int) - (↑suffix.size:Int))/\((0:Int)<=(↑s.size:Int) - (↑suffix.size:Int)/\(↑s.size:Int) - (↑suffix.size:Int)<=(↑s.size:Int)/\(↑s.size:Int)<=(↑s.size:Int))/\K (decide (s.extract ((↑s.size:Int) - (↑suffix.size:Int)).toNat (↑s.size:Int).toNat=suffix))) (K false)
abbrev Ws:Type:=ByteArray->ByteArray->(Bool->Prop)->Prop
def Rr(Wf:Wd):Ws:=fun s suffix K=>Wf s suffix fun Qi=>K Qi
def V9:Ws:=Rr V8
abbrev Bk:Type:=ByteArray->ByteArray->(Bool->Prop)->Prop
def Bl(s:ByteArray)(substr:ByteArray)(K:Bool->Prop):Prop:=s.size<4294967281/\K (Go.Lib.contains s.data.toList substr.data.toList)
abbrev q2t:Type:=Val->(Bool->Prop)->Prop
def q2u:q2t:=fun v K=>Jn1 (fun Qi=>Cnd (Qi=true) (Cnd (v.3=B8 []) (Fits v.4->K (decide ((↑v.4.length:Int)=0))) (K false)) (Jn1 (fun Qx=>Cnd (Qx=true) (Cnd (v.2=0) (Fits v.4->K (decide ((↑v.4.length:Int)=0))) (K false)) (Cnd (v.2=0) (K (decide (v.3=B8 []))) (K false))) fun w1g=>Cnd (v.1=3) (w1g (decide (v.1=3))) (w1g (decide (v.1=4))))) fun q5z=>Cnd (v.1=1) (q5z (decide (v.1=1))) (q5z (decide (v.1=2)))
abbrev Bm:Type:=ByteArray->(Bool->Prop)->Prop
def Ga(s:ByteArray)(K:Bool->Prop):Prop:=s.size<=(9223372036854775807:Nat)/\K (Go.Lib.validD s.data.toList)
abbrev q1o:Type:=ByteArray->(Bool->Prop)->Prop
def q8h(Ge:Bm):q1o:=fun s K=>Cnd ((200:Int)<(↑s.size:Int)) (K false) (Ge s fun Qi=>Cnd (Qi=true) (Lp1 (fun (Qx:ByteArray×Nat) q6c=>Cnd (Qx.2<Qx.1.size) (Cnd ((↑(Go.Utf8.decode Qx.1 Qx.2).1:Int)<(32:Int)) (K false) (Cnd ((↑(Go.Utf8.decode Qx.1 Qx.2).1:Int)=(127:Int)) (K false) (q6c (Qx.1,Qx.2+(Go.Utf8.decode Qx.1 Qx.2).2)))) (K true)) (s,(0:Nat))) (K false))
def q4u:q1o:=q8h Ga
abbrev q3y:Type:=ByteArray->ByteArray->(List (ByteArray)->Prop)->Prop
def q3z(s:ByteArray)(sep:ByteArray)(K:List (ByteArray)->Prop):Prop:=sep.size=1/\s.size<4294967281/\K (R1 s sep)
abbrev Jd:Type:=ByteArray->ByteArray->(ByteArray->Bool->Prop)->Prop
def Ua(Q5:Zv):Jd:=fun s prefix_ K=>Q5 s prefix_ fun Qi=>Cnd (Qi=true) (((0:Int)<=(↑prefix_.size:Int)/\(↑prefix_.size:Int)<=(↑s.size:Int)/\(↑s.size:Int)<=(↑s.size:Int))/\K (s.extract (↑prefix_.size:Int).toNat (↑s.size:Int).toNat) true) (K s false)
def Ub:Jd:=Ua Jc
abbrev Wt:Type:=ByteArray->ByteArray->(ByteArray->Bool->Prop)->Prop
def Rs(Wg:Jd):Wt:=fun s prefix_ K=>Wg s prefix_ fun Qi q0r=>K Qi q0r
def Uc:Wt:=Rs Ub
abbrev q5g:Type:=ByteArray->(Int->Bool->Prop)->Prop
def q1b(s:ByteArray)(K:Int->Bool->Prop):Prop:=s.size<=281474976710656/\w3i s K
abbrev Va:Type:=ByteArray->(Int->Int->Prop)->Prop
def Bn(Uk:Wt)(H7:q5g):Va:=fun s K=>Uk s (B8 [45]) fun Qi q0r=>Cnd (Qi=B8 []) (K (0:Int) (1:Int)) (((0:Int)<=(0:Int)/\(0:Int)<(↑Qi.size:Int))/\ ∀b1,Qi[Int.toNat (0:Int)]? =some b1->Cnd ((↑b1.toNat:Int)=48) (Cnd ((1:Int)<(↑Qi.size:Int)) (K (0:Int) (1:Int)) (Cnd (q0r=true) (K (0:Int) (1:Int)) (Lp1 (fun (Qj:ByteArray×Nat) z0u=>Cnd (Qj.2<Qj.1.size) (Cnd ((↑(Go.Utf8.decode Qj.1 Qj.2).1:Int)<(48:Int)) (K (0:Int) (1:Int)) (Cnd ((57:Int)<(↑(Go.Utf8.decode Qj.1 Qj.2).1:Int)) (K (0:Int) (1:Int)) (z0u (Qj.1,Qj.2+(Go.Utf8.decode Qj.1 Qj.2).2)))) (H7 s fun Zt Hn=>Cnd ((match (Zt,Hn,()).2.1 with|true=>false|false=>true)=true) (K (0:Int) (3:Int)) (Cnd (Zt<(-1099511627776:Int)) (K (0:Int) (3:Int)) (Cnd ((1099511627776:Int)<Zt) (K (0:Int) (3:Int)) (K Zt (0:Int)))))) (Qi,(0:Nat))))) (Lp1 (fun (Qj:ByteArray×Nat) z0u=>Cnd (Qj.2<Qj.1.size) (Cnd ((↑(Go.Utf8.decode Qj.1 Qj.2).1:Int)<(48:Int)) (K (0:Int) (1:Int)) (Cnd ((57:Int)<(↑(Go.Utf8.decode Qj.1 Qj.2).1:Int)) (K (0:Int) (1:Int)) (z0u (Qj.1,Qj.2+(Go.Utf8.decode Qj.1 Qj.2).2)))) (H7 s fun Zt Hn=>Cnd ((match (Zt,Hn,()).2.1 with|true=>false|false=>true)=true) (K (0:Int) (3:Int)) (Cnd (Zt<(-1099511627776:Int)) (K (0:Int) (3:Int)) (Cnd ((1099511627776:Int)<Zt) (K (0:Int) (3:Int)) (K Zt (0:Int)))))) (Qi,(0:Nat))))
def Gb:Va:=Bn Uc q1b
abbrev Ud:Type:=ByteArray->(A3->Bool->Prop)->Prop
def q6s(q0h:q3y)(Gf:Va):Ud:=fun s K=>q0h s (B8 [46]) fun Qi=>Fits Qi->Cnd ((↑Qi.length:Int)=3) (Fits Qi->LpH (fun (Qj:Int×Int×Int×Int×Int×Int×Int×Unit) z0u=>CAt Qi Qj.1 (fun y4=>Gf y4 fun Jm q76=>Cnd (q76=0) (Cnd (Jm<0) (K ((0:Int),(0:Int),(0:Int)) false) (Cnd ((999999:Int)<Jm) (K ((0:Int),(0:Int),(0:Int)) false) (((0:Int)<=Qj.1/\Qj.1<(↑(3:Nat):Int))/\((True/\(Qj.1=(↑(nat_lit 0):Int)->InI (Qj.1+1)/\z0u (Qj.1+1,Jm,Qj.2.2.1,Qj.2.2.2.1,Qj.2.2.2.2.1,Qj.2.2.2.2.2.1,Qj.2.2.2.2.2.2.1,())))/\(Qj.1=(↑(nat_lit 1):Int)->InI (Qj.1+1)/\z0u (Qj.1+1,Qj.2.1,Jm,Qj.2.2.2.1,Qj.2.2.2.2.1,Qj.2.2.2.2.2.1,Qj.2.2.2.2.2.2.1,())))/\(Qj.1=(↑(nat_lit 2):Int)->InI (Qj.1+1)/\z0u (Qj.1+1,Qj.2.1,Qj.2.2.1,Jm,Qj.2.2.2.2.1,Qj.2.2.2.2.2.1,Qj.2.2.2.2.2.2.1,()))))) (K ((0:Int),(0:Int),(0:Int)) false)) (K (Qj.2.1,Qj.2.2.1,Qj.2.2.2.1) true)) ((0:Int),(0:Int),(0:Int),(0:Int),(0:Int),(0:Int),(0:Int),())) (K ((0:Int),(0:Int),(0:Int)) false)
def Bo:Ud:=q6s q3z Gb
abbrev Bp:Type:=Val->(Int->Prop)->Prop
def q6t(q3d:q2t)(q1r:q1o)(Jz:Ud):Bp:=fun v K=>Cnd (v.1<1) (K (7:Int)) (Cnd ((5:Int)<v.1) (K (7:Int)) (q3d v fun Qi=>Cnd (Qi=true) (Cnd (v.1=1) (Cnd (v.2=0) (K (0:Int)) (Cnd (v.2=1) (K (0:Int)) (K (3:Int)))) (Cnd (v.1=2) (Cnd (v.2<(-1099511627776:Int)) (K (3:Int)) (Cnd ((1099511627776:Int)<v.2) (K (3:Int)) (K (0:Int)))) (Cnd (v.1=3) (q1r v.3 fun Qx=>Cnd (Qx=true) (K (0:Int)) (K (2:Int))) (Cnd (v.1=4) (Jz v.3 fun (Qx:Int×Int×Int) q6d=>Cnd (q6d=true) (K (0:Int)) (K (1:Int))) (Cnd (v.1=5) (Fits v.4->Cnd ((20:Int)<(↑v.4.length:Int)) (K (5:Int)) (Fits v.4->Lp1 (fun Qj z0u=>CAt v.4 Qj (fun y4=>q1r y4 fun Jm=>Cnd (Jm=true) (InI (Qj+1)/\z0u (Qj+1)) (K (2:Int))) (Fits v.4->Lp1 (fun Q0 j08=>Cnd (Q0<(↑v.4.length:Int)) (Cnd ((0:Int)<Q0) (InI (Q0 - 1)/\((0:Int)<=Q0 - 1/\Q0 - 1<(↑v.4.length:Int))/\ ∀y6,v.4[(Q0 - 1).toNat]? =some y6->At v.4 Q0 fun y8=>Cnd (Lk.blt y6 y8) (InI (Q0+1)/\j08 (Q0+1)) (K (9:Int))) (InI (Q0+1)/\j08 (Q0+1))) (K (0:Int))) (0:Int))) (0:Int))) (K (0:Int))))))) (K (15:Int))))
def q2v:Bp:=q6t q2u q4u Bo
abbrev Gq:Type:=Val->Val->(Int->Int->Prop)->Prop
def q30(q0i:Bp)(Jz:Ud):Gq:=fun a b K=>q0i a fun Qi=>Cnd (Qi=0) (q0i b fun Qx=>Cnd (Qx=0) (Cnd (a.1=b.1) (Cnd (a.1=1) (K (0:Int) (8:Int)) (Cnd (a.1=5) (K (0:Int) (8:Int)) (Cnd (a.1=2) (Cnd (a.2=a.2) (Cnd (b.2=b.2) (Cnd (a.2<b.2) (K (-1:Int) (0:Int)) (Cnd (b.2<a.2) (K (1:Int) (0:Int)) (K (0:Int) (0:Int)))) (K (1:Int) (0:Int))) (Cnd (b.2=b.2) (K (-1:Int) (0:Int)) (K (0:Int) (0:Int)))) (Cnd (a.1=3) (Cnd (a.3=a.3) (Cnd (b.3=b.3) (Cnd (Lk.blt a.3 b.3) (K (-1:Int) (0:Int)) (Cnd (Lk.blt b.3 a.3) (K (1:Int) (0:Int)) (K (0:Int) (0:Int)))) (K (1:Int) (0:Int))) (Cnd (b.3=b.3) (K (-1:Int) (0:Int)) (K (0:Int) (0:Int)))) (Jz a.3 fun (Zs:Int×Int×Int) q4n=>Jz b.3 fun (Qj:Int×Int×Int) R4=>Two (([Zs.1,Zs.2.1,Zs.2.2].length<=(9223372036854775807:Nat)->Lp1 (fun Q0 j08=>Cnd (Q0<(↑[Zs.1,Zs.2.1,Zs.2.2].length:Int)) (((0:Int)<=Q0/\Q0<(↑[Zs.1,Zs.2.1,Zs.2.2].length:Int))/\ ∀y6,[Zs.1,Zs.2.1,Zs.2.2][Q0.toNat]? =some y6->[Qj.1,Qj.2.1,Qj.2.2].length<=(9223372036854775807:Nat)->Cnd ((↑[Qj.1,Qj.2.1,Qj.2.2].length:Int)<=Q0) (K (1:Int) (0:Int)) (((0:Int)<=Q0/\Q0<(↑[Qj.1,Qj.2.1,Qj.2.2].length:Int))/\ ∀y9,[Qj.1,Qj.2.1,Qj.2.2][Q0.toNat]? =some y9->Cnd (y6=y6) (Cnd (y9=y9) (Cnd (y6<y9) (Cnd ((-1:Int)=(0:Int)) (InI (Q0+1)/\j08 (Q0+1)) (K (-1:Int) (0:Int))) (Cnd (y9<y6) (Cnd ((1:Int)=(0:Int)) (InI (Q0+1)/\j08 (Q0+1)) (K (1:Int) (0:Int))) (Cnd ((0:Int)=(0:Int)) (InI (Q0+1)/\j08 (Q0+1)) (K (0:Int) (0:Int))))) (Cnd ((1:Int)=(0:Int)) (InI (Q0+1)/\j08 (Q0+1)) (K (1:Int) (0:Int)))) (Cnd (y9=y9) (Cnd ((-1:Int)=(0:Int)) (InI (Q0+1)/\j08 (Q0+1)) (K (-1:Int) (0:Int))) (Cnd ((0:Int)=(0:Int)) (InI (Q0+1)/\j08 (Q0+1)) (K (0:Int) (0:Int)))))) ([Zs.1,Zs.2.1,Zs.2.2].length<=(9223372036854775807:Nat)->[Qj.1,Qj.2.1,Qj.2.2].length<=(9223372036854775807:Nat)->Cnd ((↑[Zs.1,Zs.2.1,Zs.2.2].length:Int)<(↑[Qj.1,Qj.2.1,Qj.2.2].length:Int)) (K (-1:Int) (0:Int)) (K (0:Int) (0:Int)))) (0:Int)))))))) (K (0:Int) (8:Int))) (K (0:Int) Qx)) (K (0:Int) Qi)
def Gs:Gq:=q30 q2v Bo
abbrev q2w:Type:=Subj->Ex->(Bool->Prop)->Prop
def q6u(Z2:J7)(Hj:Bg)(Hk:Bi)(Ul:Wr)(Um:Ws)(Gg:Bk)(G6:Gq):q2w:=fun s e K=>Z2 (Subj.mk s.1) e.2 e.3 fun Qi q0r=>Cnd (q0r=true) (Hj e.1 fun Qx=>Cnd (Qx=true) (Cnd (e.1=6) (K true) (Cnd (e.1=8) (Fits e.4->Lp1 (fun Qj z0u=>CAt e.4 Qj (fun y4=>Hk Qi y4 fun Jm=>Cnd (Jm=true) (K (decide ((0:Int)<=Qj))) (InI (Qj+1)/\z0u (Qj+1))) (K (decide ((0:Int)<=(-1:Int))))) (0:Int)) (Fits e.4->Cnd ((↑e.4.length:Int)=0) (K false) (((0:Int)<=(0:Int)/\(0:Int)<(↑e.4.length:Int))/\ ∀y3,e.4[Int.toNat (0:Int)]? =some y3->Cnd (Qi.1=3) (Cnd (e.1=7) (Hk Qi y3 fun Q0=>K Q0) (Cnd (e.1=9) (Cnd (y3.1=3) (Ul Qi.3 y3.3 fun Q0=>K Q0) (K false)) (Cnd (e.1=10) (Cnd (y3.1=3) (Um Qi.3 y3.3 fun Q0=>K Q0) (K false)) (Cnd (e.1=11) (Cnd (y3.1=3) (Gg Qi.3 y3.3 fun Q0=>Cnd (Q0=true) (K true) (Cnd (y3.1=3) (Cnd (Qi.1=5) (Fits Qi.4->Lp1 (fun Q3 w4o=>CAt Qi.4 Q3 (fun y8=>Cnd (y3.3=y8) (K (decide ((0:Int)<=Q3))) (InI (Q3+1)/\w4o (Q3+1))) (K (decide ((0:Int)<=(-1:Int))))) (0:Int)) (K false)) (K false))) (Cnd (y3.1=3) (Cnd (Qi.1=5) (Fits Qi.4->Lp1 (fun Jm w1h=>CAt Qi.4 Jm (fun y7=>Cnd (y3.3=y7) (K (decide ((0:Int)<=Jm))) (InI (Jm+1)/\w1h (Jm+1))) (K (decide ((0:Int)<=(-1:Int))))) (0:Int)) (K false)) (K false))) (G6 Qi y3 fun Q0 q5y=>Cnd (q5y=0) (Cnd (e.1=12) (K (decide (Q0<0))) (Cnd (e.1=13) (K (decide (Q0<=0))) (Cnd (e.1=14) (K (decide ((0:Int)<Q0))) (K (decide ((0:Int)<=Q0)))))) (K false)))))) (Cnd (e.1=7) (Hk Qi y3 fun Q0=>K Q0) (Cnd (e.1=9) (K false) (Cnd (e.1=10) (K false) (Cnd (e.1=11) (Cnd (y3.1=3) (Cnd (Qi.1=5) (Fits Qi.4->Lp1 (fun Jm w1h=>CAt Qi.4 Jm (fun y7=>Cnd (y3.3=y7) (K (decide ((0:Int)<=Jm))) (InI (Jm+1)/\w1h (Jm+1))) (K (decide ((0:Int)<=(-1:Int))))) (0:Int)) (K false)) (K false)) (G6 Qi y3 fun Q0 q5y=>Cnd (q5y=0) (Cnd (e.1=12) (K (decide (Q0<0))) (Cnd (e.1=13) (K (decide (Q0<=0))) (Cnd (e.1=14) (K (decide ((0:Int)<Q0))) (K (decide ((0:Int)<=Q0)))))) (K false)))))))))) (K false)) (K false)
def Hb:q2w:=q6u Uq V6 Bj V7 V9 Bl Gs
abbrev Jx:Type:=Subj->List (ByteArray)->Ex->(Bool->Prop)->Prop
def q6v(j09:q2w)(X:Jx):Jx:=fun s in_ e K=>Cnd (e.1=1) (K true) (Cnd (e.1=2) (Fits e.5->Lp1 (fun Qx q6c=>CAt e.5 Qx (fun y2=>X (Subj.mk s.1) in_ (Ex.mk y2.1 y2.2 y2.3 y2.4 y2.5) fun Zt=>Cnd (Zt=true) (InI (Qx+1)/\q6c (Qx+1)) (K (match decide ((0:Int)<=Qx) with|true=>false|false=>true))) (K true)) (0:Int)) (Cnd (e.1=3) (Fits e.5->Lp1 (fun Qx q6c=>CAt e.5 Qx (fun y2=>X (Subj.mk s.1) in_ (Ex.mk y2.1 y2.2 y2.3 y2.4 y2.5) fun Zt=>Cnd (Zt=true) (K (decide ((0:Int)<=Qx))) (InI (Qx+1)/\q6c (Qx+1))) (K (decide ((0:Int)<=(-1:Int))))) (0:Int)) (Cnd (e.1=4) (Fits e.5->Cnd ((0:Int)<(↑e.5.length:Int)) (((0:Int)<=(0:Int)/\(0:Int)<(↑e.5.length:Int))/\ ∀y1,e.5[Int.toNat (0:Int)]? =some y1->X (Subj.mk s.1) in_ (Ex.mk y1.1 y1.2 y1.3 y1.4 y1.5) fun Qj=>K (match decide ((Qj,()).1=true) with|true=>false|false=>true)) (K false)) (Cnd (e.1=5) (Fits in_->Lp1 (fun Qx q6c=>CAt in_ Qx (fun y2=>Cnd (e.3=y2) (K (decide ((0:Int)<=Qx))) (InI (Qx+1)/\q6c (Qx+1))) (K (decide ((0:Int)<=(-1:Int))))) (0:Int)) (j09 (Subj.mk s.1) (Ex.mk e.1 e.2 e.3 e.4 e.5) fun Qi=>K Qi)))))
def Vb:Jx:=fun s in_ e K=> ∀X:Jx,(∀s in_ e K,q6v Hb X s in_ e K->X s in_ e K)->X s in_ e K
abbrev Vc:Type:=Seg->Subj->List (ByteArray)->(Bool->Prop)->Prop
def Bq(Qn:Zm)(Zr:Jx):Vc:=fun g s in_ K=>Qn (Subj.mk s.1) g.2 fun Qi q0r=>Cnd (q0r=true) (Fits g.4->Lp1 (fun Zs z84=>CAt g.4 Zs (fun y3=>Cnd (Qi.2=y3) (Cnd ((0:Int)<=Zs) (K false) (Fits g.3->Lp1 (fun Jm w1h=>CAt g.3 Jm (fun y7=>Cnd (Qi.2=y7) (Cnd ((0:Int)<=Jm) (K true) (Cnd (g.5.1=0) (K false) (Zr (Subj.mk s.1) in_ (Ex.mk g.5.1 g.5.2 g.5.3 g.5.4 g.5.5) fun Ja=>K Ja))) (InI (Jm+1)/\w1h (Jm+1))) (Cnd ((0:Int)<=(-1:Int)) (K true) (Cnd (g.5.1=0) (K false) (Zr (Subj.mk s.1) in_ (Ex.mk g.5.1 g.5.2 g.5.3 g.5.4 g.5.5) fun Q3=>K Q3)))) (0:Int))) (InI (Zs+1)/\z84 (Zs+1))) (Cnd ((0:Int)<=(-1:Int)) (K false) (Fits g.3->Lp1 (fun Zt v23=>CAt g.3 Zt (fun y5=>Cnd (Qi.2=y5) (Cnd ((0:Int)<=Zt) (K true) (Cnd (g.5.1=0) (K false) (Zr (Subj.mk s.1) in_ (Ex.mk g.5.1 g.5.2 g.5.3 g.5.4 g.5.5) fun Q3=>K Q3))) (InI (Zt+1)/\v23 (Zt+1))) (Cnd ((0:Int)<=(-1:Int)) (K true) (Cnd (g.5.1=0) (K false) (Zr (Subj.mk s.1) in_ (Ex.mk g.5.1 g.5.2 g.5.3 g.5.4 g.5.5) fun Q0=>K Q0)))) (0:Int)))) (0:Int)) (K false)
def Gc:Vc:=Bq Wj Vb
abbrev Js:Type:=List (Seg)->Subj->(List (ByteArray)->Prop)->Prop
def q0u(q0j:Gn)(Gh:Vc)(Qg:Q4):Js:=fun l s K=>q0j l fun Qi q0r=>Cnd (q0r=0) (Fits l->Lp2 (fun Zs z84 j3j=>CAt l Zs (fun y3=>InI (Zs+1)/\j3j (Zs+1) (put z84 y3.1 (Seg.mk y3.1 y3.2 y3.3 y3.4 (Ex.mk y3.5.1 y3.5.2 y3.5.3 y3.5.4 y3.5.5)))) (Fits Qi->Lp2 (fun Zt Hn j7k=>CAt Qi Hn (fun y5=>Gh (Seg.mk ((z84 y5).getD (Seg.mk (B8 []) (B8 []) [] [] (Ex.mk (0:Int) (B8 []) (B8 []) [] []))).1 ((z84 y5).getD (Seg.mk (B8 []) (B8 []) [] [] (Ex.mk (0:Int) (B8 []) (B8 []) [] []))).2 ((z84 y5).getD (Seg.mk (B8 []) (B8 []) [] [] (Ex.mk (0:Int) (B8 []) (B8 []) [] []))).3 ((z84 y5).getD (Seg.mk (B8 []) (B8 []) [] [] (Ex.mk (0:Int) (B8 []) (B8 []) [] []))).4 (Ex.mk ((z84 y5).getD (Seg.mk (B8 []) (B8 []) [] [] (Ex.mk (0:Int) (B8 []) (B8 []) [] []))).5.1 ((z84 y5).getD (Seg.mk (B8 []) (B8 []) [] [] (Ex.mk (0:Int) (B8 []) (B8 []) [] []))).5.2 ((z84 y5).getD (Seg.mk (B8 []) (B8 []) [] [] (Ex.mk (0:Int) (B8 []) (B8 []) [] []))).5.3 ((z84 y5).getD (Seg.mk (B8 []) (B8 []) [] [] (Ex.mk (0:Int) (B8 []) (B8 []) [] []))).5.4 ((z84 y5).getD (Seg.mk (B8 []) (B8 []) [] [] (Ex.mk (0:Int) (B8 []) (B8 []) [] []))).5.5)) (Subj.mk s.1) Zt fun Q3=>Cnd (Q3=true) (Sml (Zt++[y5]).length/\InI (Hn+1)/\j7k (Zt++[y5]) (Hn+1)) (InI (Hn+1)/\j7k Zt (Hn+1))) (Qg Zt fun Q0=>K Q0)) [] (0:Int))) (0:Int) fun _=>none) (K [])
def Wo:Js:=q0u Bh Gc Zb
abbrev Vw:Type:=Envt->Subj->ByteArray->(Bool->Prop)->Prop
def q0v(Q6:Js)(Zr:Jx):Vw:=fun v s experiment K=>Fits v.6->Lp1 (fun Qx q6c=>CAt v.6 Qx (fun y2=>Cnd (y2.1=experiment) (Q6 v.3 (Subj.mk s.1) fun Zt=>Zr (Subj.mk s.1) Zt (Ex.mk y2.8.1 y2.8.2 y2.8.3 y2.8.4 y2.8.5) fun Q0=>K Q0) (InI (Qx+1)/\q6c (Qx+1))) (K false)) (0:Int)
def Hc:Vw:=q0v Wo Vb
abbrev Vd:Type:=List (Rng)->Int->(Int->Prop)->Prop
def Hd:Vd:=fun l bucket K=>Fits l->Lp1 (fun Qx q6c=>CAt l Qx (fun y2=>Cnd (y2.1<=bucket) (Cnd (bucket<y2.2) (K y2.3) (InI (Qx+1)/\q6c (Qx+1))) (InI (Qx+1)/\q6c (Qx+1))) (K (0:Int))) (0:Int)
abbrev Wl:Type:=Envt->Subj->List (Frc)->ByteArray->(Asg->Int->Prop)->Prop
def q5h(Qn:Zm)(q0k:Bd)(Ql:Z7)(Za:Vd)(Hl:Vw)(q3e:Bf)(q3f:q2q):Wl:=fun v s forced key K=>Jn1 (fun Qi=>Cnd (Qi<0) (K (Asg.mk (B8 []) (B8 []) (0:Int) (0:Int) false) (11:Int)) (At v.5 Qi fun y1=>Qn (Subj.mk s.1) y1.2 fun Qj R4=>Jn1 (fun Zt=>q0k forced key fun Q0 q5y=>Jn1 (fun Jm=>Cnd (Jm=true) (Cnd (Q0.2=B8 []) (K (Asg.mk key (B8 []) Zt (0:Int) false) (0:Int)) (K (Asg.mk key Q0.2 Zt Q0.3 false) (0:Int))) (Jn1 (fun Q3=>Cnd (Q3=true) (K (Asg.mk key (B8 []) Zt (0:Int) true) (0:Int)) (Cnd (R4=true) (Fits v.6->Lp3 (fun Ja j6j v05 v3w=>CAt v.6 Ja (fun y10=>Jn1 (fun Uj=>Jn1 (fun Qc=>Cnd (Qc=true) (Ql y10.4 Qj.2 fun Gi=>Za y10.7 Gi fun Jp=>K (Asg.mk key y10.1 Zt Jp false) (0:Int)) (InI (Ja+1)/\v3w (Ja+1) j6j v05)) fun w4p=>Cnd (y10.2=key) (Cnd (y10.5=2) (Cnd (Uj=true) (Hl (Envt.mk (Sett.mk v.1.1 v.1.2 v.1.3) v.2 v.3 v.4 v.5 v.6) (Subj.mk s.1) y10.1 fun Gi=>w4p Gi) (w4p false)) (w4p false)) (w4p false)) fun j7i=>Fits y10.6->Lp1 (fun Gi v06=>CAt y10.6 Gi (fun y15=>Cnd (y15.1<=Zt) (Cnd (Zt<y15.2) (j7i (decide ((0:Int)<=Gi))) (InI (Gi+1)/\v06 (Gi+1))) (InI (Gi+1)/\v06 (Gi+1))) (j7i (decide ((0:Int)<=(-1:Int))))) (0:Int)) (K (Asg.mk key j6j Zt v05 false) (0:Int))) (0:Int) (B8 []) (0:Int)) (K (Asg.mk key (B8 []) Zt (0:Int) false) (0:Int)))) fun w85=>q3e (Envt.mk (Sett.mk v.1.1 v.1.2 v.1.3) v.2 v.3 v.4 v.5 v.6) (Subj.mk s.1) fun Ui=>Cnd (Ui=true) (w85 true) (Cnd (R4=true) (w85 (decide (Zt<y1.4))) (w85 false)))) fun z41=>Cnd (q5y=true) (Cnd (Q0.2=B8 []) (z41 true) (q3f (Envt.mk (Sett.mk v.1.1 v.1.2 v.1.3) v.2 v.3 v.4 v.5 v.6) Q0 fun Q3=>z41 Q3)) (z41 false)) fun w5z=>Cnd (R4=true) (Ql y1.3 Qj.2 fun Q0=>w5z Q0) (w5z (-1:Int)))) fun q5z=>Fits v.5->Lp1 (fun Zs z84=>CAt v.5 Zs (fun y3=>Cnd (y3.1=key) (q5z Zs) (InI (Zs+1)/\z84 (Zs+1))) (q5z (-1:Int))) (0:Int)
def Wm:Wl:=q5h Wj Be Wq Hd Hc q2s q2r
abbrev q1z:Type:=ByteArray->(List (ByteArray)->Prop)->Prop
def q13(s:ByteArray)(K:List (ByteArray)->Prop):Prop:=s.size<4294967281/\j9r s/\K (V3 s)
abbrev Jt:Type:=ByteArray->(Bool->Prop)->Prop
def z2v(Ri:q1z):Jt:=fun s K=>Cnd ((↑s.size:Int)<1) (K false) (Cnd ((32:Int)<(↑s.size:Int)) (K false) (Lp1 (fun (Qi:ByteArray×Nat) z86=>Cnd (Qi.2<Qi.1.size) (Cnd ((97:Int)<=(↑(Go.Utf8.decode Qi.1 Qi.2).1:Int)) (Cnd ((↑(Go.Utf8.decode Qi.1 Qi.2).1:Int)<=(122:Int)) (z86 (Qi.1,Qi.2+(Go.Utf8.decode Qi.1 Qi.2).2)) (Cnd ((↑Qi.2:Int)=(0:Int)) (K false) (Cnd ((↑(Go.Utf8.decode Qi.1 Qi.2).1:Int)<(48:Int)) (Cnd ((↑(Go.Utf8.decode Qi.1 Qi.2).1:Int)=(45:Int)) (z86 (Qi.1,Qi.2+(Go.Utf8.decode Qi.1 Qi.2).2)) (Cnd ((↑(Go.Utf8.decode Qi.1 Qi.2).1:Int)=(95:Int)) (z86 (Qi.1,Qi.2+(Go.Utf8.decode Qi.1 Qi.2).2)) (K false))) (Cnd ((57:Int)<(↑(Go.Utf8.decode Qi.1 Qi.2).1:Int)) (Cnd ((↑(Go.Utf8.decode Qi.1 Qi.2).1:Int)=(45:Int)) (z86 (Qi.1,Qi.2+(Go.Utf8.decode Qi.1 Qi.2).2)) (Cnd ((↑(Go.Utf8.decode Qi.1 Qi.2).1:Int)=(95:Int)) (z86 (Qi.1,Qi.2+(Go.Utf8.decode Qi.1 Qi.2).2)) (K false))) (z86 (Qi.1,Qi.2+(Go.Utf8.decode Qi.1 Qi.2).2)))))) (Cnd ((↑Qi.2:Int)=(0:Int)) (K false) (Cnd ((↑(Go.Utf8.decode Qi.1 Qi.2).1:Int)<(48:Int)) (Cnd ((↑(Go.Utf8.decode Qi.1 Qi.2).1:Int)=(45:Int)) (z86 (Qi.1,Qi.2+(Go.Utf8.decode Qi.1 Qi.2).2)) (Cnd ((↑(Go.Utf8.decode Qi.1 Qi.2).1:Int)=(95:Int)) (z86 (Qi.1,Qi.2+(Go.Utf8.decode Qi.1 Qi.2).2)) (K false))) (Cnd ((57:Int)<(↑(Go.Utf8.decode Qi.1 Qi.2).1:Int)) (Cnd ((↑(Go.Utf8.decode Qi.1 Qi.2).1:Int)=(45:Int)) (z86 (Qi.1,Qi.2+(Go.Utf8.decode Qi.1 Qi.2).2)) (Cnd ((↑(Go.Utf8.decode Qi.1 Qi.2).1:Int)=(95:Int)) (z86 (Qi.1,Qi.2+(Go.Utf8.decode Qi.1 Qi.2).2)) (K false))) (z86 (Qi.1,Qi.2+(Go.Utf8.decode Qi.1 Qi.2).2)))))) (Ri (B8 [97,110,100,32,97,114,109,115,32,97,116,116,114,105,98,117,116,101,32,98,111,111,108,32,99,108,97,105,109,115,32,99,111,110,116,97,105,110,115,32,99,111,111,108,32,99,111,111,108,105,110,103,32,100,101,102,97,117,108,116,32,100,114,97,102,116,32,101,110,100,115,32,101,120,99,108,117,100,101,32,101,120,105,115,116,115,32,101,120,112,101,114,105,109,101,110,116,32,102,97,108,115,101,32,102,108,97,103,32,104,111,108,100,111,117,116,32,105,110,32,105,110,99,108,117,100,101,32,105,115,32,108,97,121,101,114,32,108,105,115,116,32,109,101,109,98,101,114,32,110,101,101,100,115,32,110,111,116,32,110,117,109,98,101,114,32,111,102,102,32,111,110,32,111,114,32,114,117,108,101,32,114,117,110,110,105,110,103,32,115,97,108,116,32,115,101,103,109,101,110,116,32,115,101,114,118,101,32,115,101,116,116,105,110,103,115,32,115,112,108,105,116,32,115,116,97,114,116,115,32,115,116,111,112,112,101,100,32,116,97,114,103,101,116,32,116,101,120,116,32,116,111,32,116,114,117,101,32,117,110,116,105,108,32,118,97,114,105,97,116,105,111,110,115,32,118,101,114,115,105,111,110,32,119,104,101,110]) fun Qx=>Fits Qx->Lp1 (fun Qj z0u=>CAt Qx Qj (fun y4=>Cnd (y4=s) (K false) (InI (Qj+1)/\z0u (Qj+1))) (K true)) (0:Int))) (s,(0:Nat))))
def He:Jt:=z2v q13
abbrev Br:Type:=Reg->Slt->(Bool->Prop)->Prop
def q6w(Qt:Jt):Br:=fun r s K=>Qt s.1 fun Qi=>Cnd (Qi=true) (Qt s.2 fun Qx=>Cnd (Qx=true) (Qt s.3 fun Zs=>Cnd (Zs=true) (Cnd (s.4<1) (K false) (Cnd ((8:Int)<s.4) (K false) (Cnd (s.5<0) (K false) (Cnd (r.1<s.5) (K false) (Cnd (s.7=0) (K (decide (s.6=0))) (Jn1 (fun Qj=>Cnd (Qj=true) (Cnd (s.5<=s.6) (K (decide (s.6<=r.1))) (K false)) (K false)) fun v07=>Cnd (s.7=1) (v07 (decide (s.7=1))) (v07 (decide (s.7=2))))))))) (K false)) (K false)) (K false)
def q2x:Br:=q6w He
abbrev Zj:Type:=(ByteArray->Option (ByteArray))->ByteArray->(ByteArray->(ByteArray->Option (ByteArray))->Prop)->Prop
def Z8:Zj:=fun f id K=>Lp1 (fun Qi z86=>Cnd ((f Qi).isSome=true) (z86 ((f Qi).getD (B8 []))) (K Qi f)) id
abbrev J1:Type:=(ByteArray->Option (ByteArray))->ByteArray->ByteArray->(Bool->(ByteArray->Option (ByteArray))->Prop)->Prop
def Gt(Qk:Zj):J1:=fun f a b K=>Qk f a fun Qi z86=>Qk z86 b fun Qx q6c=>Cnd (Qi=Qx) (K false q6c) (Cnd (Lk.blt Qi Qx) (Cnd (Lk.blt Qx Qi) (K true (put q6c Qx Qx)) (K true (put q6c Qx Qi))) (Cnd (Lk.blt Qx Qi) (K true (put q6c Qi Qx)) (K true (put q6c Qi Qi))))
def Ve:J1:=Gt Z8
abbrev Ue:Type:=List (Lnk)->((ByteArray->Option (ByteArray))->Prop)->Prop
def q6x(Vi:J1):Ue:=fun l K=>Fits l->Lp2 (fun Qx q6c j7h=>CAt l Qx (fun y2=>Vi q6c y2.1 y2.2 fun _ v23=>InI (Qx+1)/\j7h (Qx+1) v23) (K q6c)) (0:Int) fun _=>none
def Bt:Ue:=q6x Ve
abbrev Zh:Type:=List (Lnk)->ByteArray->(ByteArray->Prop)->Prop
def q31(Wh:Ue)(Qk:Zj):Zh:=fun l id K=>Wh l fun q5z=>Qk q5z id fun Qx _=>K Qx
def J2:Zh:=q31 Bt Z8
abbrev Zn:Type:=Reg->(Bool->Prop)->Prop
def q5i(Qt:Jt)(q3g:Br)(Qh:Zh):Zn:=fun r K=>Cnd (r.1<0) (K false) (Cnd ((1099511627776:Int)<r.1) (K false) (Fits r.2->Cnd ((64:Int)<(↑r.2.length:Int)) (K false) (Fits r.3->Cnd ((128:Int)<(↑r.3.length:Int)) (K false) (Fits r.2->Lp2 (fun Qj R4 z8f=>CAt r.2 R4 (fun y4=>Qt y4.1 fun Jm=>Cnd (Jm=true) (Qt y4.2 fun Q3=>Cnd (Q3=true) (Cnd (y4.1=y4.2) (K false) (Cnd (y4.3<Qj) (K false) (Cnd (r.1<y4.3) (K false) (InI (R4+1)/\z8f y4.3 (R4+1))))) (K false)) (K false)) (Fits r.3->Lp2 (fun Q0 q5y w1f=>CAt r.3 q5y (fun y6=>q3g r y6 fun Ui=>Cnd (Ui=true) (Cnd (y6.5<Q0) (K false) (InI (q5y+1)/\w1f y6.5 (q5y+1))) (K false)) (Fits r.3->Lp2 (fun Q3 w4o z42=>CAt r.3 Q3 (fun y8=>Cnd (y8.7=0) (Qh r.2 y8.1 fun Vy=>Cnd ((w4o (y8.2,Vy)).getD false=true) (K false) (InI (Q3+1)/\z42 (Q3+1) (put w4o (y8.2,Vy) true))) (InI (Q3+1)/\z42 (Q3+1) w4o)) (K true)) (0:Int) fun _=>none)) (0:Int) (0:Int))) (0:Int) (0:Int)))))
def Wn:Zn:=q5i He q2x J2
abbrev Jy:Type:=Reg->Int->(Int->Prop)->Prop
def q5j(Qo:Zn):Jy:=fun r now K=>Qo r fun Qi=>Cnd (Qi=true) (Cnd (now<r.1) (K (26:Int)) (Cnd ((1099511627776:Int)<now) (K (26:Int)) (K (0:Int)))) (K (25:Int))
def U3:Jy:=q5j Wn
abbrev Qp:Type:=List (Lnk)->(List (Lnk)->Prop)->Prop
def Q1:Qp:=fun s K=> ∀n0,(n0=true->s=[])->Cnd (n0=true) (K []) (Sml ([]++s).length/\K ([]++s))
abbrev Qq:Type:=List (Slt)->(List (Slt)->Prop)->Prop
def Q2:Qq:=fun s K=> ∀n0,(n0=true->s=[])->Cnd (n0=true) (K []) (Sml ([]++s).length/\K ([]++s))
abbrev J8:Type:=Reg->ByteArray->ByteArray->(Int->Prop)->Prop
def q14(Qh:Zh):J8:=fun r id layer K=>Qh r.2 id fun Qi=>Fits r.3->Lp1 (fun Zs z84=>CAt r.3 Zs (fun y3=>Cnd (y3.7=0) (Cnd (y3.2=layer) (Qh r.2 y3.1 fun Q0=>Cnd (Q0=Qi) (K Zs) (InI (Zs+1)/\z84 (Zs+1))) (InI (Zs+1)/\z84 (Zs+1))) (InI (Zs+1)/\z84 (Zs+1))) (K (-1:Int))) (0:Int)
def Ur:J8:=q14 J2
abbrev Wu:Type:=Reg->ByteArray->Asg->Int->Int->(Reg->Slt->Int->Prop)->Prop
def q32(Zi:Jy)(Qt:Jt)(Qa:Qp)(Qb:Qq)(Z3:J8)(Qh:Zh):Wu:=fun r id a cool now K=>Zi r now fun Qi=>Cnd (Qi=0) (Cnd (cool<0) (K (Reg.mk (0:Int) [] []) (Slt.mk (B8 []) (B8 []) (B8 []) (0:Int) (0:Int) (0:Int) (0:Int)) (3:Int)) (Qt id fun Qx=>Cnd (Qx=true) (Qt a.1 fun Zs=>Cnd (Zs=true) (Qa r.2 fun Qj=>Qb r.3 fun Zt=>Z3 r id a.1 fun Q0=>Cnd ((0:Int)<=Q0) (At r.3 Q0 fun y6=>K (Reg.mk now Qj Zt) y6 (0:Int)) (Cnd (a.5=true) (K (Reg.mk (0:Int) [] []) (Slt.mk (B8 []) (B8 []) (B8 []) (0:Int) (0:Int) (0:Int) (0:Int)) (11:Int)) (Qt a.2 fun Jm=>Cnd (Jm=true) (Cnd (a.4<1) (K (Reg.mk (0:Int) [] []) (Slt.mk (B8 []) (B8 []) (B8 []) (0:Int) (0:Int) (0:Int) (0:Int)) (11:Int)) (Cnd ((8:Int)<a.4) (K (Reg.mk (0:Int) [] []) (Slt.mk (B8 []) (B8 []) (B8 []) (0:Int) (0:Int) (0:Int) (0:Int)) (11:Int)) (Qh r.2 id fun Q3=>Fits r.3->LpH (fun (Ja:Int×ByteArray×ByteArray×ByteArray×Int×Int×Int×Int×Int×List Lnk×List Slt×Unit) (w1i:Int×ByteArray×ByteArray×ByteArray×Int×Int×Int×Int×Int×List Lnk×List Slt×Unit->Prop)=>CAt r.3 Ja.1 (fun y10=>Cnd (y10.2=a.1) (Cnd (y10.7=0) (InI (Ja.1+1)/\w1i (Ja.1+1,Ja.2.1,Ja.2.2.1,Ja.2.2.2.1,Ja.2.2.2.2.1,Ja.2.2.2.2.2.1,Ja.2.2.2.2.2.2.1,Ja.2.2.2.2.2.2.2.1,Ja.2.2.2.2.2.2.2.2.1,Ja.2.2.2.2.2.2.2.2.2.1,Ja.2.2.2.2.2.2.2.2.2.2.1,())) (InI (now - y10.6)/\Cnd (now - y10.6<cool) (Qh r.2 y10.1 fun Uj=>Cnd (Uj=Q3) (K (Reg.mk (0:Int) [] []) (Slt.mk (B8 []) (B8 []) (B8 []) (0:Int) (0:Int) (0:Int) (0:Int)) (28:Int)) (InI (Ja.1+1)/\w1i (Ja.1+1,Ja.2.1,Ja.2.2.1,Ja.2.2.2.1,Ja.2.2.2.2.1,Ja.2.2.2.2.2.1,Ja.2.2.2.2.2.2.1,Ja.2.2.2.2.2.2.2.1,Ja.2.2.2.2.2.2.2.2.1,Ja.2.2.2.2.2.2.2.2.2.1,Ja.2.2.2.2.2.2.2.2.2.2.1,()))) (InI (Ja.1+1)/\w1i (Ja.1+1,Ja.2.1,Ja.2.2.1,Ja.2.2.2.1,Ja.2.2.2.2.1,Ja.2.2.2.2.2.1,Ja.2.2.2.2.2.2.1,Ja.2.2.2.2.2.2.2.1,Ja.2.2.2.2.2.2.2.2.1,Ja.2.2.2.2.2.2.2.2.2.1,Ja.2.2.2.2.2.2.2.2.2.2.1,())))) (InI (Ja.1+1)/\w1i (Ja.1+1,Ja.2.1,Ja.2.2.1,Ja.2.2.2.1,Ja.2.2.2.2.1,Ja.2.2.2.2.2.1,Ja.2.2.2.2.2.2.1,Ja.2.2.2.2.2.2.2.1,Ja.2.2.2.2.2.2.2.2.1,Ja.2.2.2.2.2.2.2.2.2.1,Ja.2.2.2.2.2.2.2.2.2.2.1,()))) (Fits r.3->Cnd ((128:Int)<=(↑r.3.length:Int)) (K (Reg.mk (0:Int) [] []) (Slt.mk (B8 []) (B8 []) (B8 []) (0:Int) (0:Int) (0:Int) (0:Int)) (19:Int)) (Sml (Zt++[Slt.mk id a.1 a.2 a.4 now (0:Int) (0:Int)]).length/\K (Reg.mk now Qj (Zt++[Slt.mk id a.1 a.2 a.4 now (0:Int) (0:Int)])) (Slt.mk id a.1 a.2 a.4 now (0:Int) (0:Int)) (0:Int)))) ((0:Int),B8 [],B8 [],B8 [],(0:Int),(0:Int),(0:Int),(0:Int),(0:Int),[],[],())))) (K (Reg.mk (0:Int) [] []) (Slt.mk (B8 []) (B8 []) (B8 []) (0:Int) (0:Int) (0:Int) (0:Int)) (11:Int))))) (K (Reg.mk (0:Int) [] []) (Slt.mk (B8 []) (B8 []) (B8 []) (0:Int) (0:Int) (0:Int) (0:Int)) (6:Int))) (K (Reg.mk (0:Int) [] []) (Slt.mk (B8 []) (B8 []) (B8 []) (0:Int) (0:Int) (0:Int) (0:Int)) (6:Int)))) (K (Reg.mk (0:Int) [] []) (Slt.mk (B8 []) (B8 []) (B8 []) (0:Int) (0:Int) (0:Int) (0:Int)) Qi)
def Gu:Wu:=q32 U3 He Q1 Q2 Ur J2
abbrev W4:Type:=List (Lnk)->Int->(List (Lnk)->Prop)->Prop
def Us:W4:=fun l time K=>Fits l->Lp2 (fun Qx q6d j7h=>CAt l q6d (fun y2=>Cnd (y2.3<=time) (Sml (Qx++[y2]).length/\InI (q6d+1)/\j7h (Qx++[y2]) (q6d+1)) (InI (q6d+1)/\j7h Qx (q6d+1))) (K Qx)) [] (0:Int)
abbrev Rt:Type:=Reg->ByteArray->ByteArray->Int->(Slt->Bool->Prop)->Prop
def q98(Z4:W4)(Qh:Zh):Rt:=fun r id layer time K=>Z4 r.2 time fun Qi=>Qh Qi id fun Qx=>Fits r.3->LpH (fun (Qj:Int×ByteArray×ByteArray×ByteArray×Int×Int×Int×Int×Unit) z0u=>CAt r.3 Qj.1 (fun y4=>Cnd (y4.2=layer) (Cnd (y4.5<=time) (Cnd (y4.7=0) (Qh Qi y4.1 fun Jm=>Cnd (Jm=Qx) (K y4 true) (InI (Qj.1+1)/\z0u (Qj.1+1,Qj.2.1,Qj.2.2.1,Qj.2.2.2.1,Qj.2.2.2.2.1,Qj.2.2.2.2.2.1,Qj.2.2.2.2.2.2.1,Qj.2.2.2.2.2.2.2.1,()))) (Cnd (time<y4.6) (Qh Qi y4.1 fun Jm=>Cnd (Jm=Qx) (K y4 true) (InI (Qj.1+1)/\z0u (Qj.1+1,Qj.2.1,Qj.2.2.1,Qj.2.2.2.1,Qj.2.2.2.2.1,Qj.2.2.2.2.2.1,Qj.2.2.2.2.2.2.1,Qj.2.2.2.2.2.2.2.1,()))) (InI (Qj.1+1)/\z0u (Qj.1+1,Qj.2.1,Qj.2.2.1,Qj.2.2.2.1,Qj.2.2.2.2.1,Qj.2.2.2.2.2.1,Qj.2.2.2.2.2.2.1,Qj.2.2.2.2.2.2.2.1,())))) (InI (Qj.1+1)/\z0u (Qj.1+1,Qj.2.1,Qj.2.2.1,Qj.2.2.2.1,Qj.2.2.2.2.1,Qj.2.2.2.2.2.1,Qj.2.2.2.2.2.2.1,Qj.2.2.2.2.2.2.2.1,()))) (InI (Qj.1+1)/\z0u (Qj.1+1,Qj.2.1,Qj.2.2.1,Qj.2.2.2.1,Qj.2.2.2.2.1,Qj.2.2.2.2.2.1,Qj.2.2.2.2.2.2.1,Qj.2.2.2.2.2.2.2.1,()))) (K (Slt.mk (B8 []) (B8 []) (B8 []) (0:Int) (0:Int) (0:Int) (0:Int)) false)) ((0:Int),B8 [],B8 [],B8 [],(0:Int),(0:Int),(0:Int),(0:Int),())
def q33:Rt:=q98 Us J2
abbrev q34:Type:=Reg->ByteArray->ByteArray->Int->(Slt->Bool->Prop)->Prop
def q99(Qo:Zn)(Un:Rt):q34:=fun r id layer time K=>Qo r fun Qi=>Cnd (Qi=true) (Un r id layer time fun Qx q6d=>K Qx q6d) (K (Slt.mk (B8 []) (B8 []) (B8 []) (0:Int) (0:Int) (0:Int) (0:Int)) false)
def q6y:q34:=q99 Wn q33
abbrev Hf:Type:=Envt->ByteArray->(Lay_->Bool->Prop)->Prop
def Bu:Hf:=fun v key K=>Fits v.5->LpH (fun (Qx:Int×ByteArray×ByteArray×ByteArray×Int×Int×List Col×Unit) q6c=>CAt v.5 Qx.1 (fun y2=>Cnd (y2.1=key) (K y2 true) (InI (Qx.1+1)/\q6c (Qx.1+1,Qx.2.1,Qx.2.2.1,Qx.2.2.2.1,Qx.2.2.2.2.1,Qx.2.2.2.2.2.1,Qx.2.2.2.2.2.2.1,()))) (K (Lay_.mk (B8 []) (B8 []) (B8 []) (0:Int) (0:Int) []) false)) ((0:Int),B8 [],B8 [],B8 [],(0:Int),(0:Int),[],())
abbrev W5:Type:=Lnk->ByteArray->(ByteArray->Bool->Prop)->Prop
def Ut:W5:=fun k id K=>Cnd (id=k.1) (K k.2 true) (Cnd (id=k.2) (K k.1 true) (K (B8 []) false))
abbrev Wc:Type:=List (Lnk)->ByteArray->((ByteArray->Option (Int))->Prop)->Prop
def Hq(Z5:W5):Wc:=fun l b K=>Lp2 (fun Qi z86 v04=>Fits Qi->Cnd ((0:Int)<(↑Qi.length:Int)) (Fits Qi->Lp3 (fun Qj R4 z8f v08=>CAt Qi R4 (fun y4=>Fits l->Lp3 (fun Q3 q72 z42 v25=>CAt l q72 (fun y8=>Z5 y8 y4 fun Vy w4q=>Cnd (w4q=true) (Cnd ((z42 Vy).isSome=true) (InI (q72+1)/\v25 Q3 (q72+1) z42) (InI ((z42 y4).getD (0:Int)+(1:Int))/\Sml (Q3++[Vy]).length/\InI (q72+1)/\v25 (Q3++[Vy]) (q72+1) (put z42 Vy ((z42 y4).getD (0:Int)+(1:Int))))) (InI (q72+1)/\v25 Q3 (q72+1) z42)) (InI (R4+1)/\v08 Q3 (R4+1) z42)) Qj (0:Int) z8f) (v04 Qj z8f)) [] (0:Int) z86) (K z86)) [b] (put (fun _=>none) b (0:Int))
def Vn:Wc:=Hq Ut
abbrev Gv:Type:=List (Lnk)->ByteArray->ByteArray->(List (Lnk)->Bool->Prop)->Prop
def q35(Vr:Wc)(Z5:W5):Gv:=fun l a b K=>Vr l b fun q5z=>Cnd ((q5z a).isSome=true) (Lp2 (fun Qx q6d j7h=>Cnd (Qx=b) (K q6d true) (Fits l->Lp3 (fun Qj R4 w4r v08=>CAt l w4r (fun y4=>Z5 y4 Qj fun Jm q76=>Cnd (q76=true) (Cnd ((q5z Jm).isSome=true) (InI ((q5z Qj).getD (0:Int) - (1:Int))/\Cnd ((q5z Jm).getD (0:Int)=(q5z Qj).getD (0:Int) - (1:Int)) (Sml (R4++[y4]).length/\j7h Jm (R4++[y4])) (InI (w4r+1)/\v08 Qj R4 (w4r+1))) (InI (w4r+1)/\v08 Qj R4 (w4r+1))) (InI (w4r+1)/\v08 Qj R4 (w4r+1))) (K R4 true)) Qx q6d (0:Int))) a []) (K [] false)
def Bv:Gv:=q35 Vn Ut
abbrev Gw:Type:=Reg->Envt->ByteArray->ByteArray->Int->(Rcd->Int->Prop)->Prop
def q36(Qo:Zn)(q7m:q34)(Wi:Hf)(Z4:W4)(q0l:Gv)(Ql:Z7):Gw:=fun r v id key time K=>Qo r fun Qi=>Cnd (Qi=true) (q7m r id key time fun Qx q6d=>Wi (Envt.mk (Sett.mk v.1.1 v.1.2 v.1.3) v.2 v.3 v.4 v.5 v.6) key fun Zs q4n=>Cnd (q6d=true) (Cnd (q4n=true) (Z4 r.2 time fun Qj=>q0l Qj id Qx.1 fun Zt _=>Ql Zs.3 Qx.1 fun Q0=>K (Rcd.mk id time Qx Q0 Zt) (0:Int)) (K (Rcd.mk (B8 []) (0:Int) (Slt.mk (B8 []) (B8 []) (B8 []) (0:Int) (0:Int) (0:Int) (0:Int)) (0:Int) []) (11:Int))) (K (Rcd.mk (B8 []) (0:Int) (Slt.mk (B8 []) (B8 []) (B8 []) (0:Int) (0:Int) (0:Int) (0:Int)) (0:Int) []) (11:Int))) (K (Rcd.mk (B8 []) (0:Int) (Slt.mk (B8 []) (B8 []) (B8 []) (0:Int) (0:Int) (0:Int) (0:Int)) (0:Int) []) (25:Int))
def Bw:Gw:=q36 Wn q6y Bu Us Bv Wq
abbrev q2y:Type:=List (Lnk)->ByteArray->ByteArray->Int->(Bool->Prop)->Prop
def q2z:q2y:=fun l a b time K=>Fits l->Lp2 (fun Qx q6d j7h=>CAt l q6d (fun y2=>Cnd (time<y2.3) (K false) (Cnd (y2.1=Qx) (InI (q6d+1)/\j7h y2.2 (q6d+1)) (Cnd (y2.2=Qx) (InI (q6d+1)/\j7h y2.1 (q6d+1)) (K false)))) (K (decide (Qx=b)))) a (0:Int)
abbrev Bx:Type:=Rcd->Envt->(Int->Prop)->Prop
def q6z(q3h:q2y)(Wi:Hf)(Ql:Z7)(Za:Vd)(Qt:Jt):Bx:=fun x v K=>Jn1 (fun Qi=>Cnd (Qi=true) (K (6:Int)) (Jn1 (fun Qx=>Cnd (Qx=true) (K (26:Int)) (q3h x.5 x.1 x.3.1 x.2 fun Zs=>Cnd (Zs=true) (Wi (Envt.mk (Sett.mk v.1.1 v.1.2 v.1.3) v.2 v.3 v.4 v.5 v.6) x.3.2 fun Qj R4=>Fits v.6->Lp1 (fun Q0 j08=>CAt v.6 Q0 (fun y6=>Cnd (y6.1=x.3.3) (Cnd (y6.2=x.3.2) (Cnd (R4=true) (Cnd (Q0<0) (K (11:Int)) (At v.6 Q0 fun y8=>Ql Qj.3 x.3.1 fun Vy=>Cnd (x.4=Vy) (Fits y8.6->Lp1 (fun Uj v09=>CAt y8.6 Uj (fun y13=>Cnd (y13.1<=x.4) (Cnd (x.4<y13.2) (Cnd ((0:Int)<=Uj) (Ql y8.4 x.3.1 fun Jp=>Za y8.7 Jp fun v27=>Cnd (x.3.4=v27) (K (0:Int)) (K (23:Int))) (K (25:Int))) (InI (Uj+1)/\v09 (Uj+1))) (InI (Uj+1)/\v09 (Uj+1))) (Cnd ((0:Int)<=(-1:Int)) (Ql y8.4 x.3.1 fun Qc=>Za y8.7 Qc fun Gi=>Cnd (x.3.4=Gi) (K (0:Int)) (K (23:Int))) (K (25:Int)))) (0:Int)) (K (3:Int)))) (K (11:Int))) (InI (Q0+1)/\j08 (Q0+1))) (InI (Q0+1)/\j08 (Q0+1))) (Cnd (R4=true) (Cnd ((-1:Int)<(0:Int)) (K (11:Int)) (At v.6 (-1:Int) fun y6=>Ql Qj.3 x.3.1 fun Ui=>Cnd (x.4=Ui) (Fits y6.6->Lp1 (fun Vy v1a=>CAt y6.6 Vy (fun y11=>Cnd (y11.1<=x.4) (Cnd (x.4<y11.2) (Cnd ((0:Int)<=Vy) (Ql y6.4 x.3.1 fun Qc=>Za y6.7 Qc fun Gi=>Cnd (x.3.4=Gi) (K (0:Int)) (K (23:Int))) (K (25:Int))) (InI (Vy+1)/\v1a (Vy+1))) (InI (Vy+1)/\v1a (Vy+1))) (Cnd ((0:Int)<=(-1:Int)) (Ql y6.4 x.3.1 fun J0=>Za y6.7 J0 fun Uj=>Cnd (x.3.4=Uj) (K (0:Int)) (K (23:Int))) (K (25:Int)))) (0:Int)) (K (3:Int)))) (K (11:Int)))) (0:Int)) (K (15:Int)))) fun w1g=>Cnd (x.2<x.3.5) (w1g (decide (x.2<x.3.5))) (Cnd (x.3.7=0) (w1g false) (w1g (decide (x.3.6<=x.2)))))) fun q5z=>Qt x.1 fun Qx=>Cnd (Qx=true) (Qt x.3.1 fun Zs=>q5z (match decide ((Zs,()).1=true) with|true=>false|false=>true)) (q5z (match decide ((Qx,()).1=true) with|true=>false|false=>true))
def q20:Bx:=q6z q2z Bu Wq Hd He
abbrev By:Type:=(Bool->Prop)->Prop
def q60(Z6:J6)(J3:q1m)(Z0:Wl)(Jj:Wu)(q0m:Gw)(q0n:Bx):By:=fun K=>Z6 (0:Int) (0:Int) (9998:Int) (4000:Int) (3000:Int) fun Qi=>J3 (B8 [97,110,110]) fun Qx=>Z0 (Envt.mk (Sett.mk Qi.1.1 Qi.1.2 Qi.1.3) Qi.2 Qi.3 Qi.4 Qi.5 Qi.6) (Subj.mk Qx.1) [] (B8 [104,111,109,101]) fun Zs q4n=>Jj (Reg.mk (0:Int) [] []) (B8 [97,110,110]) Zs (0:Int) (1:Int) fun Qj _ w4r=>q0m Qj (Envt.mk (Sett.mk Qi.1.1 Qi.1.2 Qi.1.3) Qi.2 Qi.3 Qi.4 Qi.5 Qi.6) (B8 [97,110,110]) (B8 [104,111,109,101]) (1:Int) fun Zt Hn=>InI (Zt.4+1)/\(10000:Int)≠(0:Int)/\Cnd (q4n=0) (Cnd (w4r=0) (Cnd (Hn=0) (Cnd ((0:Int)<Zs.4) (Cnd (Zt.3.4=Zs.4) (Cnd (Zt.3.1=B8 [97,110,110]) (Cnd (Zt.4=Zs.3) (q0n (Rcd.mk Zt.1 Zt.2 (Slt.mk Zt.3.1 Zt.3.2 Zt.3.3 Zt.3.4 Zt.3.5 Zt.3.6 Zt.3.7) Zt.4 Zt.5) (Envt.mk (Sett.mk Qi.1.1 Qi.1.2 Qi.1.3) Qi.2 Qi.3 Qi.4 Qi.5 Qi.6) fun Q0=>Cnd (Q0=0) (q0n (Rcd.mk Zt.1 Zt.2 (Slt.mk Zt.3.1 Zt.3.2 Zt.3.3 Zt.3.4 Zt.3.5 Zt.3.6 Zt.3.7) ((Zt.4+1).tmod (10000:Int)) Zt.5) (Envt.mk (Sett.mk Qi.1.1 Qi.1.2 Qi.1.3) Qi.2 Qi.3 Qi.4 Qi.5 Qi.6) fun Jm=>K (decide (Jm=3))) (K false)) (K false)) (K false)) (K false)) (K false)) (K false)) (K false)) (K false)
def q21:By:=q60 Uo R9 Wm Gu Bw q20
abbrev Jo:Type:=AEnv->(Envt->Prop)->Prop
def U6(Z6:J6):Jo:=fun x K=>Z6 x.1 x.2 x.3 x.4 x.5 fun Qi=>K (Envt.mk (Sett.mk Qi.1.1 Qi.1.2 Qi.1.3) Qi.2 Qi.3 Qi.4 Qi.5 Qi.6)
def Ww:Jo:=U6 Uo
abbrev z8y:Type:=List (List Int)->(List (Int)->Prop)->Prop
def z2w:z8y:=fun fields K=>Lp2 (fun Qi q0r v04=>Fits fields->CAt fields q0r (fun y2=>Fits y2->Lp2 (fun Q0 q5y w1f=>Cnd ((0:Int)<=q5y) ((0:Int)<=Go.IntKind.u64.wrap q5y/\Sml (Q0++[Go.IntKind.u8.wrap ((Go.IntKind.u64.wrap (↑y2.length:Int)).fdiv ((2:Int) ^ Min.min (Go.IntKind.u64.wrap q5y).toNat (64:Nat)))]).length/\InI (q5y - 8)/\w1f (Q0++[Go.IntKind.u8.wrap ((Go.IntKind.u64.wrap (↑y2.length:Int)).fdiv ((2:Int) ^ Min.min (Go.IntKind.u64.wrap q5y).toNat (64:Nat)))]) (q5y - 8)) (At fields q0r fun y6=>Sml (Q0++y6).length/\InI (q0r+1)/\v04 (Q0++y6) (q0r+1))) Qi (56:Int)) (K Qi)) [] (0:Int)
abbrev z54:Type:=Int->Int->(Int->Prop)->Prop
def z0a:z54:=fun x n K=>(0:Int)<=n/\(0:Int)<=Go.IntKind.u64.wrap ((64:Int) - n)/\K (Go.IntKind.u64.wrap (↑(BitVec.ofInt (64:Nat) (Go.IntKind.u64.wrap (x*2 ^ Min.min n.toNat (64:Nat)))|||BitVec.ofInt (64:Nat) (x.fdiv ((2:Int) ^ Min.min (Go.IntKind.u64.wrap ((64:Int) - n)).toNat (64:Nat)))).toNat:Int))
abbrev q15:Type:=Sip->Int->(Sip->Prop)->Prop
def q7s(q06:z54):q15:=fun v n K=>Lp5 (fun Qi q0r z0v z2b z7o w88=>Cnd (Qi<n) (q06 z0v (13:Int) fun Qx=>q06 (Go.IntKind.u64.wrap (q0r+z0v)) (32:Int) fun Zs=>q06 z7o (16:Int) fun Qj=>q06 (Go.IntKind.u64.wrap (↑(BitVec.ofInt (64:Nat) Qj ^^^ BitVec.ofInt (64:Nat) (Go.IntKind.u64.wrap (z2b+z7o))).toNat:Int)) (21:Int) fun Zt=>q06 (Go.IntKind.u64.wrap (↑(BitVec.ofInt (64:Nat) Qx ^^^ BitVec.ofInt (64:Nat) (Go.IntKind.u64.wrap (q0r+z0v))).toNat:Int)) (17:Int) fun Q0=>q06 (Go.IntKind.u64.wrap (Go.IntKind.u64.wrap (z2b+z7o)+Go.IntKind.u64.wrap (↑(BitVec.ofInt (64:Nat) Qx ^^^ BitVec.ofInt (64:Nat) (Go.IntKind.u64.wrap (q0r+z0v))).toNat:Int))) (32:Int) fun Jm=>InI (Qi+1)/\w88 (Qi+1) (Go.IntKind.u64.wrap (Zs+Go.IntKind.u64.wrap (↑(BitVec.ofInt (64:Nat) Qj ^^^ BitVec.ofInt (64:Nat) (Go.IntKind.u64.wrap (z2b+z7o))).toNat:Int))) (Go.IntKind.u64.wrap (↑(BitVec.ofInt (64:Nat) Q0 ^^^ BitVec.ofInt (64:Nat) (Go.IntKind.u64.wrap (Go.IntKind.u64.wrap (z2b+z7o)+Go.IntKind.u64.wrap (↑(BitVec.ofInt (64:Nat) Qx ^^^ BitVec.ofInt (64:Nat) (Go.IntKind.u64.wrap (q0r+z0v))).toNat:Int)))).toNat:Int)) Jm (Go.IntKind.u64.wrap (↑(BitVec.ofInt (64:Nat) Zt ^^^ BitVec.ofInt (64:Nat) (Go.IntKind.u64.wrap (Zs+Go.IntKind.u64.wrap (↑(BitVec.ofInt (64:Nat) Qj ^^^ BitVec.ofInt (64:Nat) (Go.IntKind.u64.wrap (z2b+z7o))).toNat:Int)))).toNat:Int))) (K (Sip.mk q0r z0v z2b z7o))) (0:Int) v.1 v.2 v.3 v.4
def Jl:q15:=q7s z0a
abbrev z9q:Type:=Int->Int->List (Int)->(Int->Prop)->Prop
def j5w(q2i:q15):z9q:=fun k0 k1 b K=>Lp5 (fun Qi q0r z0v z2b z7o w88=>Fits b->(8:Int)≠(0:Int)/\InI ((↑b.length:Int).tdiv (8:Int))/\Cnd (Qi<=(↑b.length:Int).tdiv (8:Int)) (Lp2 (fun Zs q4n j3j=>Cnd (q4n<8) (InI ((8:Int)*Qi)/\InI ((8:Int)*Qi+q4n)/\(Fits b->Cnd ((8:Int)*Qi+q4n<(↑b.length:Int)) (InI ((8:Int)*Qi)/\InI ((8:Int)*Qi+q4n)/\((0:Int)<=(8:Int)*Qi+q4n/\(8:Int)*Qi+q4n<(↑b.length:Int))/\ ∀y4,b[((8:Int)*Qi+q4n).toNat]? =some y4->InI ((8:Int)*q4n)/\(0:Int)<=Go.IntKind.u64.wrap ((8:Int)*q4n)/\InI (q4n+1)/\j3j (Go.IntKind.u64.wrap (↑(BitVec.ofInt (64:Nat) Zs|||BitVec.ofInt (64:Nat) (Go.IntKind.u64.wrap (Go.IntKind.u64.wrap y4*2 ^ Min.min (Go.IntKind.u64.wrap ((8:Int)*q4n)).toNat (64:Nat)))).toNat:Int)) (q4n+1)) (Jn1 (fun Zt=>q2i (Sip.mk q0r z0v z2b (Go.IntKind.u64.wrap (↑(BitVec.ofInt (64:Nat) z7o ^^^ BitVec.ofInt (64:Nat) Zt).toNat:Int))) (2:Int) fun Q0=>InI (Qi+1)/\w88 (Qi+1) (Go.IntKind.u64.wrap (↑(BitVec.ofInt (64:Nat) Q0.1 ^^^ BitVec.ofInt (64:Nat) Zt).toNat:Int)) Q0.2 Q0.3 Q0.4) fun w5z=>Fits b->(8:Int)≠(0:Int)/\InI ((↑b.length:Int).tdiv (8:Int))/\Cnd (Qi=(↑b.length:Int).tdiv (8:Int)) (Fits b->(256:Int)≠(0:Int)/\(0:Int)<=(56:Int)/\w5z (Go.IntKind.u64.wrap (↑(BitVec.ofInt (64:Nat) Zs|||BitVec.ofInt (64:Nat) (Go.IntKind.u64.wrap (Go.IntKind.u64.wrap ((↑b.length:Int).tmod (256:Int))*(2:Int) ^ Min.min (Int.toNat (56:Int)) (64:Nat)))).toNat:Int))) (w5z Zs)))) (Jn1 (fun Qj=>q2i (Sip.mk q0r z0v z2b (Go.IntKind.u64.wrap (↑(BitVec.ofInt (64:Nat) z7o ^^^ BitVec.ofInt (64:Nat) Qj).toNat:Int))) (2:Int) fun Zt=>InI (Qi+1)/\w88 (Qi+1) (Go.IntKind.u64.wrap (↑(BitVec.ofInt (64:Nat) Zt.1 ^^^ BitVec.ofInt (64:Nat) Qj).toNat:Int)) Zt.2 Zt.3 Zt.4) fun v07=>Fits b->(8:Int)≠(0:Int)/\InI ((↑b.length:Int).tdiv (8:Int))/\Cnd (Qi=(↑b.length:Int).tdiv (8:Int)) (Fits b->(256:Int)≠(0:Int)/\(0:Int)<=(56:Int)/\v07 (Go.IntKind.u64.wrap (↑(BitVec.ofInt (64:Nat) Zs|||BitVec.ofInt (64:Nat) (Go.IntKind.u64.wrap (Go.IntKind.u64.wrap ((↑b.length:Int).tmod (256:Int))*(2:Int) ^ Min.min (Int.toNat (56:Int)) (64:Nat)))).toNat:Int))) (v07 Zs))) (0:Int) (0:Int)) (q2i (Sip.mk q0r z0v (Go.IntKind.u64.wrap (↑(BitVec.ofInt (64:Nat) z2b ^^^ BitVec.ofInt (64:Nat) (255:Int)).toNat:Int)) z7o) (4:Int) fun Zs=>K (Go.IntKind.u64.wrap (↑(BitVec.ofInt (64:Nat) (Go.IntKind.u64.wrap (↑(BitVec.ofInt (64:Nat) (Go.IntKind.u64.wrap (↑(BitVec.ofInt (64:Nat) Zs.1 ^^^ BitVec.ofInt (64:Nat) Zs.2).toNat:Int)) ^^^ BitVec.ofInt (64:Nat) Zs.3).toNat:Int)) ^^^ BitVec.ofInt (64:Nat) Zs.4).toNat:Int)))) (0:Int) (Go.IntKind.u64.wrap (↑(BitVec.ofInt (64:Nat) k0 ^^^ BitVec.ofInt (64:Nat) (8317987319222330741:Int)).toNat:Int)) (Go.IntKind.u64.wrap (↑(BitVec.ofInt (64:Nat) k1 ^^^ BitVec.ofInt (64:Nat) (7237128888997146477:Int)).toNat:Int)) (Go.IntKind.u64.wrap (↑(BitVec.ofInt (64:Nat) k0 ^^^ BitVec.ofInt (64:Nat) (7816392313619706465:Int)).toNat:Int)) (Go.IntKind.u64.wrap (↑(BitVec.ofInt (64:Nat) k1 ^^^ BitVec.ofInt (64:Nat) (8387220255154660723:Int)).toNat:Int))
def z9r:z9q:=j5w Jl
abbrev z55:Type:=Int->List (List Int)->(Int->Prop)->Prop
def j2i(j7j:z8y)(w4s:z9q):z55:=fun domain fields K=>j7j fields fun Qi=>w4s domain (0:Int) Qi fun Qx=>K Qx
def z56:z55:=j2i z2w z9r
abbrev j5x:Type:=ByteArray->ByteArray->(Int->Prop)->Prop
def j5y(w1e:z55):j5x:=fun salt key K=>Sml salt.size/\Sml key.size/\w1e (1:Int) [List.map (fun b=>(↑b.toNat:Int)) (salt,key,()).1.data.toList,List.map (fun b=>(↑b.toNat:Int)) (salt,key,()).2.1.data.toList] fun Qi=>(10000:Int)≠(0:Int)/\InI (Qi.tmod (10000:Int))/\K (Qi.tmod (10000:Int))
def z9s:j5x:=j5y z56
abbrev z4w:Type:=(List (ByteArray)->Prop)->Prop
def j5z:z4w:=fun K=>K [B8 [97,110,110],B8 [98,111,98],B8 [99,97,116],B8 [100,97,110],B8 [101,118,101],B8 [102,97,121]]
abbrev z0b:Type:=Int->(ByteArray->Prop)->Prop
def j4b(z19:z4w):z0b:=fun n K=>z19 fun Qi=>z19 fun Qx=>Fits Qx->(↑Qx.length:Int)≠(0:Int)/\((0:Int)<=n.tmod (↑Qx.length:Int)/\n.tmod (↑Qx.length:Int)<(↑Qi.length:Int))/\ ∀y3,Qi[(n.tmod (↑Qx.length:Int)).toNat]? =some y3->K y3
def z2x:z0b:=j4b j5z
abbrev Ra:Type:=(List (ByteArray)->Prop)->Prop
def q7t:Ra:=fun K=>K [B8 [98,108,117,101],B8 [103,114,101,101,110],B8 [102,97,115,116],B8 [115,108,111,119]]
abbrev Bz:Type:=Reg->ByteArray->Int->(Reg->Int->Int->Prop)->Prop
def q61(Zi:Jy)(Qt:Jt)(Qa:Qp)(Qb:Qq):Bz:=fun r experiment now K=>Zi r now fun Qi=>Cnd (Qi=0) (Qt experiment fun Qx=>Cnd (Qx=true) (Qa r.2 fun Zs=>Qb r.3 fun Qj=>Fits Qj->Lp3 (fun Q0 q5y j7l w4t=>Cnd (q5y<(↑Qj.length:Int)) (At j7l q5y fun y6=>Cnd (y6.7=0) (∀y8,j7l[q5y.toNat]? =some y8->Cnd (y8.3=experiment) (∀y10,j7l[q5y.toNat]? =some y10-> ∀y12,(j7l.set q5y.toNat (Slt.mk y10.1 y10.2 y10.3 y10.4 y10.5 now y10.7))[q5y.toNat]? =some y12->InI (Q0+1)/\InI (q5y+1)/\w4t (Q0+1) (q5y+1) ((j7l.set q5y.toNat (Slt.mk y10.1 y10.2 y10.3 y10.4 y10.5 now y10.7)).set q5y.toNat (Slt.mk y12.1 y12.2 y12.3 y12.4 y12.5 y12.6 (1:Int)))) (InI (q5y+1)/\w4t Q0 (q5y+1) j7l)) (InI (q5y+1)/\w4t Q0 (q5y+1) j7l)) (K (Reg.mk now Zs j7l) Q0 (0:Int))) (0:Int) (0:Int) Qj) (K (Reg.mk (0:Int) [] []) (0:Int) (6:Int))) (K (Reg.mk (0:Int) [] []) (0:Int) Qi)
def q22:Bz:=q61 U3 He Q1 Q2
abbrev Gx:Type:=List (Lnk)->ByteArray->ByteArray->(Bool->Prop)->Prop
def q37(Wh:Ue)(Qk:Zj):Gx:=fun l a b K=>Wh l fun q5z=>Qk q5z a fun Qx q6c=>Qk q6c b fun Zs _=>K (decide (Qx=Zs))
def B0:Gx:=q37 Bt Z8
abbrev H1:Type:=Reg->ByteArray->ByteArray->Int->(Reg->List (Slt)->Int->Prop)->Prop
def q5k(Zi:Jy)(Qt:Jt)(Qa:Qp)(Qb:Qq)(q0o:Gx)(Qh:Zh):H1:=fun r a b now K=>Zi r now fun Qi=>Cnd (Qi=0) (Qt a fun Qx=>Cnd (Qx=true) (Qt b fun Zs=>Cnd (Zs=true) (Cnd (a=b) (K (Reg.mk (0:Int) [] []) [] (15:Int)) (Qa r.2 fun Qj=>Qb r.3 fun Zt=>q0o r.2 a b fun Q0=>Cnd (Q0=true) (K (Reg.mk now Qj Zt) [] (0:Int)) (Fits r.2->Cnd ((64:Int)<=(↑r.2.length:Int)) (K (Reg.mk (0:Int) [] []) [] (19:Int)) (Sml (Qj++[Lnk.mk a b now]).length/\Qh (Qj++[Lnk.mk a b now]) a fun Q3=>Fits Zt->LpH (fun (Ja:List Slt×Int×(ByteArray->Option Bool)×List Lnk×List Lnk×List Slt×Unit) (w1i:List Slt×Int×(ByteArray->Option Bool)×List Lnk×List Lnk×List Slt×Unit->Prop)=>Cnd (Ja.2.1<(↑Zt.length:Int)) (At Ja.2.2.2.2.2.1 Ja.2.1 fun y10=>Cnd (y10.7=0) (∀y12,Ja.2.2.2.2.2.1[Ja.2.1.toNat]? =some y12->Qh Ja.2.2.2.1 y12.1 fun Gi=>Cnd (Gi=Q3) (Jn4 (fun Jp v29 v1b v3a=> ∀y16,v1b[Ja.2.1.toNat]? =some y16->InI (Ja.2.1+1)/\w1i (Jp,Ja.2.1+1,put Ja.2.2.1 y16.2 true,v29,v3a,v1b,())) fun (U0:List Slt->List Lnk->List Slt->List Lnk->Prop)=> ∀y16,Ja.2.2.2.2.2.1[Ja.2.1.toNat]? =some y16->Cnd ((Ja.2.2.1 y16.2).getD false=true) (∀y18,Ja.2.2.2.2.2.1[Ja.2.1.toNat]? =some y18-> ∀y20,(Ja.2.2.2.2.2.1.set Ja.2.1.toNat (Slt.mk y18.1 y18.2 y18.3 y18.4 y18.5 now y18.7))[Ja.2.1.toNat]? =some y20-> ∀y22,((Ja.2.2.2.2.2.1.set Ja.2.1.toNat (Slt.mk y18.1 y18.2 y18.3 y18.4 y18.5 now y18.7)).set Ja.2.1.toNat (Slt.mk y20.1 y20.2 y20.3 y20.4 y20.5 y20.6 (2:Int)))[Ja.2.1.toNat]? =some y22->Sml (Ja.1++[y22]).length/\U0 (Ja.1++[y22]) Ja.2.2.2.1 ((Ja.2.2.2.2.2.1.set Ja.2.1.toNat (Slt.mk y18.1 y18.2 y18.3 y18.4 y18.5 now y18.7)).set Ja.2.1.toNat (Slt.mk y20.1 y20.2 y20.3 y20.4 y20.5 y20.6 (2:Int))) Ja.2.2.2.2.1) (U0 Ja.1 Ja.2.2.2.1 Ja.2.2.2.2.2.1 Ja.2.2.2.2.1)) (InI (Ja.2.1+1)/\w1i (Ja.1,Ja.2.1+1,Ja.2.2.1,Ja.2.2.2.1,Ja.2.2.2.2.1,Ja.2.2.2.2.2.1,()))) (InI (Ja.2.1+1)/\w1i (Ja.1,Ja.2.1+1,Ja.2.2.1,Ja.2.2.2.1,Ja.2.2.2.2.1,Ja.2.2.2.2.2.1,()))) (K (Reg.mk now Ja.2.2.2.1 Ja.2.2.2.2.2.1) Ja.1 (0:Int))) ([],(0:Int),fun _=>none,Qj++[Lnk.mk a b now],[Lnk.mk a b now],Zt,()))))) (K (Reg.mk (0:Int) [] []) [] (6:Int))) (K (Reg.mk (0:Int) [] []) [] (6:Int))) (K (Reg.mk (0:Int) [] []) [] Qi)
def q1c:H1:=q5k U3 He Q1 Q2 B0 J2
abbrev q1p:Type:=Envt->List (Mov)->(Reg->Prop)->Prop
def q8i(q07:z0b)(J3:q1m)(Qu:Gj)(Z0:Wl)(Jj:Wu)(Rj:Ra)(q3i:Bz)(q1h:H1):q1p:=fun v l K=>Lp4 (fun Qi q0r z0v z2b v3j=>Fits l->CAt l Qi (fun y2=>InI y2.5/\(4:Int)≠(0:Int)/\InI (q0r+y2.5.tmod (4:Int))/\InI y2.2/\q07 y2.2 fun Zt=>Jn4 (fun Q0 q5y j7l v2z=>Cnd (Q0=0) (InI (Qi+1)/\v3j (Qi+1) q5y j7l v2z) (InI (Qi+1)/\v3j (Qi+1) q0r z0v z2b)) fun v3b=>(8:Int)≠(0:Int)/\Jn1 (fun Jm=>Cnd (Jm=true) ((2:Int)≠(0:Int)/\J3 Zt fun Q3=>Qu fun Ui=>((0:Int)<=y2.4.tmod (2:Int)/\y2.4.tmod (2:Int)<(↑Ui.length:Int))/\ ∀y9,Ui[(y2.4.tmod (2:Int)).toNat]? =some y9->Z0 (Envt.mk (Sett.mk v.1.1 v.1.2 v.1.3) v.2 v.3 v.4 v.5 v.6) (Subj.mk Q3.1) [] y9 fun J0 _=>InI y2.3/\(3:Int)≠(0:Int)/\Jj (Reg.mk q0r z0v z2b) Zt J0 (y2.3.tmod (3:Int)) (q0r+y2.5.tmod (4:Int)) fun Uj _ w4u=>v3b w4u Uj.1 Uj.2 Uj.3) (Cnd (y2.1.tmod (8:Int)=(7:Int)) ((4:Int)≠(0:Int)/\Rj fun Q3=>((0:Int)<=y2.3.tmod (4:Int)/\y2.3.tmod (4:Int)<(↑Q3.length:Int))/\ ∀y8,Q3[(y2.3.tmod (4:Int)).toNat]? =some y8->q3i (Reg.mk q0r z0v z2b) y8 (q0r+y2.5.tmod (4:Int)) fun Vy _ w4v=>v3b w4v Vy.1 Vy.2 Vy.3) (InI y2.3/\q07 y2.3 fun Q3=>q1h (Reg.mk q0r z0v z2b) Zt Q3 (q0r+y2.5.tmod (4:Int)) fun Ui _ v3x=>v3b v3x Ui.1 Ui.2 Ui.3))) fun z41=>Cnd (y2.1.tmod (8:Int)=(0:Int)) (z41 (decide (y2.1.tmod (8:Int)=(0:Int)))) (Cnd (y2.1.tmod (8:Int)=(1:Int)) (z41 (decide (y2.1.tmod (8:Int)=(1:Int)))) (Cnd (y2.1.tmod (8:Int)=(2:Int)) (z41 (decide (y2.1.tmod (8:Int)=(2:Int)))) (z41 (decide (y2.1.tmod (8:Int)=(3:Int))))))) (K (Reg.mk q0r z0v z2b))) (0:Int) (0:Int) [] []
def q4v:q1p:=q8i z2x R9 Jr Wm Gu q7t q22 q1c
abbrev Gy:Type:=Reg->ByteArray->Int->(List (Frc)->Prop)->Prop
def q38(Qo:Zn)(Qg:Q4)(Qm:Zf)(Un:Rt):Gy:=fun r id time K=>Qo r fun Qi=>Cnd (Qi=true) (Fits r.3->Lp2 (fun Zs q4n j3j=>CAt r.3 q4n (fun y3=>Sml (Zs++[y3.2]).length/\InI (q4n+1)/\j3j (Zs++[y3.2]) (q4n+1)) (Qg Zs fun Qj=>Qm Qj fun Zt=>Fits Zt->Lp2 (fun Jm q76 w1d=>CAt Zt q76 (fun y7=>Un r id y7 time fun Ja j6j=>Cnd (j6j=true) (Sml (Jm++[Frc.mk y7 Ja.3 Ja.4]).length/\InI (q76+1)/\w1d (Jm++[Frc.mk y7 Ja.3 Ja.4]) (q76+1)) (InI (q76+1)/\w1d Jm (q76+1))) (K Jm)) [] (0:Int))) [] (0:Int)) (K [])
def B1:Gy:=q38 Wn Zb Zg q33
abbrev Uu:Type:=Envt->Subj->List (Frc)->(ByteArray->ByteArray->Int->List (Decl)->List (Seg)->List (Flg)->List (Lay_)->List (Exper)->List (Ctxt)->List (Frc)->List (ByteArray)->(ByteArray->Option (Dcs))->(ByteArray->Option (Bool))->Prop)->Prop
def q16(Q6:Js):Uu:=fun v s forced K=>(Q6 v.3 (Subj.mk s.1) fun Qi=>(K v.1.1 v.1.2 v.1.3 v.2 v.3 v.4 v.5 v.6 s.1 forced Qi (fun _=>none) fun _=>none)/\K v.1.1 v.1.2 v.1.3 v.2 v.3 v.4 v.5 v.6 s.1 forced Qi (fun _=>none) fun _=>none)/\((Q6 v.3 (Subj.mk s.1) fun Qi=>K v.1.1 v.1.2 v.1.3 v.2 v.3 v.4 v.5 v.6 s.1 forced Qi (fun _=>none) fun _=>none)/\Q6 v.3 (Subj.mk s.1) fun Qi=>K v.1.1 v.1.2 v.1.3 v.2 v.3 v.4 v.5 v.6 s.1 forced Qi (fun _=>none) fun _=>none)/\(Q6 v.3 (Subj.mk s.1) fun Qi=>K v.1.1 v.1.2 v.1.3 v.2 v.3 v.4 v.5 v.6 s.1 forced Qi (fun _=>none) fun _=>none)/\Q6 v.3 (Subj.mk s.1) fun Qi=>K v.1.1 v.1.2 v.1.3 v.2 v.3 v.4 v.5 v.6 s.1 forced Qi (fun _=>none) fun _=>none
def Rb:Uu:=q16 Wo
abbrev Vf:Type:=ByteArray->ByteArray->Int->List (Decl)->List (Seg)->List (Flg)->List (Lay_)->List (Exper)->List (Ctxt)->List (Frc)->List (ByteArray)->(ByteArray->Option (Dcs))->(ByteArray->Option (Bool))->ByteArray->(Flg->Bool->(ByteArray->Option (Dcs))->(ByteArray->Option (Bool))->Prop)->Prop
def Je:Vf:=fun _ _ _ _ _ flags _ _ _ _ _ done opn key K=>Fits flags->Lp1 (fun Qx q6c=>CAt flags Qx (fun y2=>Cnd (y2.1=key) (Cnd (Qx<0) (K (Flg.mk (B8 []) (0:Int) [] false (0:Int) [] [] [] (Srv.mk (0:Int) (B8 []) (B8 []) (B8 []) [])) false done opn) (At flags Qx fun y4=>K (Flg.mk y4.1 y4.2 y4.3 y4.4 y4.5 y4.6 y4.7 y4.8 (Srv.mk y4.9.1 y4.9.2 y4.9.3 y4.9.4 y4.9.5)) true done opn)) (InI (Qx+1)/\q6c (Qx+1))) (Cnd ((-1:Int)<(0:Int)) (K (Flg.mk (B8 []) (0:Int) [] false (0:Int) [] [] [] (Srv.mk (0:Int) (B8 []) (B8 []) (B8 []) [])) false done opn) (At flags (-1:Int) fun y2=>K (Flg.mk y2.1 y2.2 y2.3 y2.4 y2.5 y2.6 y2.7 y2.8 (Srv.mk y2.9.1 y2.9.2 y2.9.3 y2.9.4 y2.9.5)) true done opn))) (0:Int)
abbrev Hg:Type:=Flg->Subj->(Int->Prop)->Prop
def q0w(Qn:Zm):Hg:=fun f s K=>Fits f.7->Lp1 (fun Qx q6c=>CAt f.7 Qx (fun y2=>Qn (Subj.mk s.1) y2.1 fun Zt Hn=>Cnd (Hn=true) (Fits y2.3->Lp1 (fun Jm w1h=>CAt y2.3 Jm (fun y7=>Cnd (Zt.2=y7) (Cnd ((0:Int)<=Jm) (InI (Qx+1)/\K (Qx+1)) (InI (Qx+1)/\q6c (Qx+1))) (InI (Jm+1)/\w1h (Jm+1))) (Cnd ((0:Int)<=(-1:Int)) (InI (Qx+1)/\K (Qx+1)) (InI (Qx+1)/\q6c (Qx+1)))) (0:Int)) (InI (Qx+1)/\q6c (Qx+1))) (K (0:Int))) (0:Int)
def Wp:Hg:=q0w Wj
abbrev Vo:Type:=ByteArray->ByteArray->Int->List (Decl)->List (Seg)->List (Flg)->List (Lay_)->List (Exper)->List (Ctxt)->List (Frc)->List (ByteArray)->(ByteArray->Option (Dcs))->(ByteArray->Option (Bool))->Exper->(Int->(ByteArray->Option (Dcs))->(ByteArray->Option (Bool))->Prop)->Prop
def Hr(Qn:Zm)(Ql:Z7):Vo:=fun _ _ _ _ _ _ layers _ ctxs _ _ done opn x K=>Fits layers->Lp1 (fun Qx q6c=>CAt layers Qx (fun y2=>Cnd (y2.1=x.2) (Qn (Subj.mk ctxs) y2.2 fun Zt Hn=>Cnd (Hn=true) (Ql x.4 Zt.2 fun Q0=>K Q0 done opn) (K (-1:Int) done opn)) (InI (Qx+1)/\q6c (Qx+1))) (K (-1:Int) done opn)) (0:Int)
def Jk:Vo:=Hr Wj Wq
abbrev q5l:Type:=Int->(ByteArray->Prop)->Prop
def q5m(i:Int)(K:ByteArray->Prop):Prop:=InI i/\K ⟨(Go.Lib.itoa i).toArray⟩
abbrev B2:Type:=Int->(ByteArray->Prop)->Prop
def z1c(q1i:q5l):B2:=fun n K=>q1i n fun Qi=>K Qi
def q23:B2:=z1c q5m
abbrev q1q:Type:=Val->(ByteArray->Bool->Prop)->Prop
def q8j(q3j:B2):q1q:=fun v K=>Jn1 (fun Qi=>Cnd (Qi=true) (K v.3 true) (Cnd (v.1=2) (q3j v.2 fun Qx=>K Qx true) (Cnd (v.1=1) (Cnd (v.2=1) (K (B8 [116,114,117,101]) true) (K (B8 [102,97,108,115,101]) true)) (K (B8 []) false)))) fun q5z=>Cnd (v.1=3) (q5z (decide (v.1=3))) (q5z (decide (v.1=4)))
def q4w:q1q:=q8j q23
abbrev Uv:Type:=Subj->ByteArray->ByteArray->ByteArray->(Int->Bool->Prop)->Prop
def q17(Z2:J7)(q47:q1q)(Ql:Z7):Uv:=fun s kind by_ salt K=>Z2 (Subj.mk s.1) kind by_ fun Qi q0r=>Cnd (q0r=true) (q47 Qi fun Qx q6d=>Cnd (q6d=true) (Ql salt Qx fun Zs=>K Zs true) (K (0:Int) false)) (K (0:Int) false)
def Rc:Uv:=q17 Uq q4w Wq
abbrev Uw:Type:=Subj->Srv->(Int->Int->Bool->Prop)->Prop
def q18(Rk:Uv)(Za:Vd):Uw:=fun s v K=>Cnd (v.1=0) (Rk (Subj.mk s.1) v.2 v.3 v.4 fun Qi q0r=>Cnd (q0r=true) (Za v.5 Qi fun Qx=>K Qx Qi true) (K (0:Int) (-1:Int) false)) (K v.1 (-1:Int) true)
def Rd:Uw:=q18 Rc Hd
abbrev Uf:Type:=ByteArray->ByteArray->Int->List (Decl)->List (Seg)->List (Flg)->List (Lay_)->List (Exper)->List (Ctxt)->List (Frc)->List (ByteArray)->(ByteArray->Option (Dcs))->(ByteArray->Option (Bool))->Flg->Srv->Rsn->(Int->Rsn->(ByteArray->Option (Dcs))->(ByteArray->Option (Bool))->Prop)->Prop
def Ru(Rl:Uw):Uf:=fun _ _ _ _ _ _ _ _ ctxs _ _ done opn f v reason K=>Rl (Subj.mk ctxs) v fun Qi q0r z0v=>Cnd (z0v=true) (K Qi (Rsn.mk reason.1 reason.2 reason.3 q0r) done opn) (K f.5 (Rsn.mk (7:Int) reason.2 (B8 []) (-1:Int)) done opn)
def Ju:Uf:=Ru Rd
abbrev Zz:Type:=ByteArray->ByteArray->Int->List (Decl)->List (Seg)->List (Flg)->List (Lay_)->List (Exper)->List (Ctxt)->List (Frc)->List (ByteArray)->(ByteArray->Option (Dcs))->(ByteArray->Option (Bool))->Flg->(Dcs->(ByteArray->Option (Dcs))->(ByteArray->Option (Bool))->Prop)->Prop
def Hs(Zw:W8)(J4:Vf)(z3l:Hg)(Z0:Wl)(q9p:Vo)(Zr:Jx)(q4m:Uf)(X:Zz):Zz:=fun salt hkind hold attrs segs flags layers expers ctxs fs inn done opn f K=>Jn1 (fun (Qi:ByteArray×Int×Int×Int×ByteArray×List ByteArray×Int×Int×ByteArray×Int×Int×(ByteArray->Option Dcs)×(ByteArray->Option Bool)×Unit)=>Zw (Val.mk Qi.2.2.1 Qi.2.2.2.1 Qi.2.2.2.2.1 Qi.2.2.2.2.2.1) fun Qx=>K (Dcs.mk Qi.1 Qi.2.1 Qx (Rsn.mk Qi.2.2.2.2.2.2.1 Qi.2.2.2.2.2.2.2.1 Qi.2.2.2.2.2.2.2.2.1 Qi.2.2.2.2.2.2.2.2.2.1) Qi.2.2.2.2.2.2.2.2.2.2.1) Qi.2.2.2.2.2.2.2.2.2.2.2.1 Qi.2.2.2.2.2.2.2.2.2.2.2.2.1) fun (q5z:ByteArray×Int×Int×Int×ByteArray×List ByteArray×Int×Int×ByteArray×Int×Int×(ByteArray->Option Dcs)×(ByteArray->Option Bool)×Unit->Prop)=>Cnd ((done f.1).isSome=true) (q5z (((done f.1).getD (Dcs.mk (B8 []) (0:Int) (Val.mk (0:Int) (0:Int) (B8 []) []) (Rsn.mk (0:Int) (0:Int) (B8 []) (0:Int)) (0:Int))).1,((done f.1).getD (Dcs.mk (B8 []) (0:Int) (Val.mk (0:Int) (0:Int) (B8 []) []) (Rsn.mk (0:Int) (0:Int) (B8 []) (0:Int)) (0:Int))).2,((done f.1).getD (Dcs.mk (B8 []) (0:Int) (Val.mk (0:Int) (0:Int) (B8 []) []) (Rsn.mk (0:Int) (0:Int) (B8 []) (0:Int)) (0:Int))).3.1,((done f.1).getD (Dcs.mk (B8 []) (0:Int) (Val.mk (0:Int) (0:Int) (B8 []) []) (Rsn.mk (0:Int) (0:Int) (B8 []) (0:Int)) (0:Int))).3.2,((done f.1).getD (Dcs.mk (B8 []) (0:Int) (Val.mk (0:Int) (0:Int) (B8 []) []) (Rsn.mk (0:Int) (0:Int) (B8 []) (0:Int)) (0:Int))).3.3,((done f.1).getD (Dcs.mk (B8 []) (0:Int) (Val.mk (0:Int) (0:Int) (B8 []) []) (Rsn.mk (0:Int) (0:Int) (B8 []) (0:Int)) (0:Int))).3.4,((done f.1).getD (Dcs.mk (B8 []) (0:Int) (Val.mk (0:Int) (0:Int) (B8 []) []) (Rsn.mk (0:Int) (0:Int) (B8 []) (0:Int)) (0:Int))).4.1,((done f.1).getD (Dcs.mk (B8 []) (0:Int) (Val.mk (0:Int) (0:Int) (B8 []) []) (Rsn.mk (0:Int) (0:Int) (B8 []) (0:Int)) (0:Int))).4.2,((done f.1).getD (Dcs.mk (B8 []) (0:Int) (Val.mk (0:Int) (0:Int) (B8 []) []) (Rsn.mk (0:Int) (0:Int) (B8 []) (0:Int)) (0:Int))).4.3,((done f.1).getD (Dcs.mk (B8 []) (0:Int) (Val.mk (0:Int) (0:Int) (B8 []) []) (Rsn.mk (0:Int) (0:Int) (B8 []) (0:Int)) (0:Int))).4.4,((done f.1).getD (Dcs.mk (B8 []) (0:Int) (Val.mk (0:Int) (0:Int) (B8 []) []) (Rsn.mk (0:Int) (0:Int) (B8 []) (0:Int)) (0:Int))).5,done,opn,())) (Cnd (f.4=true) (Fits f.6->LpH (fun (Zs:Int×Int×Int×ByteArray×Int×(ByteArray->Option Bool)×(ByteArray->Option Dcs)×Unit) (z84:Int×Int×Int×ByteArray×Int×(ByteArray->Option Bool)×(ByteArray->Option Dcs)×Unit->Prop)=>CAt f.6 Zs.1 (fun y3=>J4 salt hkind hold attrs segs flags layers expers ctxs fs inn Zs.2.2.2.2.2.2.1 Zs.2.2.2.2.2.1 y3.1 fun Q0 q5y w1f w4t=>Cnd (q5y=true) (Cnd (Q0.4=true) (Cnd ((w4t Q0.1).getD false=true) (Jn4 (fun Jm q76 j4w j4x=>q5z (f.1,f.5,Jm,q76,j4w,j4x,(2:Int),(0:Int),y3.1,(-1:Int),(0:Int),put w1f f.1 (Dcs.mk f.1 f.5 (Val.mk Jm q76 j4w j4x) (Rsn.mk (2:Int) (0:Int) y3.1 (-1:Int)) (0:Int)),dlt w4t f.1,())) fun z41=>Cnd ((1:Int)<=f.5) (Fits f.3->Cnd (f.5<=(↑f.3.length:Int)) (InI (f.5 - 1)/\((0:Int)<=f.5 - 1/\f.5 - 1<(↑f.3.length:Int))/\ ∀y8,f.3[(f.5 - 1).toNat]? =some y8->z41 y8.1 y8.2 y8.3 y8.4) (z41 (0:Int) (0:Int) (B8 []) [])) (z41 (0:Int) (0:Int) (B8 []) [])) (X salt hkind hold attrs segs flags layers expers ctxs fs inn w1f w4t (Flg.mk Q0.1 Q0.2 Q0.3 Q0.4 Q0.5 Q0.6 Q0.7 Q0.8 (Srv.mk Q0.9.1 Q0.9.2 Q0.9.3 Q0.9.4 Q0.9.5)) fun Jm w1h w1d=>Cnd (Jm.2=y3.2) (InI (Zs.1+1)/\z84 (Zs.1+1,Zs.2.1,Zs.2.2.1,Zs.2.2.2.1,Zs.2.2.2.2.1,w1d,w1h,())) (Jn4 (fun Q3 q72 v3k v3l=>q5z (f.1,f.5,Q3,q72,v3k,v3l,(2:Int),(0:Int),y3.1,(-1:Int),(0:Int),put w1h f.1 (Dcs.mk f.1 f.5 (Val.mk Q3 q72 v3k v3l) (Rsn.mk (2:Int) (0:Int) y3.1 (-1:Int)) (0:Int)),dlt w1d f.1,())) fun w85=>Cnd ((1:Int)<=f.5) (Fits f.3->Cnd (f.5<=(↑f.3.length:Int)) (InI (f.5 - 1)/\((0:Int)<=f.5 - 1/\f.5 - 1<(↑f.3.length:Int))/\ ∀y9,f.3[(f.5 - 1).toNat]? =some y9->w85 y9.1 y9.2 y9.3 y9.4) (w85 (0:Int) (0:Int) (B8 []) [])) (w85 (0:Int) (0:Int) (B8 []) [])))) (Jn4 (fun Jm q76 j4w j4x=>q5z (f.1,f.5,Jm,q76,j4w,j4x,(2:Int),(0:Int),y3.1,(-1:Int),(0:Int),put w1f f.1 (Dcs.mk f.1 f.5 (Val.mk Jm q76 j4w j4x) (Rsn.mk (2:Int) (0:Int) y3.1 (-1:Int)) (0:Int)),dlt w4t f.1,())) fun z41=>Cnd ((1:Int)<=f.5) (Fits f.3->Cnd (f.5<=(↑f.3.length:Int)) (InI (f.5 - 1)/\((0:Int)<=f.5 - 1/\f.5 - 1<(↑f.3.length:Int))/\ ∀y8,f.3[(f.5 - 1).toNat]? =some y8->z41 y8.1 y8.2 y8.3 y8.4) (z41 (0:Int) (0:Int) (B8 []) [])) (z41 (0:Int) (0:Int) (B8 []) []))) (Jn4 (fun Jm q76 j4w j4x=>q5z (f.1,f.5,Jm,q76,j4w,j4x,(2:Int),(0:Int),y3.1,(-1:Int),(0:Int),put w1f f.1 (Dcs.mk f.1 f.5 (Val.mk Jm q76 j4w j4x) (Rsn.mk (2:Int) (0:Int) y3.1 (-1:Int)) (0:Int)),dlt w4t f.1,())) fun z41=>Cnd ((1:Int)<=f.5) (Fits f.3->Cnd (f.5<=(↑f.3.length:Int)) (InI (f.5 - 1)/\((0:Int)<=f.5 - 1/\f.5 - 1<(↑f.3.length:Int))/\ ∀y8,f.3[(f.5 - 1).toNat]? =some y8->z41 y8.1 y8.2 y8.3 y8.4) (z41 (0:Int) (0:Int) (B8 []) [])) (z41 (0:Int) (0:Int) (B8 []) []))) (z3l (Flg.mk f.1 f.2 f.3 f.4 f.5 f.6 f.7 f.8 (Srv.mk f.9.1 f.9.2 f.9.3 f.9.4 f.9.5)) (Subj.mk ctxs) fun Qj=>Cnd ((0:Int)<Qj) (InI (Qj - 1)/\((0:Int)<=Qj - 1/\Qj - 1<(↑f.7.length:Int))/\ ∀y4,f.7[(Qj - 1).toNat]? =some y4->Jn4 (fun Jm q76 j4w j4x=>q5z (f.1,y4.2,Jm,q76,j4w,j4x,(3:Int),Qj,B8 [],(-1:Int),(0:Int),put Zs.2.2.2.2.2.2.1 f.1 (Dcs.mk f.1 y4.2 (Val.mk Jm q76 j4w j4x) (Rsn.mk (3:Int) Qj (B8 []) (-1:Int)) (0:Int)),dlt Zs.2.2.2.2.2.1 f.1,())) fun z41=>Cnd ((1:Int)<=y4.2) (Fits f.3->Cnd (y4.2<=(↑f.3.length:Int)) (InI (y4.2 - 1)/\((0:Int)<=y4.2 - 1/\y4.2 - 1<(↑f.3.length:Int))/\ ∀y8,f.3[(y4.2 - 1).toNat]? =some y8->z41 y8.1 y8.2 y8.3 y8.4) (z41 (0:Int) (0:Int) (B8 []) [])) (z41 (0:Int) (0:Int) (B8 []) [])) (Fits expers->LpH (fun (Q0:Int×Int×Int×ByteArray×Int×(ByteArray->Option Dcs)×(ByteArray->Option Bool)×Unit) (j08:Int×Int×Int×ByteArray×Int×(ByteArray->Option Dcs)×(ByteArray->Option Bool)×Unit->Prop)=>CAt expers Q0.1 (fun y6=>Cnd (y6.3=f.1) (Cnd (y6.5=2) (Z0 (Envt.mk (Sett.mk salt hkind hold) attrs segs flags layers expers) (Subj.mk ctxs) fs y6.2 fun Ui q73=>Cnd (q73=0) (Cnd (Ui.2=y6.1) (q9p salt hkind hold attrs segs flags layers expers ctxs fs inn Q0.2.2.2.2.2.1 Q0.2.2.2.2.2.2.1 (Exper.mk y6.1 y6.2 y6.3 y6.4 y6.5 y6.6 y6.7 (Ex.mk y6.8.1 y6.8.2 y6.8.3 y6.8.4 y6.8.5)) fun Ja w1i v3c=>Jn4 (fun Vy w4q w4v v1c=>q5z (f.1,Ui.4,Vy,w4q,w4v,v1c,(4:Int),(0:Int),y6.1,Ja,(0:Int),put w1i f.1 (Dcs.mk f.1 Ui.4 (Val.mk Vy w4q w4v v1c) (Rsn.mk (4:Int) (0:Int) y6.1 Ja) (0:Int)),dlt v3c f.1,())) fun w86=>Cnd ((1:Int)<=Ui.4) (Fits f.3->Cnd (Ui.4<=(↑f.3.length:Int)) (InI (Ui.4 - 1)/\((0:Int)<=Ui.4 - 1/\Ui.4 - 1<(↑f.3.length:Int))/\ ∀y12,f.3[(Ui.4 - 1).toNat]? =some y12->w86 y12.1 y12.2 y12.3 y12.4) (w86 (0:Int) (0:Int) (B8 []) [])) (w86 (0:Int) (0:Int) (B8 []) [])) (InI (Q0.1+1)/\j08 (Q0.1+1,Q0.2.1,Q0.2.2.1,Q0.2.2.2.1,Q0.2.2.2.2.1,Q0.2.2.2.2.2.1,Q0.2.2.2.2.2.2.1,()))) (InI (Q0.1+1)/\j08 (Q0.1+1,Q0.2.1,Q0.2.2.1,Q0.2.2.2.1,Q0.2.2.2.2.1,Q0.2.2.2.2.2.1,Q0.2.2.2.2.2.2.1,()))) (InI (Q0.1+1)/\j08 (Q0.1+1,Q0.2.1,Q0.2.2.1,Q0.2.2.2.1,Q0.2.2.2.2.1,Q0.2.2.2.2.2.1,Q0.2.2.2.2.2.2.1,()))) (InI (Q0.1+1)/\j08 (Q0.1+1,Q0.2.1,Q0.2.2.1,Q0.2.2.2.1,Q0.2.2.2.2.1,Q0.2.2.2.2.2.1,Q0.2.2.2.2.2.2.1,()))) (Fits f.8->LpH (fun (Q3:Int×Int×Int×ByteArray×Int×(ByteArray->Option Bool)×(ByteArray->Option Dcs)×Unit) (w4o:Int×Int×Int×ByteArray×Int×(ByteArray->Option Bool)×(ByteArray->Option Dcs)×Unit->Prop)=>CAt f.8 Q3.1 (fun y8=>Zr (Subj.mk ctxs) inn (Ex.mk y8.2.1 y8.2.2 y8.2.3 y8.2.4 y8.2.5) fun Vy=>Cnd (Vy=true) (InI (Q3.1+1)/\q4m salt hkind hold attrs segs flags layers expers ctxs fs inn Q3.2.2.2.2.2.2.1 Q3.2.2.2.2.2.1 (Flg.mk f.1 f.2 f.3 f.4 f.5 f.6 f.7 f.8 (Srv.mk f.9.1 f.9.2 f.9.3 f.9.4 f.9.5)) (Srv.mk y8.3.1 y8.3.2 y8.3.3 y8.3.4 y8.3.5) (Rsn.mk (5:Int) (Q3.1+1) y8.1 (0:Int)) fun J0 U1 j4y v3d=>Jn4 (fun Uj v1d w4u v1e=>q5z (f.1,J0,Uj,v1d,w4u,v1e,U1.1,U1.2,U1.3,U1.4,(0:Int),put j4y f.1 (Dcs.mk f.1 J0 (Val.mk Uj v1d w4u v1e) U1 (0:Int)),dlt v3d f.1,())) fun j7i=>Cnd ((1:Int)<=J0) (Fits f.3->Cnd (J0<=(↑f.3.length:Int)) (InI (J0 - 1)/\((0:Int)<=J0 - 1/\J0 - 1<(↑f.3.length:Int))/\ ∀y14,f.3[(J0 - 1).toNat]? =some y14->j7i y14.1 y14.2 y14.3 y14.4) (j7i (0:Int) (0:Int) (B8 []) [])) (j7i (0:Int) (0:Int) (B8 []) [])) (InI (Q3.1+1)/\w4o (Q3.1+1,Q3.2.1,Q3.2.2.1,Q3.2.2.2.1,Q3.2.2.2.2.1,Q3.2.2.2.2.2.1,Q3.2.2.2.2.2.2.1,()))) (q4m salt hkind hold attrs segs flags layers expers ctxs fs inn Q3.2.2.2.2.2.2.1 Q3.2.2.2.2.2.1 (Flg.mk f.1 f.2 f.3 f.4 f.5 f.6 f.7 f.8 (Srv.mk f.9.1 f.9.2 f.9.3 f.9.4 f.9.5)) (Srv.mk f.9.1 f.9.2 f.9.3 f.9.4 f.9.5) (Rsn.mk (6:Int) (0:Int) (B8 []) (0:Int)) fun Ui q73 w87 v3y=>Jn4 (fun Ja j6j v05 v3m=>q5z (f.1,Ui,Ja,j6j,v05,v3m,q73.1,q73.2,q73.3,q73.4,(0:Int),put w87 f.1 (Dcs.mk f.1 Ui (Val.mk Ja j6j v05 v3m) q73 (0:Int)),dlt v3y f.1,())) fun v3e=>Cnd ((1:Int)<=Ui) (Fits f.3->Cnd (Ui<=(↑f.3.length:Int)) (InI (Ui - 1)/\((0:Int)<=Ui - 1/\Ui - 1<(↑f.3.length:Int))/\ ∀y11,f.3[(Ui - 1).toNat]? =some y11->v3e y11.1 y11.2 y11.3 y11.4) (v3e (0:Int) (0:Int) (B8 []) [])) (v3e (0:Int) (0:Int) (B8 []) []))) ((0:Int),Q0.2.1,Q0.2.2.1,Q0.2.2.2.1,Q0.2.2.2.2.1,Q0.2.2.2.2.2.2.1,Q0.2.2.2.2.2.1,()))) ((0:Int),Zs.2.1,Zs.2.2.1,Zs.2.2.2.1,Zs.2.2.2.2.1,Zs.2.2.2.2.2.2.1,Zs.2.2.2.2.2.1,())))) ((0:Int),(0:Int),(0:Int),B8 [],(0:Int),put opn f.1 true,done,())) (Jn4 (fun Qx q6d w1c w84=>q5z (f.1,f.5,Qx,q6d,w1c,w84,(1:Int),(0:Int),B8 [],(-1:Int),(0:Int),put done f.1 (Dcs.mk f.1 f.5 (Val.mk Qx q6d w1c w84) (Rsn.mk (1:Int) (0:Int) (B8 []) (-1:Int)) (0:Int)),dlt (put opn f.1 true) f.1,())) fun w1g=>Cnd ((1:Int)<=f.5) (Fits f.3->Cnd (f.5<=(↑f.3.length:Int)) (InI (f.5 - 1)/\((0:Int)<=f.5 - 1/\f.5 - 1<(↑f.3.length:Int))/\ ∀y3,f.3[(f.5 - 1).toNat]? =some y3->w1g y3.1 y3.2 y3.3 y3.4) (w1g (0:Int) (0:Int) (B8 []) [])) (w1g (0:Int) (0:Int) (B8 []) [])))
def Vp:Zz:=fun salt hkind hold attrs segs flags layers expers ctxs fs inn done opn f K=> ∀X:Zz,(∀salt hkind hold attrs segs flags layers expers ctxs fs inn done opn f K,Hs Jb Je Wp Wm Jk Vb Ju X salt hkind hold attrs segs flags layers expers ctxs fs inn done opn f K->X salt hkind hold attrs segs flags layers expers ctxs fs inn done opn f K)->X salt hkind hold attrs segs flags layers expers ctxs fs inn done opn f K
abbrev Gz:Type:=Envt->Subj->List (Frc)->ByteArray->(Dcs->Int->Prop)->Prop
def q39(Rm:Uu)(J4:Vf)(Vs:Zz):Gz:=fun v s forced key K=>Rm (Envt.mk (Sett.mk v.1.1 v.1.2 v.1.3) v.2 v.3 v.4 v.5 v.6) (Subj.mk s.1) forced fun Qi q0r z0v z2b z7o v3n v3o v3p v3q v3r v1f v3f v3g=>J4 Qi q0r z0v z2b z7o v3n v3o v3p v3q v3r v1f v3f v3g key fun Qx q6d j7h v22=>Cnd (q6d=true) (Vs Qi q0r z0v z2b z7o v3n v3o v3p v3q v3r v1f j7h v22 (Flg.mk Qx.1 Qx.2 Qx.3 Qx.4 Qx.5 Qx.6 Qx.7 Qx.8 (Srv.mk Qx.9.1 Qx.9.2 Qx.9.3 Qx.9.4 Qx.9.5)) fun Zs _ _=>K (Dcs.mk Zs.1 Zs.2 (Val.mk Zs.3.1 Zs.3.2 Zs.3.3 Zs.3.4) (Rsn.mk Zs.4.1 Zs.4.2 Zs.4.3 Zs.4.4) Zs.5) (0:Int)) (K (Dcs.mk (B8 []) (0:Int) (Val.mk (0:Int) (0:Int) (B8 []) []) (Rsn.mk (0:Int) (0:Int) (B8 []) (0:Int)) (0:Int)) (11:Int))
def B3:Gz:=q39 Rb Je Vp
abbrev H2:Type:=Reg->Envt->Subj->ByteArray->ByteArray->Int->(Dcs->Int->Prop)->Prop
def q5n(q0p:Gy)(q0q:Gz):H2:=fun r v s id flag time K=>q0p r id time fun Qi=>q0q (Envt.mk (Sett.mk v.1.1 v.1.2 v.1.3) v.2 v.3 v.4 v.5 v.6) (Subj.mk s.1) Qi flag fun Qx q6d=>K (Dcs.mk Qx.1 Qx.2 (Val.mk Qx.3.1 Qx.3.2 Qx.3.3 Qx.3.4) (Rsn.mk Qx.4.1 Qx.4.2 Qx.4.3 Qx.4.4) Qx.5) q6d
def U4:H2:=q5n B1 B3
abbrev Ux:Type:=Reg->ByteArray->ByteArray->(Slt->Bool->Prop)->Prop
def q19(Qo:Zn)(Z3:J8):Ux:=fun r id layer K=>Qo r fun Qi=>Cnd (Qi=true) (Z3 r id layer fun Qx=>Cnd ((0:Int)<=Qx) (At r.3 Qx fun y2=>K y2 true) (K (Slt.mk (B8 []) (B8 []) (B8 []) (0:Int) (0:Int) (0:Int) (0:Int)) false)) (K (Slt.mk (B8 []) (B8 []) (B8 []) (0:Int) (0:Int) (0:Int) (0:Int)) false)
def Uy:Ux:=q19 Wn Ur
abbrev q62:Type:=Envt->ByteArray->(ByteArray->Prop)->Prop
def q0x:q62:=fun v experiment K=>Lp1 (fun Qi z86=>Fits v.6->CAt v.6 Qi (fun y2=>Cnd (y2.1=experiment) (At v.6 Qi fun y4=>K y4.3) (InI (Qi+1)/\z86 (Qi+1))) (K (B8 []))) (0:Int)
abbrev B4:Type:=AEnv->List (Mov)->Int->Bool->(Bool->Prop)->Prop
def B5(q3k:By)(Wx:Jo)(q48:q1p)(Qu:Gj)(q07:z0b)(Wa:Ux)(J3:q1m)(R0:q62)(Vm:H2):B4:=fun x l hold keep K=>q3k fun Qi=>Cnd (Qi=true) (Fits l->Cnd ((40:Int)<(↑l.length:Int)) (K true) (Wx x fun Zs=>q48 (Envt.mk (Sett.mk Zs.1.1 Zs.1.2 Zs.1.3) Zs.2 Zs.3 Zs.4 Zs.5 Zs.6) l fun Qj=>(26:Int)≠(0:Int)/\(↑((B8 [115]).size+(bsOf [Go.IntKind.u8.wrap ((97:Int)+x.1.tmod (26:Int))]).size):Int)<=(9223372036854775807:Int)/\InI x.2/\(50:Int)≠(0:Int)/\InI (x.2.tmod (50:Int)*(20:Int))/\Lp2 (fun Zt Hn j7k=>[B8 [102,97,115,116,45,102,108,97,103],B8 [115,104,111,112,45,102,108,97,103],B8 [115,108,111,119,45,102,108,97,103],B8 [116,111,112,45,102,108,97,103]].length<=(9223372036854775807:Nat)->Cnd (Zt<(↑[B8 [102,97,115,116,45,102,108,97,103],B8 [115,104,111,112,45,102,108,97,103],B8 [115,108,111,119,45,102,108,97,103],B8 [116,111,112,45,102,108,97,103]].length:Int)) (((0:Int)<=Zt/\Zt<(↑[B8 [102,97,115,116,45,102,108,97,103],B8 [115,104,111,112,45,102,108,97,103],B8 [115,108,111,119,45,102,108,97,103],B8 [116,111,112,45,102,108,97,103]].length:Int))/\ ∀y6,[B8 [102,97,115,116,45,102,108,97,103],B8 [115,104,111,112,45,102,108,97,103],B8 [115,108,111,119,45,102,108,97,103],B8 [116,111,112,45,102,108,97,103]][Zt.toNat]? =some y6->Lp2 (fun Ui q73 w87=>Cnd (Ui<=3) (InI (Ui*10)/\Sml (q73++[Val.mk (2:Int) (Ui*10) (B8 []) []]).length/\InI (Ui+1)/\w87 (Ui+1) (q73++[Val.mk (2:Int) (Ui*10) (B8 []) []])) (Sml (Hn++[Flg.mk y6 (2:Int) q73 true (3:Int) [] [] [] (Srv.mk (3:Int) (B8 []) (B8 []) (B8 []) [])]).length/\InI (Zt+1)/\j7k (Zt+1) (Hn++[Flg.mk y6 (2:Int) q73 true (3:Int) [] [] [] (Srv.mk (3:Int) (B8 []) (B8 []) (B8 []) [])]))) (1:Int) []) (Lp2 (fun Jm q76 w1d=>Cnd (Jm<2) (Qu fun Q3=>At Q3 Jm fun y8=>Qu fun Vy=>At Vy Jm fun y11=>(↑((B8 [115]++bsOf [Go.IntKind.u8.wrap ((97:Int)+x.1.tmod (26:Int))]).size+y11.size):Int)<=(9223372036854775807:Int)/\Sml (q76++[Lay_.mk y8 (B8 [117,115,101,114]) (B8 [115]++bsOf [Go.IntKind.u8.wrap ((97:Int)+x.1.tmod (26:Int))]++y11) (x.2.tmod (50:Int)*(20:Int)) (0:Int) []]).length/\InI (Jm+1)/\w1d (Jm+1) (q76++[Lay_.mk y8 (B8 [117,115,101,114]) (B8 [115]++bsOf [Go.IntKind.u8.wrap ((97:Int)+x.1.tmod (26:Int))]++y11) (x.2.tmod (50:Int)*(20:Int)) (0:Int) []])) (InI x.4/\(9998:Int)≠(0:Int)/\InI ((1:Int)+x.4.tmod (9998:Int))/\InI ((1:Int)+x.4.tmod (9998:Int)+(1:Int))/\InI x.5/\InI ((9999:Int) - ((1:Int)+x.4.tmod (9998:Int)))/\(9999:Int) - ((1:Int)+x.4.tmod (9998:Int))≠(0:Int)/\InI ((1:Int)+x.4.tmod (9998:Int)+(1:Int)+x.5.tmod ((9999:Int) - ((1:Int)+x.4.tmod (9998:Int))))/\InI (x.2.tmod (50:Int)*(20:Int)+(1:Int))/\InI x.3/\InI ((10000:Int) - x.2.tmod (50:Int)*(20:Int))/\InI ((10000:Int) - x.2.tmod (50:Int)*(20:Int) - (1:Int))/\(10000:Int) - x.2.tmod (50:Int)*(20:Int) - (1:Int)≠(0:Int)/\InI (x.2.tmod (50:Int)*(20:Int)+(1:Int)+x.3.tmod ((10000:Int) - x.2.tmod (50:Int)*(20:Int) - (1:Int)))/\Lp2 (fun Q3 q72 z42=>Cnd (Q3<4) ((2:Int)≠(0:Int)/\((0:Int)<=Q3/\Q3<(↑[B8 [102,97,115,116,45,102,108,97,103],B8 [115,104,111,112,45,102,108,97,103],B8 [115,108,111,119,45,102,108,97,103],B8 [116,111,112,45,102,108,97,103]].length:Int))/\ ∀y8,[B8 [102,97,115,116,45,102,108,97,103],B8 [115,104,111,112,45,102,108,97,103],B8 [115,108,111,119,45,102,108,97,103],B8 [116,111,112,45,102,108,97,103]][Q3.toNat]? =some y8->(((0:Int)<=Q3/\Q3<(↑[B8 [98,108,117,101],B8 [102,97,115,116],B8 [103,114,101,101,110],B8 [115,108,111,119]].length:Int))/\ ∀y10,[B8 [98,108,117,101],B8 [102,97,115,116],B8 [103,114,101,101,110],B8 [115,108,111,119]][Q3.toNat]? =some y10->(Qu fun (Uj:List ByteArray)=>((0:Int)<=Q3.tmod (2:Int)/\Q3.tmod (2:Int)<(↑Uj.length:Int))/\ ∀y13,Uj[(Q3.tmod (2:Int)).toNat]? =some y13->(↑((B8 [115]++bsOf [Go.IntKind.u8.wrap ((97:Int)+x.1.tmod (26:Int))]).size+(bsOf [Go.IntKind.u8.wrap ((48:Int)+Go.IntKind.u8.wrap Q3)]).size):Int)<=(9223372036854775807:Int)/\Jn1 (fun (Jp:List Spn)=>Sml (q72++[Exper.mk y10 y13 y8 (B8 [115]++bsOf [Go.IntKind.u8.wrap ((97:Int)+x.1.tmod (26:Int))]++bsOf [Go.IntKind.u8.wrap ((48:Int)+Go.IntKind.u8.wrap Q3)]) (2:Int) Jp [Rng.mk (0:Int) ((1:Int)+x.4.tmod (9998:Int)) (1:Int),Rng.mk ((1:Int)+x.4.tmod (9998:Int)) ((1:Int)+x.4.tmod (9998:Int)+(1:Int)+x.5.tmod ((9999:Int) - ((1:Int)+x.4.tmod (9998:Int)))) (2:Int),Rng.mk ((1:Int)+x.4.tmod (9998:Int)+(1:Int)+x.5.tmod ((9999:Int) - ((1:Int)+x.4.tmod (9998:Int)))) (10000:Int) (3:Int)] (Ex.mk (1:Int) (B8 []) (B8 []) [] [])]).length/\InI (Q3+1)/\z42 (Q3+1) (q72++[Exper.mk y10 y13 y8 (B8 [115]++bsOf [Go.IntKind.u8.wrap ((97:Int)+x.1.tmod (26:Int))]++bsOf [Go.IntKind.u8.wrap ((48:Int)+Go.IntKind.u8.wrap Q3)]) (2:Int) Jp [Rng.mk (0:Int) ((1:Int)+x.4.tmod (9998:Int)) (1:Int),Rng.mk ((1:Int)+x.4.tmod (9998:Int)) ((1:Int)+x.4.tmod (9998:Int)+(1:Int)+x.5.tmod ((9999:Int) - ((1:Int)+x.4.tmod (9998:Int)))) (2:Int),Rng.mk ((1:Int)+x.4.tmod (9998:Int)+(1:Int)+x.5.tmod ((9999:Int) - ((1:Int)+x.4.tmod (9998:Int)))) (10000:Int) (3:Int)] (Ex.mk (1:Int) (B8 []) (B8 []) [] [])])) fun (U0:List Spn->Prop)=>Cnd ((2:Int)<=Q3) (U0 [Spn.mk (x.2.tmod (50:Int)*(20:Int)+(1:Int)+x.3.tmod ((10000:Int) - x.2.tmod (50:Int)*(20:Int) - (1:Int))) (10000:Int)]) (U0 [Spn.mk (x.2.tmod (50:Int)*(20:Int)) (x.2.tmod (50:Int)*(20:Int)+(1:Int)+x.3.tmod ((10000:Int) - x.2.tmod (50:Int)*(20:Int) - (1:Int)))]))/\(↑((B8 [115]++bsOf [Go.IntKind.u8.wrap ((97:Int)+x.1.tmod (26:Int))]).size+(bsOf [Go.IntKind.u8.wrap ((48:Int)+Go.IntKind.u8.wrap Q3)]).size):Int)<=(9223372036854775807:Int)/\Qu fun (Uj:List ByteArray)=>((0:Int)<=Q3.tmod (2:Int)/\Q3.tmod (2:Int)<(↑Uj.length:Int))/\ ∀y13,Uj[(Q3.tmod (2:Int)).toNat]? =some y13->Jn1 (fun (Jp:List Spn)=>Sml (q72++[Exper.mk y10 y13 y8 (B8 [115]++bsOf [Go.IntKind.u8.wrap ((97:Int)+x.1.tmod (26:Int))]++bsOf [Go.IntKind.u8.wrap ((48:Int)+Go.IntKind.u8.wrap Q3)]) (2:Int) Jp [Rng.mk (0:Int) ((1:Int)+x.4.tmod (9998:Int)) (1:Int),Rng.mk ((1:Int)+x.4.tmod (9998:Int)) ((1:Int)+x.4.tmod (9998:Int)+(1:Int)+x.5.tmod ((9999:Int) - ((1:Int)+x.4.tmod (9998:Int)))) (2:Int),Rng.mk ((1:Int)+x.4.tmod (9998:Int)+(1:Int)+x.5.tmod ((9999:Int) - ((1:Int)+x.4.tmod (9998:Int)))) (10000:Int) (3:Int)] (Ex.mk (1:Int) (B8 []) (B8 []) [] [])]).length/\InI (Q3+1)/\z42 (Q3+1) (q72++[Exper.mk y10 y13 y8 (B8 [115]++bsOf [Go.IntKind.u8.wrap ((97:Int)+x.1.tmod (26:Int))]++bsOf [Go.IntKind.u8.wrap ((48:Int)+Go.IntKind.u8.wrap Q3)]) (2:Int) Jp [Rng.mk (0:Int) ((1:Int)+x.4.tmod (9998:Int)) (1:Int),Rng.mk ((1:Int)+x.4.tmod (9998:Int)) ((1:Int)+x.4.tmod (9998:Int)+(1:Int)+x.5.tmod ((9999:Int) - ((1:Int)+x.4.tmod (9998:Int)))) (2:Int),Rng.mk ((1:Int)+x.4.tmod (9998:Int)+(1:Int)+x.5.tmod ((9999:Int) - ((1:Int)+x.4.tmod (9998:Int)))) (10000:Int) (3:Int)] (Ex.mk (1:Int) (B8 []) (B8 []) [] [])])) fun (U0:List Spn->Prop)=>Cnd ((2:Int)<=Q3) (U0 [Spn.mk (x.2.tmod (50:Int)*(20:Int)+(1:Int)+x.3.tmod ((10000:Int) - x.2.tmod (50:Int)*(20:Int) - (1:Int))) (10000:Int)]) (U0 [Spn.mk (x.2.tmod (50:Int)*(20:Int)) (x.2.tmod (50:Int)*(20:Int)+(1:Int)+x.3.tmod ((10000:Int) - x.2.tmod (50:Int)*(20:Int) - (1:Int)))]))/\(Qu fun Vy=>((0:Int)<=Q3.tmod (2:Int)/\Q3.tmod (2:Int)<(↑Vy.length:Int))/\ ∀y11,Vy[(Q3.tmod (2:Int)).toNat]? =some y11->(((0:Int)<=Q3/\Q3<(↑[B8 [98,108,117,101],B8 [102,97,115,116],B8 [103,114,101,101,110],B8 [115,108,111,119]].length:Int))/\ ∀y13,[B8 [98,108,117,101],B8 [102,97,115,116],B8 [103,114,101,101,110],B8 [115,108,111,119]][Q3.toNat]? =some y13->(↑((B8 [115]++bsOf [Go.IntKind.u8.wrap ((97:Int)+x.1.tmod (26:Int))]).size+(bsOf [Go.IntKind.u8.wrap ((48:Int)+Go.IntKind.u8.wrap Q3)]).size):Int)<=(9223372036854775807:Int)/\Jn1 (fun (Jp:List Spn)=>Sml (q72++[Exper.mk y13 y11 y8 (B8 [115]++bsOf [Go.IntKind.u8.wrap ((97:Int)+x.1.tmod (26:Int))]++bsOf [Go.IntKind.u8.wrap ((48:Int)+Go.IntKind.u8.wrap Q3)]) (2:Int) Jp [Rng.mk (0:Int) ((1:Int)+x.4.tmod (9998:Int)) (1:Int),Rng.mk ((1:Int)+x.4.tmod (9998:Int)) ((1:Int)+x.4.tmod (9998:Int)+(1:Int)+x.5.tmod ((9999:Int) - ((1:Int)+x.4.tmod (9998:Int)))) (2:Int),Rng.mk ((1:Int)+x.4.tmod (9998:Int)+(1:Int)+x.5.tmod ((9999:Int) - ((1:Int)+x.4.tmod (9998:Int)))) (10000:Int) (3:Int)] (Ex.mk (1:Int) (B8 []) (B8 []) [] [])]).length/\InI (Q3+1)/\z42 (Q3+1) (q72++[Exper.mk y13 y11 y8 (B8 [115]++bsOf [Go.IntKind.u8.wrap ((97:Int)+x.1.tmod (26:Int))]++bsOf [Go.IntKind.u8.wrap ((48:Int)+Go.IntKind.u8.wrap Q3)]) (2:Int) Jp [Rng.mk (0:Int) ((1:Int)+x.4.tmod (9998:Int)) (1:Int),Rng.mk ((1:Int)+x.4.tmod (9998:Int)) ((1:Int)+x.4.tmod (9998:Int)+(1:Int)+x.5.tmod ((9999:Int) - ((1:Int)+x.4.tmod (9998:Int)))) (2:Int),Rng.mk ((1:Int)+x.4.tmod (9998:Int)+(1:Int)+x.5.tmod ((9999:Int) - ((1:Int)+x.4.tmod (9998:Int)))) (10000:Int) (3:Int)] (Ex.mk (1:Int) (B8 []) (B8 []) [] [])])) fun (U0:List Spn->Prop)=>Cnd ((2:Int)<=Q3) (U0 [Spn.mk (x.2.tmod (50:Int)*(20:Int)+(1:Int)+x.3.tmod ((10000:Int) - x.2.tmod (50:Int)*(20:Int) - (1:Int))) (10000:Int)]) (U0 [Spn.mk (x.2.tmod (50:Int)*(20:Int)) (x.2.tmod (50:Int)*(20:Int)+(1:Int)+x.3.tmod ((10000:Int) - x.2.tmod (50:Int)*(20:Int) - (1:Int)))]))/\(↑((B8 [115]++bsOf [Go.IntKind.u8.wrap ((97:Int)+x.1.tmod (26:Int))]).size+(bsOf [Go.IntKind.u8.wrap ((48:Int)+Go.IntKind.u8.wrap Q3)]).size):Int)<=(9223372036854775807:Int)/\((0:Int)<=Q3/\Q3<(↑[B8 [98,108,117,101],B8 [102,97,115,116],B8 [103,114,101,101,110],B8 [115,108,111,119]].length:Int))/\ ∀y13,[B8 [98,108,117,101],B8 [102,97,115,116],B8 [103,114,101,101,110],B8 [115,108,111,119]][Q3.toNat]? =some y13->Jn1 (fun (Jp:List Spn)=>Sml (q72++[Exper.mk y13 y11 y8 (B8 [115]++bsOf [Go.IntKind.u8.wrap ((97:Int)+x.1.tmod (26:Int))]++bsOf [Go.IntKind.u8.wrap ((48:Int)+Go.IntKind.u8.wrap Q3)]) (2:Int) Jp [Rng.mk (0:Int) ((1:Int)+x.4.tmod (9998:Int)) (1:Int),Rng.mk ((1:Int)+x.4.tmod (9998:Int)) ((1:Int)+x.4.tmod (9998:Int)+(1:Int)+x.5.tmod ((9999:Int) - ((1:Int)+x.4.tmod (9998:Int)))) (2:Int),Rng.mk ((1:Int)+x.4.tmod (9998:Int)+(1:Int)+x.5.tmod ((9999:Int) - ((1:Int)+x.4.tmod (9998:Int)))) (10000:Int) (3:Int)] (Ex.mk (1:Int) (B8 []) (B8 []) [] [])]).length/\InI (Q3+1)/\z42 (Q3+1) (q72++[Exper.mk y13 y11 y8 (B8 [115]++bsOf [Go.IntKind.u8.wrap ((97:Int)+x.1.tmod (26:Int))]++bsOf [Go.IntKind.u8.wrap ((48:Int)+Go.IntKind.u8.wrap Q3)]) (2:Int) Jp [Rng.mk (0:Int) ((1:Int)+x.4.tmod (9998:Int)) (1:Int),Rng.mk ((1:Int)+x.4.tmod (9998:Int)) ((1:Int)+x.4.tmod (9998:Int)+(1:Int)+x.5.tmod ((9999:Int) - ((1:Int)+x.4.tmod (9998:Int)))) (2:Int),Rng.mk ((1:Int)+x.4.tmod (9998:Int)+(1:Int)+x.5.tmod ((9999:Int) - ((1:Int)+x.4.tmod (9998:Int)))) (10000:Int) (3:Int)] (Ex.mk (1:Int) (B8 []) (B8 []) [] [])])) fun (U0:List Spn->Prop)=>Cnd ((2:Int)<=Q3) (U0 [Spn.mk (x.2.tmod (50:Int)*(20:Int)+(1:Int)+x.3.tmod ((10000:Int) - x.2.tmod (50:Int)*(20:Int) - (1:Int))) (10000:Int)]) (U0 [Spn.mk (x.2.tmod (50:Int)*(20:Int)) (x.2.tmod (50:Int)*(20:Int)+(1:Int)+x.3.tmod ((10000:Int) - x.2.tmod (50:Int)*(20:Int) - (1:Int)))]))/\(↑((B8 [115]++bsOf [Go.IntKind.u8.wrap ((97:Int)+x.1.tmod (26:Int))]).size+(bsOf [Go.IntKind.u8.wrap ((48:Int)+Go.IntKind.u8.wrap Q3)]).size):Int)<=(9223372036854775807:Int)/\(((0:Int)<=Q3/\Q3<(↑[B8 [98,108,117,101],B8 [102,97,115,116],B8 [103,114,101,101,110],B8 [115,108,111,119]].length:Int))/\ ∀y10,[B8 [98,108,117,101],B8 [102,97,115,116],B8 [103,114,101,101,110],B8 [115,108,111,119]][Q3.toNat]? =some y10->Qu fun (Uj:List ByteArray)=>((0:Int)<=Q3.tmod (2:Int)/\Q3.tmod (2:Int)<(↑Uj.length:Int))/\ ∀y13,Uj[(Q3.tmod (2:Int)).toNat]? =some y13->Jn1 (fun (Jp:List Spn)=>Sml (q72++[Exper.mk y10 y13 y8 (B8 [115]++bsOf [Go.IntKind.u8.wrap ((97:Int)+x.1.tmod (26:Int))]++bsOf [Go.IntKind.u8.wrap ((48:Int)+Go.IntKind.u8.wrap Q3)]) (2:Int) Jp [Rng.mk (0:Int) ((1:Int)+x.4.tmod (9998:Int)) (1:Int),Rng.mk ((1:Int)+x.4.tmod (9998:Int)) ((1:Int)+x.4.tmod (9998:Int)+(1:Int)+x.5.tmod ((9999:Int) - ((1:Int)+x.4.tmod (9998:Int)))) (2:Int),Rng.mk ((1:Int)+x.4.tmod (9998:Int)+(1:Int)+x.5.tmod ((9999:Int) - ((1:Int)+x.4.tmod (9998:Int)))) (10000:Int) (3:Int)] (Ex.mk (1:Int) (B8 []) (B8 []) [] [])]).length/\InI (Q3+1)/\z42 (Q3+1) (q72++[Exper.mk y10 y13 y8 (B8 [115]++bsOf [Go.IntKind.u8.wrap ((97:Int)+x.1.tmod (26:Int))]++bsOf [Go.IntKind.u8.wrap ((48:Int)+Go.IntKind.u8.wrap Q3)]) (2:Int) Jp [Rng.mk (0:Int) ((1:Int)+x.4.tmod (9998:Int)) (1:Int),Rng.mk ((1:Int)+x.4.tmod (9998:Int)) ((1:Int)+x.4.tmod (9998:Int)+(1:Int)+x.5.tmod ((9999:Int) - ((1:Int)+x.4.tmod (9998:Int)))) (2:Int),Rng.mk ((1:Int)+x.4.tmod (9998:Int)+(1:Int)+x.5.tmod ((9999:Int) - ((1:Int)+x.4.tmod (9998:Int)))) (10000:Int) (3:Int)] (Ex.mk (1:Int) (B8 []) (B8 []) [] [])])) fun (U0:List Spn->Prop)=>Cnd ((2:Int)<=Q3) (U0 [Spn.mk (x.2.tmod (50:Int)*(20:Int)+(1:Int)+x.3.tmod ((10000:Int) - x.2.tmod (50:Int)*(20:Int) - (1:Int))) (10000:Int)]) (U0 [Spn.mk (x.2.tmod (50:Int)*(20:Int)) (x.2.tmod (50:Int)*(20:Int)+(1:Int)+x.3.tmod ((10000:Int) - x.2.tmod (50:Int)*(20:Int) - (1:Int)))]))/\Qu fun Vy=>((0:Int)<=Q3.tmod (2:Int)/\Q3.tmod (2:Int)<(↑Vy.length:Int))/\ ∀y11,Vy[(Q3.tmod (2:Int)).toNat]? =some y11->((0:Int)<=Q3/\Q3<(↑[B8 [98,108,117,101],B8 [102,97,115,116],B8 [103,114,101,101,110],B8 [115,108,111,119]].length:Int))/\ ∀y13,[B8 [98,108,117,101],B8 [102,97,115,116],B8 [103,114,101,101,110],B8 [115,108,111,119]][Q3.toNat]? =some y13->Jn1 (fun (Jp:List Spn)=>Sml (q72++[Exper.mk y13 y11 y8 (B8 [115]++bsOf [Go.IntKind.u8.wrap ((97:Int)+x.1.tmod (26:Int))]++bsOf [Go.IntKind.u8.wrap ((48:Int)+Go.IntKind.u8.wrap Q3)]) (2:Int) Jp [Rng.mk (0:Int) ((1:Int)+x.4.tmod (9998:Int)) (1:Int),Rng.mk ((1:Int)+x.4.tmod (9998:Int)) ((1:Int)+x.4.tmod (9998:Int)+(1:Int)+x.5.tmod ((9999:Int) - ((1:Int)+x.4.tmod (9998:Int)))) (2:Int),Rng.mk ((1:Int)+x.4.tmod (9998:Int)+(1:Int)+x.5.tmod ((9999:Int) - ((1:Int)+x.4.tmod (9998:Int)))) (10000:Int) (3:Int)] (Ex.mk (1:Int) (B8 []) (B8 []) [] [])]).length/\InI (Q3+1)/\z42 (Q3+1) (q72++[Exper.mk y13 y11 y8 (B8 [115]++bsOf [Go.IntKind.u8.wrap ((97:Int)+x.1.tmod (26:Int))]++bsOf [Go.IntKind.u8.wrap ((48:Int)+Go.IntKind.u8.wrap Q3)]) (2:Int) Jp [Rng.mk (0:Int) ((1:Int)+x.4.tmod (9998:Int)) (1:Int),Rng.mk ((1:Int)+x.4.tmod (9998:Int)) ((1:Int)+x.4.tmod (9998:Int)+(1:Int)+x.5.tmod ((9999:Int) - ((1:Int)+x.4.tmod (9998:Int)))) (2:Int),Rng.mk ((1:Int)+x.4.tmod (9998:Int)+(1:Int)+x.5.tmod ((9999:Int) - ((1:Int)+x.4.tmod (9998:Int)))) (10000:Int) (3:Int)] (Ex.mk (1:Int) (B8 []) (B8 []) [] [])])) fun (U0:List Spn->Prop)=>Cnd ((2:Int)<=Q3) (U0 [Spn.mk (x.2.tmod (50:Int)*(20:Int)+(1:Int)+x.3.tmod ((10000:Int) - x.2.tmod (50:Int)*(20:Int) - (1:Int))) (10000:Int)]) (U0 [Spn.mk (x.2.tmod (50:Int)*(20:Int)) (x.2.tmod (50:Int)*(20:Int)+(1:Int)+x.3.tmod ((10000:Int) - x.2.tmod (50:Int)*(20:Int) - (1:Int)))])) (Lp2 (fun Ui q73 w87=>Cnd (Ui<2) (InI hold/\InI ((5000:Int)+hold)/\At q73 Ui fun y9=>((0:Int)<=Ui/\Ui<(↑(q73.set Ui.toNat (Lay_.mk y9.1 y9.2 y9.3 ((5000:Int)+hold) y9.5 y9.6)).length:Int))/\ ∀y11,(q73.set Ui.toNat (Lay_.mk y9.1 y9.2 y9.3 ((5000:Int)+hold) y9.5 y9.6))[Ui.toNat]? =some y11->InI (Ui+1)/\w87 (Ui+1) ((q73.set Ui.toNat (Lay_.mk y9.1 y9.2 y9.3 ((5000:Int)+hold) y9.5 y9.6)).set Ui.toNat (Lay_.mk y11.1 y11.2 (B8 [111,116,104,101,114]) y11.4 y11.5 y11.6))) (Lp2 (fun Ja j6j v3c=>Fits j6j->Cnd (Ja<(↑j6j.length:Int)) (Cnd (keep=true) (Lp2 (fun J0 U1 j4y=>Fits U1->Cnd (J0<(↑U1.length:Int)) (Cnd (keep=true) ((2:Int)≠(0:Int)/\InI (J0.tdiv (2:Int))/\InI ((500:Int)*J0.tdiv (2:Int))/\InI ((9000:Int)+(500:Int)*J0.tdiv (2:Int))/\(2:Int)≠(0:Int)/\InI (J0.tdiv (2:Int))/\InI ((500:Int)*J0.tdiv (2:Int))/\InI ((9500:Int)+(500:Int)*J0.tdiv (2:Int))/\At U1 J0 fun y13=>InI (J0+1)/\j4y (J0+1) (U1.set J0.toNat (Exper.mk y13.1 y13.2 y13.3 y13.4 y13.5 [Spn.mk ((9000:Int)+(500:Int)*J0.tdiv (2:Int)) ((9500:Int)+(500:Int)*J0.tdiv (2:Int))] y13.7 (Ex.mk y13.8.1 y13.8.2 y13.8.3 y13.8.4 y13.8.5)))) (LpH (fun (Qc:Int×List Flg×List Lay_×List Exper×List Flg×List Lay_×List Exper×List Flg×List Lay_×List Exper×List Flg×List Lay_×List Exper×Unit) (z2a:Int×List Flg×List Lay_×List Exper×List Flg×List Lay_×List Exper×List Flg×List Lay_×List Exper×List Flg×List Lay_×List Exper×Unit->Prop)=>Cnd (Qc.1<12) ((2:Int)≠(0:Int)/\InI (Qc.1.tdiv (2:Int))/\(2:Int)≠(0:Int)/\q07 (Qc.1.tdiv (2:Int)) fun (Gi:ByteArray)=>Qu fun (Jp:List ByteArray)=>((0:Int)<=Qc.1.tmod (2:Int)/\Qc.1.tmod (2:Int)<(↑Jp.length:Int))/\ ∀y16,Jp[(Qc.1.tmod (2:Int)).toNat]? =some y16->Wa Qj Gi y16 fun (q7n:Slt) (j1a:Bool)=>Cnd (j1a=true) (J3 Gi fun (j1b:Subj)=>R0 (Envt.mk (Sett.mk (B8 []) (B8 []) (0:Int)) [] [] Qc.2.1 Qc.2.2.1 Qc.2.2.2.1) q7n.3 fun (j1c:ByteArray)=>Vm Qj (Envt.mk (Sett.mk (B8 []) (B8 []) (0:Int)) [] [] Qc.2.1 Qc.2.2.1 Qc.2.2.2.1) (Subj.mk j1b.1) Gi j1c Qj.1 fun (q7o:Dcs) (j1d:Int)=>Cnd (j1d=0) (Cnd (q7o.2=q7n.4) (Cnd (q7o.4.1=4) (Cnd (q7o.4.3=q7n.3) (InI (Qc.1+1)/\z2a (Qc.1+1,Qc.2.1,Qc.2.2.1,Qc.2.2.2.1,Qc.2.2.2.2.1,Qc.2.2.2.2.2.1,Qc.2.2.2.2.2.2.1,Qc.2.2.2.2.2.2.2.1,Qc.2.2.2.2.2.2.2.2.1,Qc.2.2.2.2.2.2.2.2.2.1,Qc.2.2.2.2.2.2.2.2.2.2.1,Qc.2.2.2.2.2.2.2.2.2.2.2.1,Qc.2.2.2.2.2.2.2.2.2.2.2.2.1,())) (K false)) (K false)) (K false)) (K false)) (InI (Qc.1+1)/\z2a (Qc.1+1,Qc.2.1,Qc.2.2.1,Qc.2.2.2.1,Qc.2.2.2.2.1,Qc.2.2.2.2.2.1,Qc.2.2.2.2.2.2.1,Qc.2.2.2.2.2.2.2.1,Qc.2.2.2.2.2.2.2.2.1,Qc.2.2.2.2.2.2.2.2.2.1,Qc.2.2.2.2.2.2.2.2.2.2.1,Qc.2.2.2.2.2.2.2.2.2.2.2.1,Qc.2.2.2.2.2.2.2.2.2.2.2.2.1,()))) (K true)) ((0:Int),Hn,q73,U1,Hn,q73,U1,Hn,q73,U1,Hn,q73,U1,()))) (LpH (fun (Qc:Int×List Flg×List Lay_×List Exper×List Flg×List Lay_×List Exper×List Flg×List Lay_×List Exper×List Flg×List Lay_×List Exper×Unit) (z2a:Int×List Flg×List Lay_×List Exper×List Flg×List Lay_×List Exper×List Flg×List Lay_×List Exper×List Flg×List Lay_×List Exper×Unit->Prop)=>Cnd (Qc.1<12) ((2:Int)≠(0:Int)/\InI (Qc.1.tdiv (2:Int))/\(2:Int)≠(0:Int)/\q07 (Qc.1.tdiv (2:Int)) fun (Gi:ByteArray)=>Qu fun (Jp:List ByteArray)=>((0:Int)<=Qc.1.tmod (2:Int)/\Qc.1.tmod (2:Int)<(↑Jp.length:Int))/\ ∀y16,Jp[(Qc.1.tmod (2:Int)).toNat]? =some y16->Wa Qj Gi y16 fun (q7n:Slt) (j1a:Bool)=>Cnd (j1a=true) (J3 Gi fun (j1b:Subj)=>R0 (Envt.mk (Sett.mk (B8 []) (B8 []) (0:Int)) [] [] Qc.2.1 Qc.2.2.1 Qc.2.2.2.1) q7n.3 fun (j1c:ByteArray)=>Vm Qj (Envt.mk (Sett.mk (B8 []) (B8 []) (0:Int)) [] [] Qc.2.1 Qc.2.2.1 Qc.2.2.2.1) (Subj.mk j1b.1) Gi j1c Qj.1 fun (q7o:Dcs) (j1d:Int)=>Cnd (j1d=0) (Cnd (q7o.2=q7n.4) (Cnd (q7o.4.1=4) (Cnd (q7o.4.3=q7n.3) (InI (Qc.1+1)/\z2a (Qc.1+1,Qc.2.1,Qc.2.2.1,Qc.2.2.2.1,Qc.2.2.2.2.1,Qc.2.2.2.2.2.1,Qc.2.2.2.2.2.2.1,Qc.2.2.2.2.2.2.2.1,Qc.2.2.2.2.2.2.2.2.1,Qc.2.2.2.2.2.2.2.2.2.1,Qc.2.2.2.2.2.2.2.2.2.2.1,Qc.2.2.2.2.2.2.2.2.2.2.2.1,Qc.2.2.2.2.2.2.2.2.2.2.2.2.1,())) (K false)) (K false)) (K false)) (K false)) (InI (Qc.1+1)/\z2a (Qc.1+1,Qc.2.1,Qc.2.2.1,Qc.2.2.2.1,Qc.2.2.2.2.1,Qc.2.2.2.2.2.1,Qc.2.2.2.2.2.2.1,Qc.2.2.2.2.2.2.2.1,Qc.2.2.2.2.2.2.2.2.1,Qc.2.2.2.2.2.2.2.2.2.1,Qc.2.2.2.2.2.2.2.2.2.2.1,Qc.2.2.2.2.2.2.2.2.2.2.2.1,Qc.2.2.2.2.2.2.2.2.2.2.2.2.1,()))) (K true)) ((0:Int),Hn,q73,U1,Hn,q73,U1,Hn,q73,U1,Hn,q73,U1,()))) (0:Int) j6j) (At j6j Ja fun y11=>InI (Ja+1)/\v3c (Ja+1) (j6j.set Ja.toNat (Exper.mk y11.1 y11.2 y11.3 y11.4 y11.5 [] y11.7 (Ex.mk y11.8.1 y11.8.2 y11.8.3 y11.8.4 y11.8.5))))) (Lp2 (fun J0 U1 j4y=>Fits U1->Cnd (J0<(↑U1.length:Int)) (Cnd (keep=true) ((2:Int)≠(0:Int)/\InI (J0.tdiv (2:Int))/\InI ((500:Int)*J0.tdiv (2:Int))/\InI ((9000:Int)+(500:Int)*J0.tdiv (2:Int))/\(2:Int)≠(0:Int)/\InI (J0.tdiv (2:Int))/\InI ((500:Int)*J0.tdiv (2:Int))/\InI ((9500:Int)+(500:Int)*J0.tdiv (2:Int))/\At U1 J0 fun y13=>InI (J0+1)/\j4y (J0+1) (U1.set J0.toNat (Exper.mk y13.1 y13.2 y13.3 y13.4 y13.5 [Spn.mk ((9000:Int)+(500:Int)*J0.tdiv (2:Int)) ((9500:Int)+(500:Int)*J0.tdiv (2:Int))] y13.7 (Ex.mk y13.8.1 y13.8.2 y13.8.3 y13.8.4 y13.8.5)))) (LpH (fun (Qc:Int×List Flg×List Lay_×List Exper×List Flg×List Lay_×List Exper×List Flg×List Lay_×List Exper×List Flg×List Lay_×List Exper×Unit) (z2a:Int×List Flg×List Lay_×List Exper×List Flg×List Lay_×List Exper×List Flg×List Lay_×List Exper×List Flg×List Lay_×List Exper×Unit->Prop)=>Cnd (Qc.1<12) ((2:Int)≠(0:Int)/\InI (Qc.1.tdiv (2:Int))/\(2:Int)≠(0:Int)/\q07 (Qc.1.tdiv (2:Int)) fun (Gi:ByteArray)=>Qu fun (Jp:List ByteArray)=>((0:Int)<=Qc.1.tmod (2:Int)/\Qc.1.tmod (2:Int)<(↑Jp.length:Int))/\ ∀y16,Jp[(Qc.1.tmod (2:Int)).toNat]? =some y16->Wa Qj Gi y16 fun (q7n:Slt) (j1a:Bool)=>Cnd (j1a=true) (J3 Gi fun (j1b:Subj)=>R0 (Envt.mk (Sett.mk (B8 []) (B8 []) (0:Int)) [] [] Qc.2.1 Qc.2.2.1 Qc.2.2.2.1) q7n.3 fun (j1c:ByteArray)=>Vm Qj (Envt.mk (Sett.mk (B8 []) (B8 []) (0:Int)) [] [] Qc.2.1 Qc.2.2.1 Qc.2.2.2.1) (Subj.mk j1b.1) Gi j1c Qj.1 fun (q7o:Dcs) (j1d:Int)=>Cnd (j1d=0) (Cnd (q7o.2=q7n.4) (Cnd (q7o.4.1=4) (Cnd (q7o.4.3=q7n.3) (InI (Qc.1+1)/\z2a (Qc.1+1,Qc.2.1,Qc.2.2.1,Qc.2.2.2.1,Qc.2.2.2.2.1,Qc.2.2.2.2.2.1,Qc.2.2.2.2.2.2.1,Qc.2.2.2.2.2.2.2.1,Qc.2.2.2.2.2.2.2.2.1,Qc.2.2.2.2.2.2.2.2.2.1,Qc.2.2.2.2.2.2.2.2.2.2.1,Qc.2.2.2.2.2.2.2.2.2.2.2.1,Qc.2.2.2.2.2.2.2.2.2.2.2.2.1,())) (K false)) (K false)) (K false)) (K false)) (InI (Qc.1+1)/\z2a (Qc.1+1,Qc.2.1,Qc.2.2.1,Qc.2.2.2.1,Qc.2.2.2.2.1,Qc.2.2.2.2.2.1,Qc.2.2.2.2.2.2.1,Qc.2.2.2.2.2.2.2.1,Qc.2.2.2.2.2.2.2.2.1,Qc.2.2.2.2.2.2.2.2.2.1,Qc.2.2.2.2.2.2.2.2.2.2.1,Qc.2.2.2.2.2.2.2.2.2.2.2.1,Qc.2.2.2.2.2.2.2.2.2.2.2.2.1,()))) (K true)) ((0:Int),Hn,q73,U1,Hn,q73,U1,Hn,q73,U1,Hn,q73,U1,()))) (LpH (fun (Qc:Int×List Flg×List Lay_×List Exper×List Flg×List Lay_×List Exper×List Flg×List Lay_×List Exper×List Flg×List Lay_×List Exper×Unit) (z2a:Int×List Flg×List Lay_×List Exper×List Flg×List Lay_×List Exper×List Flg×List Lay_×List Exper×List Flg×List Lay_×List Exper×Unit->Prop)=>Cnd (Qc.1<12) ((2:Int)≠(0:Int)/\InI (Qc.1.tdiv (2:Int))/\(2:Int)≠(0:Int)/\q07 (Qc.1.tdiv (2:Int)) fun (Gi:ByteArray)=>Qu fun (Jp:List ByteArray)=>((0:Int)<=Qc.1.tmod (2:Int)/\Qc.1.tmod (2:Int)<(↑Jp.length:Int))/\ ∀y16,Jp[(Qc.1.tmod (2:Int)).toNat]? =some y16->Wa Qj Gi y16 fun (q7n:Slt) (j1a:Bool)=>Cnd (j1a=true) (J3 Gi fun (j1b:Subj)=>R0 (Envt.mk (Sett.mk (B8 []) (B8 []) (0:Int)) [] [] Qc.2.1 Qc.2.2.1 Qc.2.2.2.1) q7n.3 fun (j1c:ByteArray)=>Vm Qj (Envt.mk (Sett.mk (B8 []) (B8 []) (0:Int)) [] [] Qc.2.1 Qc.2.2.1 Qc.2.2.2.1) (Subj.mk j1b.1) Gi j1c Qj.1 fun (q7o:Dcs) (j1d:Int)=>Cnd (j1d=0) (Cnd (q7o.2=q7n.4) (Cnd (q7o.4.1=4) (Cnd (q7o.4.3=q7n.3) (InI (Qc.1+1)/\z2a (Qc.1+1,Qc.2.1,Qc.2.2.1,Qc.2.2.2.1,Qc.2.2.2.2.1,Qc.2.2.2.2.2.1,Qc.2.2.2.2.2.2.1,Qc.2.2.2.2.2.2.2.1,Qc.2.2.2.2.2.2.2.2.1,Qc.2.2.2.2.2.2.2.2.2.1,Qc.2.2.2.2.2.2.2.2.2.2.1,Qc.2.2.2.2.2.2.2.2.2.2.2.1,Qc.2.2.2.2.2.2.2.2.2.2.2.2.1,())) (K false)) (K false)) (K false)) (K false)) (InI (Qc.1+1)/\z2a (Qc.1+1,Qc.2.1,Qc.2.2.1,Qc.2.2.2.1,Qc.2.2.2.2.1,Qc.2.2.2.2.2.1,Qc.2.2.2.2.2.2.1,Qc.2.2.2.2.2.2.2.1,Qc.2.2.2.2.2.2.2.2.1,Qc.2.2.2.2.2.2.2.2.2.1,Qc.2.2.2.2.2.2.2.2.2.2.1,Qc.2.2.2.2.2.2.2.2.2.2.2.1,Qc.2.2.2.2.2.2.2.2.2.2.2.2.1,()))) (K true)) ((0:Int),Hn,q73,U1,Hn,q73,U1,Hn,q73,U1,Hn,q73,U1,()))) (0:Int) j6j)) (0:Int) q72)) (0:Int) q76)) (0:Int) [])) (0:Int) [])) (0:Int) [])) (K false)
def Jf:B4:=B5 q21 Ww q4v Jr z2x Uy R9 q0x U4
end Go.En
end
noncomputable section
set_option maxRecDepth 100000
namespace Go.Proofs
open Go.Shelf
def Tryz.laysM171_ren:Go.Shelf.Ren:=⟨fun|171=>282|243=>291|246=>296|283=>299|284=>300|285=>301|286=>302|129=>167|317=>303|318=>304|319=>305|320=>306|337=>307|338=>308|n=>n,fun|3=>3|9=>9|2=>2|4=>4|171=>394|0=>0|53=>169|37=>144|5=>5|173=>396|212=>399|51=>262|20=>20|213=>400|46=>223|232=>401|233=>402|n=>n,fun|17=>7|18=>8|19=>9|n=>n⟩
theorem Tryz.laysM171:Go.Proofs.LaysM.n171 Tryz.prog Tryz.laysM171_ren:={
 mixed:=by kernel_rfl
 f129:=Tryz.func167.trans (congrArg some (by kernel_rfl))
 f171:=Tryz.func282.trans (congrArg some (by kernel_rfl))
 f243:=Tryz.func291.trans (congrArg some (by kernel_rfl))
 f246:=Tryz.func296.trans (congrArg some (by kernel_rfl))
 f283:=Tryz.func299.trans (congrArg some (by kernel_rfl))
 f284:=Tryz.func300.trans (congrArg some (by kernel_rfl))
 f285:=Tryz.func301.trans (congrArg some (by kernel_rfl))
 f286:=Tryz.func302.trans (congrArg some (by kernel_rfl))
 f317:=Tryz.func303.trans (congrArg some (by kernel_rfl))
 f318:=Tryz.func304.trans (congrArg some (by kernel_rfl))
 f319:=Tryz.func305.trans (congrArg some (by kernel_rfl))
 f320:=Tryz.func306.trans (congrArg some (by kernel_rfl))
 f337:=Tryz.func307.trans (congrArg some (by kernel_rfl))
 f338:=Tryz.func308.trans (congrArg some (by kernel_rfl))
 t0:=Tryz.underlying0
 a0:=Tryz.isAgg0
 z0:=Tryz.sizeOf0
 v0:=Tryz.zeroValue0
 t2:=Tryz.underlying2
 a2:=Tryz.isAgg2
 z2:=Tryz.sizeOf2
 v2:=Tryz.zeroValue2
 t3:=Tryz.underlying3
 a3:=Tryz.isAgg3
 z3:=Tryz.sizeOf3
 v3:=Tryz.zeroValue3
 t4:=Tryz.underlying4
 a4:=Tryz.isAgg4
 z4:=Tryz.sizeOf4
 v4:=Tryz.zeroValue4
 t5:=Tryz.underlying5
 a5:=Tryz.isAgg5
 z5:=Tryz.sizeOf5
 v5:=Tryz.zeroValue5
 t9:=Tryz.underlying9
 a9:=Tryz.isAgg9
 z9:=Tryz.sizeOf9
 v9:=Tryz.zeroValue9
 t20:=Tryz.underlying20
 a20:=Tryz.isAgg20
 z20:=Tryz.sizeOf20
 v20:=Tryz.zeroValue20
 t37:=Tryz.underlying144
 a37:=Tryz.isAgg144
 z37:=Tryz.sizeOf144
 v37:=Tryz.zeroValue144
 t46:=Tryz.underlying223
 a46:=Tryz.isAgg223
 z46:=Tryz.sizeOf223
 v46:=Tryz.zeroValue223
 t51:=Tryz.underlying262
 a51:=Tryz.isAgg262
 z51:=Tryz.sizeOf262
 v51:=Tryz.zeroValue262
 t53:=Tryz.underlying169
 a53:=Tryz.isAgg169
 z53:=Tryz.sizeOf169
 v53:=Tryz.zeroValue169
 t171:=Tryz.underlying394
 a171:=Tryz.isAgg394
 z171:=Tryz.sizeOf394
 v171:=Tryz.zeroValue394
 t173:=Tryz.underlying396
 a173:=Tryz.isAgg396
 z173:=Tryz.sizeOf396
 v173:=Tryz.zeroValue396
 t212:=Tryz.underlying399
 a212:=Tryz.isAgg399
 z212:=Tryz.sizeOf399
 v212:=Tryz.zeroValue399
 t213:=Tryz.underlying400
 a213:=Tryz.isAgg400
 z213:=Tryz.sizeOf400
 t232:=Tryz.underlying401
 a232:=Tryz.isAgg401
 z232:=Tryz.sizeOf401
 v232:=Tryz.zeroValue401
 t233:=Tryz.underlying402
 a233:=Tryz.isAgg402
 z233:=Tryz.sizeOf402
 v233:=Tryz.zeroValue402
 g17:=by kernel_rfl
 g18:=by kernel_rfl
 g19:=by kernel_rfl
 i0:=by kernel_rfl
 i2:=by kernel_rfl
 i3:=by kernel_rfl
 i4:=by kernel_rfl
 i5:=by kernel_rfl
 i9:=by kernel_rfl
 i20:=by kernel_rfl
 i37:=by kernel_rfl
 i46:=by kernel_rfl
 i51:=by kernel_rfl
 i53:=by kernel_rfl
 i171:=by kernel_rfl
 i173:=by kernel_rfl
 i212:=by kernel_rfl
 i232:=by kernel_rfl
 i233:=by kernel_rfl
 m17:=by kernel_rfl
 m18:=by kernel_rfl
 m19:=by kernel_rfl}
open Go.RowKit Go.Sort Go.Lib in
theorem Tryz.strconv_Itoa (n:Int) (h0: -9223372036854775808<=n) (h1:n<=9223372036854775807) (w:World) (htab:Lib.TabIs Tryz.prog w "internal/strconv.uint64pow10" .u64 Lib.pow10Tab):
  Calls Tryz.prog 282 #[.int .i64 n] w fun e w'=>e= .returned (.string ⟨(Lib.itoa n).toArray⟩)/\ ∃k os,w'=grow (w.drewN k) os:=Any.strconv_Itoa Tryz.laysM171 n h0 h1 w htab
def Tryz.laysC172_ren:Go.Shelf.Ren:=⟨fun|172=>265|244=>277|245=>278|247=>286|279=>287|280=>288|281=>289|282=>290|287=>293|316=>294|171=>282|205=>295|321=>297|322=>298|243=>291|246=>296|283=>299|284=>300|285=>301|286=>302|129=>167|317=>303|318=>304|319=>305|320=>306|337=>307|338=>308|n=>n,fun|9=>9|3=>3|75=>358|76=>359|4=>4|5=>5|167=>377|37=>144|0=>0|85=>378|2=>2|168=>380|53=>169|175=>383|46=>223|210=>386|127=>390|145=>393|143=>391|21=>21|171=>394|173=>396|212=>399|51=>262|20=>20|213=>400|232=>401|233=>402|80=>403|n=>n,fun|15=>5|16=>6|17=>7|18=>8|19=>9|n=>n⟩
theorem Tryz.laysC172:Go.Proofs.LaysC.n172 Tryz.prog Tryz.laysC172_ren:={
 mixed:=by kernel_rfl
 f129:=Tryz.func167.trans (congrArg some (by kernel_rfl))
 f171:=Tryz.func282.trans (congrArg some (by kernel_rfl))
 f172:=Tryz.func265.trans (congrArg some (by kernel_rfl))
 f205:=Tryz.func295.trans (congrArg some (by kernel_rfl))
 f243:=Tryz.func291.trans (congrArg some (by kernel_rfl))
 f244:=Tryz.func277.trans (congrArg some (by kernel_rfl))
 f245:=Tryz.func278.trans (congrArg some (by kernel_rfl))
 f246:=Tryz.func296.trans (congrArg some (by kernel_rfl))
 f247:=Tryz.func286.trans (congrArg some (by kernel_rfl))
 f279:=Tryz.func287.trans (congrArg some (by kernel_rfl))
 f280:=Tryz.func288.trans (congrArg some (by kernel_rfl))
 f281:=Tryz.func289.trans (congrArg some (by kernel_rfl))
 f282:=Tryz.func290.trans (congrArg some (by kernel_rfl))
 f283:=Tryz.func299.trans (congrArg some (by kernel_rfl))
 f284:=Tryz.func300.trans (congrArg some (by kernel_rfl))
 f285:=Tryz.func301.trans (congrArg some (by kernel_rfl))
 f286:=Tryz.func302.trans (congrArg some (by kernel_rfl))
 f287:=Tryz.func293.trans (congrArg some (by kernel_rfl))
 f316:=Tryz.func294.trans (congrArg some (by kernel_rfl))
 f317:=Tryz.func303.trans (congrArg some (by kernel_rfl))
 f318:=Tryz.func304.trans (congrArg some (by kernel_rfl))
 f319:=Tryz.func305.trans (congrArg some (by kernel_rfl))
 f320:=Tryz.func306.trans (congrArg some (by kernel_rfl))
 f321:=Tryz.func297.trans (congrArg some (by kernel_rfl))
 f322:=Tryz.func298.trans (congrArg some (by kernel_rfl))
 f337:=Tryz.func307.trans (congrArg some (by kernel_rfl))
 f338:=Tryz.func308.trans (congrArg some (by kernel_rfl))
 t0:=Tryz.underlying0
 a0:=Tryz.isAgg0
 z0:=Tryz.sizeOf0
 v0:=Tryz.zeroValue0
 t2:=Tryz.underlying2
 a2:=Tryz.isAgg2
 z2:=Tryz.sizeOf2
 v2:=Tryz.zeroValue2
 t3:=Tryz.underlying3
 a3:=Tryz.isAgg3
 z3:=Tryz.sizeOf3
 v3:=Tryz.zeroValue3
 t4:=Tryz.underlying4
 a4:=Tryz.isAgg4
 z4:=Tryz.sizeOf4
 v4:=Tryz.zeroValue4
 t5:=Tryz.underlying5
 a5:=Tryz.isAgg5
 z5:=Tryz.sizeOf5
 v5:=Tryz.zeroValue5
 t9:=Tryz.underlying9
 a9:=Tryz.isAgg9
 z9:=Tryz.sizeOf9
 v9:=Tryz.zeroValue9
 t20:=Tryz.underlying20
 a20:=Tryz.isAgg20
 z20:=Tryz.sizeOf20
 v20:=Tryz.zeroValue20
 t21:=Tryz.underlying21
 a21:=Tryz.isAgg21
 z21:=Tryz.sizeOf21
 v21:=Tryz.zeroValue21
 t37:=Tryz.underlying144
 a37:=Tryz.isAgg144
 z37:=Tryz.sizeOf144
 v37:=Tryz.zeroValue144
 t46:=Tryz.underlying223
 a46:=Tryz.isAgg223
 z46:=Tryz.sizeOf223
 v46:=Tryz.zeroValue223
 t51:=Tryz.underlying262
 a51:=Tryz.isAgg262
 z51:=Tryz.sizeOf262
 v51:=Tryz.zeroValue262
 t53:=Tryz.underlying169
 a53:=Tryz.isAgg169
 z53:=Tryz.sizeOf169
 v53:=Tryz.zeroValue169
 t75:=Tryz.underlying358
 a75:=Tryz.isAgg358
 z75:=Tryz.sizeOf358
 v75:=Tryz.zeroValue358
 t76:=Tryz.underlying359
 a76:=Tryz.isAgg359
 z76:=Tryz.sizeOf359
 v76:=Tryz.zeroValue359
 t85:=Tryz.underlying378
 a85:=Tryz.isAgg378
 z85:=Tryz.sizeOf378
 v85:=Tryz.zeroValue378
 t127:=Tryz.underlying390
 a127:=Tryz.isAgg390
 z127:=Tryz.sizeOf390
 v127:=Tryz.zeroValue390
 t143:=Tryz.underlying391
 a143:=Tryz.isAgg391
 z143:=Tryz.sizeOf391
 v143:=Tryz.zeroValue391
 t145:=Tryz.underlying393
 a145:=Tryz.isAgg393
 z145:=Tryz.sizeOf393
 v145:=Tryz.zeroValue393
 t167:=Tryz.underlying377
 a167:=Tryz.isAgg377
 z167:=Tryz.sizeOf377
 v167:=Tryz.zeroValue377
 t168:=Tryz.underlying380
 a168:=Tryz.isAgg380
 z168:=Tryz.sizeOf380
 v168:=Tryz.zeroValue380
 t171:=Tryz.underlying394
 a171:=Tryz.isAgg394
 z171:=Tryz.sizeOf394
 v171:=Tryz.zeroValue394
 t173:=Tryz.underlying396
 a173:=Tryz.isAgg396
 z173:=Tryz.sizeOf396
 v173:=Tryz.zeroValue396
 t175:=Tryz.underlying383
 a175:=Tryz.isAgg383
 z175:=Tryz.sizeOf383
 v175:=Tryz.zeroValue383
 t210:=Tryz.underlying386
 a210:=Tryz.isAgg386
 z210:=Tryz.sizeOf386
 v210:=Tryz.zeroValue386
 t212:=Tryz.underlying399
 a212:=Tryz.isAgg399
 z212:=Tryz.sizeOf399
 v212:=Tryz.zeroValue399
 t213:=Tryz.underlying400
 a213:=Tryz.isAgg400
 z213:=Tryz.sizeOf400
 t232:=Tryz.underlying401
 a232:=Tryz.isAgg401
 z232:=Tryz.sizeOf401
 v232:=Tryz.zeroValue401
 t233:=Tryz.underlying402
 a233:=Tryz.isAgg402
 z233:=Tryz.sizeOf402
 v233:=Tryz.zeroValue402
 g15:=by kernel_rfl
 g16:=by kernel_rfl
 g17:=by kernel_rfl
 g18:=by kernel_rfl
 g19:=by kernel_rfl
 t80:=Tryz.underlying403
 a80:=Tryz.isAgg403
 z80:=Tryz.sizeOf403
 v80:=Tryz.zeroValue403
 i0:=by kernel_rfl
 i2:=by kernel_rfl
 i3:=by kernel_rfl
 i4:=by kernel_rfl
 i5:=by kernel_rfl
 i9:=by kernel_rfl
 i20:=by kernel_rfl
 i21:=by kernel_rfl
 i37:=by kernel_rfl
 i46:=by kernel_rfl
 i51:=by kernel_rfl
 i53:=by kernel_rfl
 i75:=by kernel_rfl
 i76:=by kernel_rfl
 i80:=by kernel_rfl
 i85:=by kernel_rfl
 i127:=by kernel_rfl
 i143:=by kernel_rfl
 i145:=by kernel_rfl
 i167:=by kernel_rfl
 i168:=by kernel_rfl
 i171:=by kernel_rfl
 i173:=by kernel_rfl
 i175:=by kernel_rfl
 i210:=by kernel_rfl
 i212:=by kernel_rfl
 i232:=by kernel_rfl
 i233:=by kernel_rfl
 m15:=by kernel_rfl
 m16:=by kernel_rfl
 m17:=by kernel_rfl
 m18:=by kernel_rfl
 m19:=by kernel_rfl
 c0:=by kernel_rfl
 c2:=by kernel_rfl
 c3:=by kernel_rfl
 c4:=by kernel_rfl
 c5:=by kernel_rfl
 c9:=by kernel_rfl
 c20:=by kernel_rfl
 c21:=by kernel_rfl
 c37:=by kernel_rfl
 c46:=by kernel_rfl
 c51:=by kernel_rfl
 c53:=by kernel_rfl
 c75:=by kernel_rfl
 c76:=by kernel_rfl
 c80:=by kernel_rfl
 c85:=by kernel_rfl
 c127:=by kernel_rfl
 c143:=by kernel_rfl
 c145:=by kernel_rfl
 c167:=by kernel_rfl
 c168:=by kernel_rfl
 c171:=by kernel_rfl
 c173:=by kernel_rfl
 c175:=by kernel_rfl
 c210:=by kernel_rfl
 c212:=by kernel_rfl
 c213:=by kernel_rfl
 c232:=by kernel_rfl
 c233:=by kernel_rfl}
open Go.RowKit in
theorem Tryz.strconv_Atoi_ok(s:ByteArray)(hmax:s.size<=9223372036854775806)(v:Int)(h:Lib.atoiAll s.data.toList= .ok v)(w:World):
  Calls Tryz.prog 265 #[.string s] w fun e w'=>e= .returned (.tuple #[.int .i64 v,.nilIface])/\(w'=w∨ ∃t,w'=Lib.bytesWorld w 5 t):=Any.strconv_Atoi_ok Tryz.laysC172 s hmax v h w
open Go.RowKit in
theorem Tryz.strconv_Atoi_syntax(s:ByteArray)(hlim:s.size<=281474976710656)(h:Lib.atoiAll s.data.toList=Go.Lib.NumEnd.syntax)(ev:Value)(w:World)(hv:w.cell? ⟨5,0,none⟩=some ev)(hev:ev= .nilIface∨ ∃te pe,ev= .iface te pe):
  Calls Tryz.prog 265 #[.string s] w fun e w'=> ∃N,e= .returned (.tuple #[.int .i64 (0),.iface 380 (.pointer (some ⟨N,0,none⟩))])/\w.heap.size<=N/\w'.heap[N]? =some (.cells #[.string ⟨#[65,116,111,105]⟩,.string s,ev] 386 (0,0))/\Below w.heap.size w w':=Any.strconv_Atoi_syntax Tryz.laysC172 s hlim h ev w hv hev
open Go.RowKit in
theorem Tryz.strconv_Atoi_range(s:ByteArray)(hlim:s.size<=281474976710656)(h:Lib.atoiAll s.data.toList= .range)(ev:Value)(w:World)(hv:w.cell? ⟨6,0,none⟩=some ev)(hev:ev= .nilIface∨ ∃te pe,ev= .iface te pe):
  Calls Tryz.prog 265 #[.string s] w fun e w'=> ∃N,e= .returned (.tuple #[.int .i64 (Lib.atoiSat s.data.toList),.iface 380 (.pointer (some ⟨N,0,none⟩))])/\w.heap.size<=N/\w'.heap[N]? =some (.cells #[.string ⟨#[65,116,111,105]⟩,.string s,ev] 386 (0,0))/\Below w.heap.size w w':=Any.strconv_Atoi_range Tryz.laysC172 s hlim h ev w hv hev
def Tryz.lays144_ren:Go.Shelf.Ren:=⟨fun|144=>188|143=>219|219=>241|217=>258|225=>259|224=>260|267=>261|266=>271|314=>272|n=>n,fun|9=>9|4=>4|3=>3|5=>5|46=>223|146=>364|51=>262|n=>n,fun|1=>2|n=>n⟩
theorem Tryz.lays144:Go.Proofs.Lays.n144 Tryz.prog Tryz.lays144_ren:={
 mixed:=by kernel_rfl
 f143:=Tryz.func219.trans (congrArg some (by kernel_rfl))
 f144:=Tryz.func188.trans (congrArg some (by kernel_rfl))
 f217:=Tryz.func258.trans (congrArg some (by kernel_rfl))
 f219:=Tryz.func241.trans (congrArg some (by kernel_rfl))
 f224:=Tryz.func260.trans (congrArg some (by kernel_rfl))
 f225:=Tryz.func259.trans (congrArg some (by kernel_rfl))
 f266:=Tryz.func271.trans (congrArg some (by kernel_rfl))
 f267:=Tryz.func261.trans (congrArg some (by kernel_rfl))
 f314:=Tryz.func272.trans (congrArg some (by kernel_rfl))
 t3:=Tryz.underlying3
 a3:=Tryz.isAgg3
 z3:=Tryz.sizeOf3
 v3:=Tryz.zeroValue3
 t4:=Tryz.underlying4
 a4:=Tryz.isAgg4
 z4:=Tryz.sizeOf4
 v4:=Tryz.zeroValue4
 t5:=Tryz.underlying5
 a5:=Tryz.isAgg5
 z5:=Tryz.sizeOf5
 v5:=Tryz.zeroValue5
 t9:=Tryz.underlying9
 a9:=Tryz.isAgg9
 z9:=Tryz.sizeOf9
 v9:=Tryz.zeroValue9
 t46:=Tryz.underlying223
 a46:=Tryz.isAgg223
 z46:=Tryz.sizeOf223
 v46:=Tryz.zeroValue223
 t51:=Tryz.underlying262
 a51:=Tryz.isAgg262
 z51:=Tryz.sizeOf262
 v51:=Tryz.zeroValue262
 t146:=Tryz.underlying364
 a146:=Tryz.isAgg364
 z146:=Tryz.sizeOf364
 v146:=Tryz.zeroValue364
 g1:=by kernel_rfl}
open Go.RowKit Go.Lib in
theorem Tryz.strings_Contains(s sub:ByteArray)(m:Int)(w:World)(hs:s.size<4294967281)(hm:w.cell? ⟨2,0,none⟩=some (.int .i64 m)):
  Calls Tryz.prog 188 #[.string s,.string sub] w fun e w'=>e= .returned (.bool (Lib.contains s.data.toList sub.data.toList))/\w'=w:=Any.strings_Contains Tryz.lays144 s sub m w hs hm
def Tryz.lays190_ren:Go.Shelf.Ren:=⟨fun|190=>93|125=>124|258=>123|128=>166|129=>167|302=>157|303=>158|304=>159|305=>160|306=>161|307=>162|308=>163|309=>164|310=>165|333=>197|329=>198|330=>199|334=>200|335=>201|336=>202|344=>234|n=>n,fun|31=>55|9=>9|3=>3|46=>223|0=>0|51=>262|53=>169|4=>4|183=>269|182=>268|131=>166|5=>5|218=>311|222=>315|228=>341|229=>342|n=>n,fun|n=>n⟩
theorem Tryz.lays190:Go.Proofs.Lays.n190 Tryz.prog Tryz.lays190_ren:={
 mixed:=by kernel_rfl
 f125:=Tryz.func124.trans (congrArg some (by kernel_rfl))
 f128:=Tryz.func166.trans (congrArg some (by kernel_rfl))
 f129:=Tryz.func167.trans (congrArg some (by kernel_rfl))
 f190:=Tryz.func93.trans (congrArg some (by kernel_rfl))
 f258:=Tryz.func123.trans (congrArg some (by kernel_rfl))
 f302:=Tryz.func157.trans (congrArg some (by kernel_rfl))
 f303:=Tryz.func158.trans (congrArg some (by kernel_rfl))
 f304:=Tryz.func159.trans (congrArg some (by kernel_rfl))
 f305:=Tryz.func160.trans (congrArg some (by kernel_rfl))
 f306:=Tryz.func161.trans (congrArg some (by kernel_rfl))
 f307:=Tryz.func162.trans (congrArg some (by kernel_rfl))
 f308:=Tryz.func163.trans (congrArg some (by kernel_rfl))
 f309:=Tryz.func164.trans (congrArg some (by kernel_rfl))
 f310:=Tryz.func165.trans (congrArg some (by kernel_rfl))
 f329:=Tryz.func198.trans (congrArg some (by kernel_rfl))
 f330:=Tryz.func199.trans (congrArg some (by kernel_rfl))
 f333:=Tryz.func197.trans (congrArg some (by kernel_rfl))
 f334:=Tryz.func200.trans (congrArg some (by kernel_rfl))
 f335:=Tryz.func201.trans (congrArg some (by kernel_rfl))
 f336:=Tryz.func202.trans (congrArg some (by kernel_rfl))
 f344:=Tryz.func234.trans (congrArg some (by kernel_rfl))
 t0:=Tryz.underlying0
 a0:=Tryz.isAgg0
 z0:=Tryz.sizeOf0
 v0:=Tryz.zeroValue0
 t3:=Tryz.underlying3
 a3:=Tryz.isAgg3
 z3:=Tryz.sizeOf3
 v3:=Tryz.zeroValue3
 t4:=Tryz.underlying4
 a4:=Tryz.isAgg4
 z4:=Tryz.sizeOf4
 v4:=Tryz.zeroValue4
 t5:=Tryz.underlying5
 a5:=Tryz.isAgg5
 z5:=Tryz.sizeOf5
 v5:=Tryz.zeroValue5
 t9:=Tryz.underlying9
 a9:=Tryz.isAgg9
 z9:=Tryz.sizeOf9
 v9:=Tryz.zeroValue9
 t31:=Tryz.underlying55
 a31:=Tryz.isAgg55
 z31:=Tryz.sizeOf55
 v31:=Tryz.zeroValue55
 t46:=Tryz.underlying223
 a46:=Tryz.isAgg223
 z46:=Tryz.sizeOf223
 v46:=Tryz.zeroValue223
 t51:=Tryz.underlying262
 a51:=Tryz.isAgg262
 z51:=Tryz.sizeOf262
 v51:=Tryz.zeroValue262
 t53:=Tryz.underlying169
 a53:=Tryz.isAgg169
 z53:=Tryz.sizeOf169
 v53:=Tryz.zeroValue169
 t131:=Tryz.underlying166
 a131:=Tryz.isAgg166
 z131:=Tryz.sizeOf166
 v131:=Tryz.zeroValue166
 t182:=Tryz.underlying268
 a182:=Tryz.isAgg268
 z182:=Tryz.sizeOf268
 v182:=Tryz.zeroValue268
 t183:=Tryz.underlying269
 a183:=Tryz.isAgg269
 z183:=Tryz.sizeOf269
 v183:=Tryz.zeroValue269
 t218:=Tryz.underlying311
 a218:=Tryz.isAgg311
 z218:=Tryz.sizeOf311
 v218:=Tryz.zeroValue311
 t222:=Tryz.underlying315
 a222:=Tryz.isAgg315
 z222:=Tryz.sizeOf315
 v222:=Tryz.zeroValue315
 t228:=Tryz.underlying341
 a228:=Tryz.isAgg341
 z228:=Tryz.sizeOf341
 v228:=Tryz.zeroValue341
 t229:=Tryz.underlying342
 a229:=Tryz.isAgg342
 z229:=Tryz.sizeOf342
 v229:=Tryz.zeroValue342}
open Go.Sort Go.RowKit in
theorem Tryz.slices_Sort_string(blk off cap:Nat)(ss:List (List UInt8))(w:World)(hH:Holds encStr w blk off ss.toArray)(hblk:blk<w.heap.size)(hsz:ss.length<4611686018427387904):
  Calls Tryz.prog 93 #[.slice (some ⟨blk,off,none⟩) ss.length cap] w fun e w'=>
   e= .returned (.tuple #[])/\ ∃n os,w'=grow (putRow encStr (Sort.ahead w n) blk off (ss.mergeSort fun x y=>decide (x<=y)).toArray) os:=Any.slices_Sort_string Tryz.lays190 blk off cap ss w hH hblk hsz
def Tryz.lays146_ren:Go.Shelf.Ren:=⟨fun|146=>245|221=>263|268=>274|138=>275|143=>219|195=>283|197=>284|218=>285|219=>241|260=>292|217=>258|225=>259|224=>260|267=>261|266=>271|314=>272|n=>n,fun|9=>9|31=>55|3=>3|4=>4|0=>0|105=>375|21=>21|5=>5|46=>223|119=>209|139=>369|138=>368|146=>364|51=>262|n=>n,fun|1=>2|3=>3|4=>4|n=>n⟩
theorem Tryz.lays146:Go.Proofs.Lays.n146 Tryz.prog Tryz.lays146_ren:={
 mixed:=by kernel_rfl
 f138:=Tryz.func275.trans (congrArg some (by kernel_rfl))
 f143:=Tryz.func219.trans (congrArg some (by kernel_rfl))
 f146:=Tryz.func245.trans (congrArg some (by kernel_rfl))
 f195:=Tryz.func283.trans (congrArg some (by kernel_rfl))
 f197:=Tryz.func284.trans (congrArg some (by kernel_rfl))
 f217:=Tryz.func258.trans (congrArg some (by kernel_rfl))
 f218:=Tryz.func285.trans (congrArg some (by kernel_rfl))
 f219:=Tryz.func241.trans (congrArg some (by kernel_rfl))
 f221:=Tryz.func263.trans (congrArg some (by kernel_rfl))
 f224:=Tryz.func260.trans (congrArg some (by kernel_rfl))
 f225:=Tryz.func259.trans (congrArg some (by kernel_rfl))
 f260:=Tryz.func292.trans (congrArg some (by kernel_rfl))
 f266:=Tryz.func271.trans (congrArg some (by kernel_rfl))
 f267:=Tryz.func261.trans (congrArg some (by kernel_rfl))
 f268:=Tryz.func274.trans (congrArg some (by kernel_rfl))
 f314:=Tryz.func272.trans (congrArg some (by kernel_rfl))
 t0:=Tryz.underlying0
 a0:=Tryz.isAgg0
 z0:=Tryz.sizeOf0
 v0:=Tryz.zeroValue0
 t3:=Tryz.underlying3
 a3:=Tryz.isAgg3
 z3:=Tryz.sizeOf3
 v3:=Tryz.zeroValue3
 t4:=Tryz.underlying4
 a4:=Tryz.isAgg4
 z4:=Tryz.sizeOf4
 v4:=Tryz.zeroValue4
 t5:=Tryz.underlying5
 a5:=Tryz.isAgg5
 z5:=Tryz.sizeOf5
 v5:=Tryz.zeroValue5
 t9:=Tryz.underlying9
 a9:=Tryz.isAgg9
 z9:=Tryz.sizeOf9
 v9:=Tryz.zeroValue9
 t21:=Tryz.underlying21
 a21:=Tryz.isAgg21
 z21:=Tryz.sizeOf21
 v21:=Tryz.zeroValue21
 t31:=Tryz.underlying55
 a31:=Tryz.isAgg55
 z31:=Tryz.sizeOf55
 v31:=Tryz.zeroValue55
 t46:=Tryz.underlying223
 a46:=Tryz.isAgg223
 z46:=Tryz.sizeOf223
 v46:=Tryz.zeroValue223
 t51:=Tryz.underlying262
 a51:=Tryz.isAgg262
 z51:=Tryz.sizeOf262
 v51:=Tryz.zeroValue262
 t105:=Tryz.underlying375
 a105:=Tryz.isAgg375
 z105:=Tryz.sizeOf375
 v105:=Tryz.zeroValue375
 t119:=Tryz.underlying209
 a119:=Tryz.isAgg209
 z119:=Tryz.sizeOf209
 t138:=Tryz.underlying368
 a138:=Tryz.isAgg368
 z138:=Tryz.sizeOf368
 v138:=Tryz.zeroValue368
 t139:=Tryz.underlying369
 a139:=Tryz.isAgg369
 z139:=Tryz.sizeOf369
 v139:=Tryz.zeroValue369
 t146:=Tryz.underlying364
 a146:=Tryz.isAgg364
 z146:=Tryz.sizeOf364
 v146:=Tryz.zeroValue364
 g1:=by kernel_rfl
 g3:=by kernel_rfl
 g4:=by kernel_rfl}
open Go.RowKit Go.Lib in
theorem Tryz.strings_Split(s sep:ByteArray)(m:Int)(w:World)(hs:s.size<4294967281)(hm:w.cell? ⟨2,0,none⟩=some (.int .i64 m))(h1:1<=sep.size):
  Calls Tryz.prog 245 #[.string s,.string sep] w fun e w'=>
   e= .returned (.slice (some ⟨w.heap.size,0,none⟩) (Lib.countB s sep+1) (Lib.countB s sep+1))/\w'=w.alloc (.cells ((Lib.splitB sep 0 (Lib.countB s sep) s).map Value.string).toArray 9):=Any.strings_Split Tryz.lays146 (by kernel_rfl) s sep m w hs hm h1
def Tryz.lays157_ren:Go.Shelf.Ren:=⟨fun|157=>85|229=>117|199=>118|261=>151|311=>194|312=>195|n=>n,fun|9=>9|31=>55|3=>3|5=>5|4=>4|119=>209|0=>0|40=>211|152=>259|21=>21|154=>261|51=>262|141=>264|196=>304|193=>301|198=>306|49=>22|194=>302|201=>309|226=>339|46=>223|227=>340|n=>n,fun|0=>0|6=>1|n=>n⟩
theorem Tryz.lays157:Go.Proofs.Lays.n157 Tryz.prog Tryz.lays157_ren:={
 mixed:=by kernel_rfl
 f157:=Tryz.func85.trans (congrArg some (by kernel_rfl))
 f199:=Tryz.func118.trans (congrArg some (by kernel_rfl))
 f229:=Tryz.func117.trans (congrArg some (by kernel_rfl))
 f261:=Tryz.func151.trans (congrArg some (by kernel_rfl))
 f311:=Tryz.func194.trans (congrArg some (by kernel_rfl))
 f312:=Tryz.func195.trans (congrArg some (by kernel_rfl))
 t0:=Tryz.underlying0
 a0:=Tryz.isAgg0
 z0:=Tryz.sizeOf0
 v0:=Tryz.zeroValue0
 t3:=Tryz.underlying3
 a3:=Tryz.isAgg3
 z3:=Tryz.sizeOf3
 v3:=Tryz.zeroValue3
 t4:=Tryz.underlying4
 a4:=Tryz.isAgg4
 z4:=Tryz.sizeOf4
 v4:=Tryz.zeroValue4
 t5:=Tryz.underlying5
 a5:=Tryz.isAgg5
 z5:=Tryz.sizeOf5
 v5:=Tryz.zeroValue5
 t9:=Tryz.underlying9
 a9:=Tryz.isAgg9
 z9:=Tryz.sizeOf9
 v9:=Tryz.zeroValue9
 t21:=Tryz.underlying21
 a21:=Tryz.isAgg21
 z21:=Tryz.sizeOf21
 v21:=Tryz.zeroValue21
 t31:=Tryz.underlying55
 a31:=Tryz.isAgg55
 z31:=Tryz.sizeOf55
 v31:=Tryz.zeroValue55
 t40:=Tryz.underlying211
 a40:=Tryz.isAgg211
 z40:=Tryz.sizeOf211
 v40:=Tryz.zeroValue211
 t46:=Tryz.underlying223
 a46:=Tryz.isAgg223
 z46:=Tryz.sizeOf223
 v46:=Tryz.zeroValue223
 t49:=Tryz.underlying22
 a49:=Tryz.isAgg22
 z49:=Tryz.sizeOf22
 v49:=Tryz.zeroValue22
 t51:=Tryz.underlying262
 a51:=Tryz.isAgg262
 z51:=Tryz.sizeOf262
 v51:=Tryz.zeroValue262
 t119:=Tryz.underlying209
 a119:=Tryz.isAgg209
 z119:=Tryz.sizeOf209
 t141:=Tryz.underlying264
 a141:=Tryz.isAgg264
 z141:=Tryz.sizeOf264
 v141:=Tryz.zeroValue264
 t152:=Tryz.underlying259
 a152:=Tryz.isAgg259
 z152:=Tryz.sizeOf259
 v152:=Tryz.zeroValue259
 t154:=Tryz.underlying261
 a154:=Tryz.isAgg261
 z154:=Tryz.sizeOf261
 v154:=Tryz.zeroValue261
 t193:=Tryz.underlying301
 a193:=Tryz.isAgg301
 z193:=Tryz.sizeOf301
 v193:=Tryz.zeroValue301
 t194:=Tryz.underlying302
 a194:=Tryz.isAgg302
 z194:=Tryz.sizeOf302
 v194:=Tryz.zeroValue302
 t196:=Tryz.underlying304
 a196:=Tryz.isAgg304
 z196:=Tryz.sizeOf304
 v196:=Tryz.zeroValue304
 t198:=Tryz.underlying306
 a198:=Tryz.isAgg306
 z198:=Tryz.sizeOf306
 v198:=Tryz.zeroValue306
 t201:=Tryz.underlying309
 a201:=Tryz.isAgg309
 z201:=Tryz.sizeOf309
 v201:=Tryz.zeroValue309
 t226:=Tryz.underlying339
 a226:=Tryz.isAgg339
 z226:=Tryz.sizeOf339
 v226:=Tryz.zeroValue339
 t227:=Tryz.underlying340
 a227:=Tryz.isAgg340
 z227:=Tryz.sizeOf340
 v227:=Tryz.zeroValue340
 g0:=by kernel_rfl
 g6:=by kernel_rfl}
def Tryz.lays194_ren:Go.Shelf.Ren:=⟨fun|194=>94|n=>n,fun|31=>55|9=>9|3=>3|4=>4|0=>0|n=>n,fun|n=>n⟩
theorem Tryz.lays194:Go.Proofs.Lays.n194 Tryz.prog Tryz.lays194_ren:={
 mixed:=by kernel_rfl
 f194:=Tryz.func94.trans (congrArg some (by kernel_rfl))
 t0:=Tryz.underlying0
 a0:=Tryz.isAgg0
 z0:=Tryz.sizeOf0
 v0:=Tryz.zeroValue0
 t3:=Tryz.underlying3
 a3:=Tryz.isAgg3
 z3:=Tryz.sizeOf3
 v3:=Tryz.zeroValue3
 t4:=Tryz.underlying4
 a4:=Tryz.isAgg4
 z4:=Tryz.sizeOf4
 v4:=Tryz.zeroValue4
 t9:=Tryz.underlying9
 a9:=Tryz.isAgg9
 z9:=Tryz.sizeOf9
 v9:=Tryz.zeroValue9
 t31:=Tryz.underlying55
 a31:=Tryz.isAgg55
 z31:=Tryz.sizeOf55
 v31:=Tryz.zeroValue55}
open Go.RowKit Go.Lib Go.Sort in
theorem Tryz.slices_Compact_string(blk off cap:Nat)(zs:List (List UInt8))(w:World)(hH:Holds encStr w blk off zs.toArray)(hsz:zs.length<=9223372036854775807)(hcap:zs.length<=cap):
  Calls Tryz.prog 94 #[.slice (some ⟨blk,off,none⟩) zs.length cap] w fun e w'=>e= .returned (.slice (some ⟨blk,off,none⟩) (Lib.compact zs).length cap)/\ ∃q,w'=putRow encStr (Sort.ahead w q) blk off (Lib.compact zs++List.replicate (zs.length - (Lib.compact zs).length) []).toArray:=Any.slices_Compact_string Tryz.lays194 blk off cap zs w hH hsz hcap
open Go.RowKit Go.Lib Go.Sort in
theorem Tryz.slices_Compact_string_empty(a:Option Addr)(cap:Nat)(w:World):
  Calls Tryz.prog 94 #[.slice a 0 cap] w fun e w'=>e= .returned (.slice a 0 cap)/\w'=w:=Any.slices_Compact_string_empty Tryz.lays194 a cap w
def Tryz.laysNm224_ren:Go.Shelf.Ren:=⟨fun|24=>232|n=>n,fun|24=>55|9=>9|3=>3|4=>4|0=>0|n=>n,fun|n=>n⟩
theorem Tryz.laysNm224:Go.Proofs.Lays2.n24 Tryz.prog Tryz.laysNm224_ren:={
 mixed:=by kernel_rfl
 f24:=Tryz.func232.trans (congrArg some (by kernel_rfl))
 t0:=Tryz.underlying0
 a0:=Tryz.isAgg0
 z0:=Tryz.sizeOf0
 v0:=Tryz.zeroValue0
 t3:=Tryz.underlying3
 a3:=Tryz.isAgg3
 z3:=Tryz.sizeOf3
 v3:=Tryz.zeroValue3
 t4:=Tryz.underlying4
 a4:=Tryz.isAgg4
 z4:=Tryz.sizeOf4
 v4:=Tryz.zeroValue4
 t9:=Tryz.underlying9
 a9:=Tryz.isAgg9
 z9:=Tryz.sizeOf9
 v9:=Tryz.zeroValue9
 t24:=Tryz.underlying55
 a24:=Tryz.isAgg55
 z24:=Tryz.sizeOf55
 v24:=Tryz.zeroValue55
 i9:=by kernel_rfl}
open Go.RowKit Go.Lib Go.Sort in
theorem Tryz.slices_Delete_string(blk off cap i j:Nat)(zs:List (List UInt8))(w:World)(hH:Holds encStr w blk off zs.toArray)(hcap:zs.length<=cap)(hm:cap<=9223372036854775807)(hij:i<=j)(hj:j<=zs.length):
  Calls Tryz.prog 232 #[.slice (some ⟨blk,off,none⟩) zs.length cap,.int .i64 i,.int .i64 j] w fun e w'=>e= .returned (.slice (some ⟨blk,off,none⟩) (zs.length - (j - i)) cap)/\ ∃q,w'=putRow encStr (Sort.ahead w q) blk off (zs.take i++zs.drop j++List.replicate (j - i) []).toArray:=Any.slices_Delete_string Tryz.laysNm224 blk off cap i j zs w hH hcap hm hij hj
open Go.RowKit Go.Sort in
theorem Tryz.slices_Sort_string_none(p:Option Addr)(cap:Nat)(w:World):
  Calls Tryz.prog 93 #[.slice p 0 cap] w fun e w'=>e= .returned (.tuple #[])/\w'=w:=Any.slices_Sort_string_none Tryz.lays190 p cap w
def Tryz.lays196_ren:Go.Shelf.Ren:=⟨fun|196=>262|259=>273|n=>n,fun|9=>9|4=>4|3=>3|5=>5|12=>12|119=>209|0=>0|46=>223|139=>369|138=>368|53=>169|n=>n,fun|3=>3|4=>4|n=>n⟩
theorem Tryz.lays196:Go.Proofs.Lays.n196 Tryz.prog Tryz.lays196_ren:={
 mixed:=by kernel_rfl
 f196:=Tryz.func262.trans (congrArg some (by kernel_rfl))
 f259:=Tryz.func273.trans (congrArg some (by kernel_rfl))
 t0:=Tryz.underlying0
 a0:=Tryz.isAgg0
 z0:=Tryz.sizeOf0
 v0:=Tryz.zeroValue0
 t3:=Tryz.underlying3
 a3:=Tryz.isAgg3
 z3:=Tryz.sizeOf3
 v3:=Tryz.zeroValue3
 t4:=Tryz.underlying4
 a4:=Tryz.isAgg4
 z4:=Tryz.sizeOf4
 v4:=Tryz.zeroValue4
 t5:=Tryz.underlying5
 a5:=Tryz.isAgg5
 z5:=Tryz.sizeOf5
 v5:=Tryz.zeroValue5
 t9:=Tryz.underlying9
 a9:=Tryz.isAgg9
 z9:=Tryz.sizeOf9
 v9:=Tryz.zeroValue9
 t12:=Tryz.underlying12
 a12:=Tryz.isAgg12
 z12:=Tryz.sizeOf12
 v12:=Tryz.zeroValue12
 t46:=Tryz.underlying223
 a46:=Tryz.isAgg223
 z46:=Tryz.sizeOf223
 v46:=Tryz.zeroValue223
 t53:=Tryz.underlying169
 a53:=Tryz.isAgg169
 z53:=Tryz.sizeOf169
 v53:=Tryz.zeroValue169
 t119:=Tryz.underlying209
 a119:=Tryz.isAgg209
 z119:=Tryz.sizeOf209
 t138:=Tryz.underlying368
 a138:=Tryz.isAgg368
 z138:=Tryz.sizeOf368
 v138:=Tryz.zeroValue368
 t139:=Tryz.underlying369
 a139:=Tryz.isAgg369
 z139:=Tryz.sizeOf369
 v139:=Tryz.zeroValue369
 g3:=by kernel_rfl
 g4:=by kernel_rfl}
def Tryz.sorted226_ren:Go.Shelf.Ren:=⟨fun|6=>226|8=>250|9=>93|11=>269|13=>124|12=>123|23=>166|24=>167|14=>157|15=>158|16=>159|17=>160|18=>161|19=>162|20=>163|21=>164|22=>165|25=>197|26=>198|27=>199|28=>200|29=>201|30=>202|31=>234|n=>n,fun|26=>9|28=>333|24=>55|0=>0|3=>3|37=>223|48=>262|50=>169|4=>4|40=>269|39=>268|45=>166|5=>5|9=>9|51=>311|55=>315|57=>341|58=>342|33=>118|n=>n,fun|n=>n⟩
theorem Tryz.sorted226:Go.Proofs.SlLaysZ.n6 Tryz.prog Tryz.sorted226_ren:={
 mixed:=by kernel_rfl
 f6:=⟨Tryz.f226.name,by decide,Tryz.func226.trans (congrArg some (by kernel_rfl))⟩
 f8:=⟨Tryz.f250.name,by decide,Tryz.func250.trans (congrArg some (by kernel_rfl))⟩
 f11:=⟨Tryz.f269.name,by decide,Tryz.func269.trans (congrArg some (by kernel_rfl))⟩
 t0:=Tryz.underlying0
 a0:=Tryz.isAgg0
 z0:=Tryz.sizeOf0
 v0:=Tryz.zeroValue0
 t24:=Tryz.underlying55
 a24:=Tryz.isAgg55
 z24:=Tryz.sizeOf55
 v24:=Tryz.zeroValue55
 t26:=Tryz.underlying9
 a26:=Tryz.isAgg9
 z26:=Tryz.sizeOf9
 v26:=Tryz.zeroValue9
 t28:=Tryz.underlying333
 a28:=Tryz.isAgg333
 z28:=Tryz.sizeOf333
 v28:=Tryz.zeroValue333
 i26:=by kernel_rfl}
end Go.Proofs
end
noncomputable section
set_option maxRecDepth 100000
namespace Go.Fl
open Go Go.Proofs Go.RowKit Go.Maps Go.Sort Go.Shelf
variable {P:Program}{ρ:Ren}
def j9s(F:Fence)(n:Nat)(P:Program)(g:Nat)(lb:Array Value)(ss:List (List UInt8))(w:World):Prop:=
 ∀(l:Nat) (J:List (List UInt8)->World->Prop) (W:World),Below w.heap.size w W->AbidesFrom W.heap.size J->(∀pre W1,J pre W1->Below w.heap.size w W1)->
  (∀pre x W1,J pre W1->pre.length<ss.length->YieldAt F (n - 1) P l #[encStr x] W1 fun e W'=>e= .returned (.bool true)/\J (pre++[x]) W'/\KeepsWalks W1 W')->
  J [] W->CallsIn F n P g (#[.func (.yield l) #[] #[]]++lb) W fun e W'=>(∃v,e= .returned v)/\J ss W'
theorem z8z{W:World}{base j:Nat}{e:TypeId}{v:Value}{k:Nat}{xs:List Value}{o:Obj}(h:W.ownsRow base e 1 v k xs)(hj:W.heap[j]? =some o)(hno: ∀cur,o≠ .cells cur e (0,0))(o':Obj):(W.putObj j o').ownsRow base e 1 v k xs:=
 h.kept (grownBy_putObj_a W j o') (ownsRow_ne_a h hj hno)
set_option maxHeartbeats 2000000 in
theorem z57(L:SlLaysZ.n11 P ρ)(F:Fence)(n:Nat)(hf:F.fn (ρ.f 11))(hro:F.round=none)(hn:2<=n)(g:Nat)(lb:Array Value)(hg:F.fn g)(eg: ∀args w,(callFunc g args).run P w= .ok (.enter g args) w)
  (ss:List (List UInt8))(hN:ss.length<=maxLen)(hNb:ss.length*16<=140737488355328)(w:World)(hseq:j9s F (n - 1) P g lb ss w):
  CallsIn F n P (ρ.f 11) #[.slice none 0 0,.func (.func g) #[] lb] w fun e w'=> ∃v,e= .returned v/\w'.ownsRow w.heap.size (ρ.t 26) 1 v ss.length (ss.map encStr)/\Below w.heap.size w w':=by
 have mixed:=L.mixed;have t0:=L.t0;have a0:=L.a0;have z0:=L.z0;have v0:=L.v0;have t24:=L.t24;have a24:=L.a24;have z24:=L.z24;have v24:=L.v24;have t26:=L.t26;have a26:=L.a26;have z26:=L.z26;have v26:=L.v26
 have u0:=run_underlying L.t0;have u24:=run_underlying L.t24;have u26:=run_underlying L.t26
 have apart:ρ.t 24≠ρ.t 26:=fun e=>by have h:=L.t24;rw[e,L.t26] at h;cases h
 obtain⟨_,_,body⟩:=L.f11
 refine callsIn_of_wp_marks body rfl hf ?_ hro
 simp only[SlBodyZ.n11_ntmps ρ,List.size_toArray,List.length_cons,List.length_nil,Nat.reduceAdd,Nat.reduceSub,Array.replicate_succ,Array.replicate_zero,List.push_toArray,List.append_toArray,List.nil_append,List.cons_append]
 gi_wp2
 refine wpIn_rangeFunc fun fn hfn=> ?_
 rw[hro]
 generalize hA:w.alloc (.cells #[.slice none 0 0] (ρ.t 24))=A
 have sA:A.heap.size=w.heap.size+1:=by rw[←hA];simp
 have bA:Below w.heap.size w A:=by rw[←hA];exact (Below.refl _ w).alloc (Nat.le_refl _) _
 have xA:A.heap[w.heap.size]? =some (.cells #[.slice none 0 0] (ρ.t 24) (0,0)):=by rw[←hA];exact World.alloc_heap_new w _
 generalize hrec:AnyZ.apRec ρ fn (.func (.func g) #[] lb) w.heap.size A.heap.size .ready none=rec
 generalize hB:(A.alloc (.deferred (some []))).alloc (.loop rec)=B
 have oldB: ∀k,k<A.heap.size->B.heap[k]? =A.heap[k]? :=fun k hk=>by rw[←hB];exact (Below.heap_alloc _ _ k (by simp;omega)).trans (Below.heap_alloc _ _ k hk)
 have bB:Below w.heap.size w B:=by rw[←hB];exact (bA.alloc bA.size _).alloc (by have:=bA.size;simp;omega) _
 have dB:B.heap[A.heap.size]? =some (.deferred (some [])):=by rw[←hB];exact (Below.heap_alloc _ _ _ (by simp)).trans (World.alloc_heap_new A _)
 have lB:B.heap[A.heap.size+1]? =some (.loop rec):=by rw[←hB];have:=World.alloc_heap_new (A.alloc (.deferred (some []))) (.loop rec);rwa [World.size_alloc] at this
 have start:AnyZ.ApAt ρ w fn (.func (.func g) #[] lb) w.heap.size (A.heap.size+1) A.heap.size [] B:=
  ⟨⟨_,(oldB _ (by omega)).trans xA,⟨rfl,.inl ⟨rfl,rfl⟩⟩,by simp⟩,by rw[hrec];exact lB,dB,bB⟩
 refine⟨A.heap.size+1,[{target:= .collected A.heap.size,args:= #[]}],B,{target:= .fn (.func g) lb,args:= #[.func (.yield (A.heap.size+1)) #[] #[]]},B,g,#[.func (.yield (A.heap.size+1)) #[] #[]]++lb,B,?_,?_,?_,?_,fun _=>(by omega),?_⟩
 ·rw[←hB,←hrec];exact run_enterLoop_outer _ _ _ _ _
 ·simp[resolve,go_sem]
 ·intro f' h';simp[Target.leads] at h';exact h'▸hg
 ·simp[invoke,go_sem,eg]
 refine (hseq _ (AnyZ.ApAt ρ w fn (.func (.func g) #[] lb) w.heap.size (A.heap.size+1) A.heap.size) B bB (AnyZ.ap_abides ρ _ _ _ _ _ _ _ bB.size) (fun _ _ h=>h.below)
  (fun pre x W h hl=>AnyZ.apYield {L with} F _ w fn hfn _ _ _ _ (by omega) (by omega) (by omega) (Nat.le_refl _) (by omega) ss.length hN hNb pre x W h hl) start).mono ?_
 rintro e C ⟨⟨_,rfl⟩,hC⟩
 obtain⟨v,hv,hrow,_⟩:=hC.box
 have hend:=run_endLoop (P:=P) hC.L (by simp[AnyZ.apRec])
 generalize hD:C.putObj (A.heap.size+1) (.loop {AnyZ.apRec ρ fn (.func (.func g) #[] lb) w.heap.size A.heap.size .ready none with state:= .exhausted})=D at hend
 have rowD:D.ownsRow w.heap.size (ρ.t 26) 1 v ss.length (ss.map encStr):=by rw[←hD];exact z8z hrow hC.L (fun _ h=>by cases h) _
 have boxD:D.heap[w.heap.size]? =some (.cells #[v] (ρ.t 24) (0,0)):=by rw[←hD];exact (World.putObj_heap_other (by omega)).trans hv
 have defD:D.heap[A.heap.size]? =some (.deferred (some [])):=by rw[←hD];exact (World.putObj_heap_other (by omega)).trans hC.K
 have belD:Below w.heap.size w D:=by rw[←hD];exact hC.below.grown (grownBy_putObj_a _ _ _) hC.below.size (fun k h=>by cases h;omega)
 obtain⟨cellD,markD⟩:=cell_of_box_a boxD
 clear hD
 refine⟨none,D,hend,?_⟩
 gi_wp2
 rw[←sA]
 refine⟨by simp,.inl ⟨_,_,rfl,run_takeDeferred defD,?_⟩⟩
 exact⟨_,results_tmp rfl _ _ _,v,rfl,z8z rowD defD (fun _ h=>by cases h) _,belD.grown (grownBy_putObj_a _ _ _) belD.size (fun k h=>by cases h;omega)⟩
end Go.Fl
end
noncomputable section
set_option maxRecDepth 100000
namespace Go.Proofs.YtjepffgpbidclaaGreatDoor
open Go Go.Proofs Go.RowKit Go.Fl Go.Maps Go.Sort Go.Shelf
attribute [local go_sem] Oper.semAt_some
set_option maxHeartbeats 2000000 in
theorem j4c(n:Nat)(hn:1<=n)(w W:World)(l Bs b off cap:Nat)(zs:List (List UInt8))(hreach:zs.length<=140737488355328)(hBs:Bs<w.heap.size)(hb:b<w.heap.size)(J:List (List UInt8)->World->Prop)
  (hJ: ∀pre W1,J pre W1->Below w.heap.size w W1)(hc:w.cell? ⟨Bs,0,none⟩=some (.slice (some ⟨b,off,none⟩) zs.length cap))(hcs: ∀j,j<zs.length->w.cell? ⟨b,off+j,none⟩=some (encStr (zs[j]?.getD [])))
  (hY: ∀pre x W1,J pre W1->pre.length<zs.length->YieldAt Fence.wide (n - 1) Tryz.prog l #[encStr x] W1 fun e W'=>e= .returned (.bool true)/\J (pre++[x]) W'/\KeepsWalks W1 W')(h0:J [] W):
  CallsIn Fence.wide n Tryz.prog 251 #[.func (.yield l) #[] #[],.pointer (some ⟨Bs,0,none⟩)] W fun e W'=>(∃v,e= .returned v)/\J zs W':=by
 have hc0:=((hJ _ _ h0).cell (p:=⟨Bs,0,none⟩) hBs).trans hc
 refine callsIn_of_wp Tryz.func251 rfl trivial ?_ rfl
 simp only[Tryz.ntmps251,List.size_toArray,List.length_cons,List.length_nil,Nat.reduceAdd,Nat.reduceSub,Array.replicate_succ,Array.replicate_zero,List.push_toArray,List.append_toArray,List.nil_append,List.cons_append]
 gi_wp2
 gi_loopw [7] (fun i wr=> ∃k:Nat,k<=zs.length/\i= .int .i64 k/\J (zs.take k) wr) (fun i _=>zs.length - (intOf i).toNat)
 case atStart=>exact⟨0,Nat.zero_le _,rfl,h0⟩
 case round=>
  obtain⟨k,hk,rfl,hJk⟩:=hrel
  by_cases hlt:k<zs.length
  ·have hck:=((hJ _ _ hJk).cell (p:=⟨b,off+k,none⟩) hb).trans (hcs k hlt)
   obtain⟨fn,tmps,assign,body,hy,hR⟩:=hY _ zs[k] wr hJk (by rw[List.length_take];omega)
   gi_wp2
   refine hR.mono ?_
   rintro e W3 ⟨rfl,hJ3,_⟩
   gi_wp2
   go_roundw
   case rel=>exact⟨k+1,by omega,by simp,by rw[List.take_succ_eq_append_getElem hlt];exact hJ3⟩
   case measure=>simp[intOf];omega
  ·obtain rfl:k=zs.length:=by omega
   rw[List.take_length] at hJk
   gi_wp2
   go_end0
   exact⟨⟨_,rfl⟩,hJk⟩
set_option maxHeartbeats 2000000 in
theorem j4d(n:Nat)(w W:World)(l Bs cap:Nat)(a:Option Addr)(hBs:Bs<w.heap.size)(J:List (List UInt8)->World->Prop)(hJ: ∀pre W1,J pre W1->Below w.heap.size w W1)(hc:w.cell? ⟨Bs,0,none⟩=some (.slice a 0 cap))(h0:J [] W):
  CallsIn Fence.wide n Tryz.prog 251 #[.func (.yield l) #[] #[],.pointer (some ⟨Bs,0,none⟩)] W fun e W'=>(∃v,e= .returned v)/\J [] W':=by
 have hc0:=((hJ _ _ h0).cell (p:=⟨Bs,0,none⟩) hBs).trans hc
 refine callsIn_of_wp Tryz.func251 rfl trivial ?_ rfl
 simp only[Tryz.ntmps251,List.size_toArray,List.length_cons,List.length_nil,Nat.reduceAdd,Nat.reduceSub,Array.replicate_succ,Array.replicate_zero,List.push_toArray,List.append_toArray,List.nil_append,List.cons_append]
 gi_wp2
 gi_loopw [7] (fun i wr=>i= .int .i64 0/\J [] wr) (fun _ _=>0)
 case atStart=>exact⟨rfl,h0⟩
 case round=>
  obtain⟨rfl,hJs⟩:=hrel
  gi_wp2
  go_end0
  exact⟨⟨_,rfl⟩,hJs⟩
theorem v2g{σ:Hv}{w:World}(Bs:Nat)(v:Value)(l:List ByteArray)(hV:View σ w)(hB:σ Bs=some (.cells #[v] 55 (0,0)))(hr:RSl 1 (REnc Qf) σ v l)(hs:Sml l.length):
  Calls Tryz.prog 269 #[.slice none 0 0,.func (.func 251) #[] #[.pointer (some ⟨Bs,0,none⟩)]] w fun e w1=> ∃v1,e= .returned v1/\Grow [] σ w σ w1/\((vec v1 9 1 l.length (l.flatMap Qf)).ok w1/\ ∀k,(vec v1 9 1 l.length (l.flatMap Qf)).foot=some k->w.heap.size<=k/\σ k=none):=by
 have hBw:=hV _ _ hB
 have hBl:=lt_of_block hBw
 have hBc:w.cell? ⟨Bs,0,none⟩=some v:=by simp[World.cell?,hBw]
 have hlen:(l.map (·.data.toList)).length=l.length:=List.length_map _
 have hgive:j9s Fence.wide 2 Tryz.prog 251 #[.pointer (some ⟨Bs,0,none⟩)] (l.map (·.data.toList)) w:=by
  intro lp J W _ _ hJB hY h0
  obtain⟨a,cap,rfl,h1,h2,hel⟩:=hr
  cases hl0:l with
  |nil=>
   subst hl0
   exact j4d 2 w W lp Bs cap a hBl J hJB hBc h0
  |cons x l'=>
   obtain⟨ad,cs,rfl,_,hrow0,hcs0⟩:=hel 0 x (by rw[hl0];rfl)
   have cell0:=(hrow0.row hV) 0 _ (by rw[hcs0];rfl)
   obtain⟨ab,ao,asp⟩:=ad
   have hsp:asp=none:=by
    cases asp with
    |none=>rfl
    |some s=>
     have:=hrow0 0 (.string x) (by rw[hcs0];rfl)
     simp[Hv.cell,Addr.add] at this
     split at this<;>simp at this
   subst hsp
   have hbl:ab<w.heap.size:=by
    have:=hrow0 0 (.string x) (by rw[hcs0];rfl)
    simp only[W6] at this
    unfold Hv.cell at this
    simp only at this
    cases hq:σ ab with
    |none=>rw[hq] at this;simp at this
    |some o=>exact lt_of_block (hV _ _ hq)
   rw[←hl0]
   have hcome:=j4c 2 (by omega) w W lp Bs ab ao cap (l.map (·.data.toList)) (by rw[hlen];exact h2) hBl hbl J hJB (by rw[hlen];exact hBc) (fun j hj=>by
    rw[hlen] at hj
    obtain⟨y,hy⟩:=getq hj
    obtain⟨ad',cs',had,_,hrow,hcs⟩:=hel j y hy
    cases had
    have hc:=(hrow.row hV) 0 (.string y) (by rw[hcs];rfl)
    rw[H8,W6] at hc
    rw[List.getElem?_map,hy]
    simpa [encStr] using hc) hY h0
   exact hcome
 refine (callsIn_wide (n:=3)).1 ((z57 (ρ:=Tryz.sorted226_ren) {Tryz.sorted226 with} Fence.wide 3 trivial rfl (by omega) 251 _ trivial (enters_of Tryz.func251 (by kernel_rfl) rfl) (l.map (·.data.toList)) (by rw[hlen];exact (q1l hs (show 16<=32768 by omega)).2) (by rw[hlen];exact (q1l hs (by omega)).1) w hgive).mono ?_)
 rintro e w1 ⟨v1,rfl,hown,hbel⟩
 rw[hlen] at hown
 have hfl:(l.map (·.data.toList)).map encStr=l.flatMap Qf:=(G8 l).symm
 rw[hfl] at hown
 have hsame: ∀b,b<w.heap.size->w1.heap[b]? =w.heap[b]? :=fun b hb=>hbel.block b hb
 refine⟨v1,rfl,⟨⟨hbel.os,hbel.tape,hbel.output,hbel.size,fun k hk _=>hbel.block k hk⟩,fun b o hb=>(hbel.block b (lt_of_block (hV b o hb))).trans (hV b o hb),.refl _,fun _ _ _=>rfl⟩,?_,?_⟩
 ·exact⟨hown.1,hown.2.imp id fun ⟨g,cap,cur,e1,_,e3⟩=>⟨g,cap,cur,e1,Nat.zero_le _,e3⟩⟩
 ·intro k hk
  have hge:w.heap.size<=k:=(hown.lt k hk).1
  refine⟨hge,?_⟩
  cases hq:σ k with
  |none=>rfl
  |some o=>have:=lt_of_block (hV k o hq);omega
end Go.Proofs.YtjepffgpbidclaaGreatDoor
end
noncomputable section
set_option maxRecDepth 100000
namespace Go.Proofs.YtjepffgpbidclaaGreatDoor
open Go Go.Proofs Go.RowKit Go.Fl
set_option maxHeartbeats 2000000 in
theorem q0y{σ:Hv}{w:World}(s_p:(List ByteArray))(v1:Value){K:(List ByteArray)->Prop}(hV:View σ w)(hr1:RSl 1 (REnc Qf) σ v1 s_p)(hP:Zd s_p K):
    Calls Tryz.prog 156 #[v1] w (fun e w1=> ∃(r1:(List ByteArray)) (v2:Value),e= .returned v2/\St ⟨w,σ,[]⟩ w1 σ [vec v2 9 1 r1.length ((r1).flatMap Qf)]/\Sml r1.length/\K r1):=by
 unfold Zd at hP
 obtain⟨a1,cap1,rfl⟩:=hr1.shape
 refine enter Tryz.func156 rfl rfl rfl ?_
 have hS:=St.start hV
 refine Qv (Qw (v:=(.slice none 0 0)) rfl (wpList_nil (Qr (wp_seq (Qv (Q8 (v:=(.slice a1 s_p.length cap1)) rfl ?_))))))
 replace hP:=hP a1.isNone (RSl.isNil hr1)
 obtain⟨r1_,hn1⟩: ∃r:Bool,a1.isNone=r:=⟨_,rfl⟩
 rw[hn1] at hP
 refine w1x Tryz.underlying55 rfl hn1 (wpList_nil (Qr ?_))
 refine if_b rfl (fun ht1=> ?_) (fun ht1=> ?_)
 ·
  replace hP:=hP.1 ht1
  refine Qv (Qw (v:=(.slice none 0 0)) rfl (wpList_nil (Qr (wp_ret (Hm (ret1 rfl (show ev _ _ _=(.slice none 0 0) from rfl) ?_))))))
  have hS1:=hS.addNil 9 1
  exact⟨[],(.slice none 0 0),rfl,(St.back hS1 (Sub.refl _)),(by simp[Sml]),hP⟩
 ·
  replace hP:=hP.2 (by first|(rw[ht1];exact Bool.false_ne_true)|simp[ht1])
  refine wp_skip (Qr (Qv (z4l (cs:=[]) (e:=9) hS (fun _=>by kernel_rfl) ?_)))
  intro b1 w1 hS2
  refine Q8 (v:=(.slice a1 s_p.length cap1)) rfl ?_
  have hS3:=hS2.asVec (i:=0) (ms':=[vec (.slice (some ⟨b1,0,none⟩) 0 0) 9 1 0 []]) (size:=1) rfl rfl (by unfold maxLen;omega) rfl
  obtain⟨hsm1,hP⟩:=hP
  refine w9h (enc:=Qf) (l:=s_p) (Ms:=fun v3=>[vec v3 9 1 s_p.length ((s_p).flatMap Qf)]) (k':=s_p.length) (xs':=(s_p).flatMap Qf) Tryz.underlying55 Tryz.type9 rfl rfl (bytes:=16) rfl rfl (Nat.succ_pos _) hS3 rfl (q:=0) rfl rfl hr1 hS3.view q1k j7y hsm1 (by omega) (by first|rfl|exact List.length_append.symm|simp) (List.nil_append _) (fun _=>rfl) ?_
  intro v3 w2 ho1 hS4
  refine Qw (v:=v3) rfl (wpList_nil (Qr (wp_ret (ret1 rfl (show ev _ _ _=v3 from rfl) ?_))))
  exact⟨s_p,v3,rfl,(St.back hS4 (Sub.refl _)),hsm1,hP⟩
set_option maxHeartbeats 2000000 in
theorem q0z{σ:Hv}{w:World}(s_p:(List ByteArray))(v_p:ByteArray)(v1:Value){K:Int->Prop}(hV:View σ w)(hr1:RSl 1 (REnc Qf) σ v1 s_p)(hP:Ze s_p v_p K):
    Calls Tryz.prog 180 #[v1,(.string v_p)] w (fun e w1=> ∃(r1:Int),e= .returned (.int .i64 r1)/\Grow [] σ w σ w1/\K r1):=by
 unfold Ze at hP
 obtain⟨a1,cap1,rfl⟩:=hr1.shape
 refine enter Tryz.func180 rfl rfl rfl ?_
 have hS:=St.start hV
 refine Qv (Qw (v:=(.int .i64 (0:Int))) rfl (wpList_nil (Qr (wp_seq (Qv (Q8 (v:=(.slice a1 s_p.length cap1)) rfl (q6f rfl Tryz.underlying55 ?_)))))))
 have hlen1:=RSl.len63 hr1
 replace hP:=hP hlen1
 refine Q8 (v:=(.int .i64 (0:Int))) rfl (wpList_nil (Qr (wp_block ?_)))
 refine z9a (fun k_2 f z=> ∃(σ1:Hv) (g:Fr),f=(upd (upd (upd (upd g 0 (.slice a1 s_p.length cap1)) 1 (.string v_p)) 7 (.int .i64 ((s_p.length:Nat):Int))) 8 (.int .i64 ((k_2:Nat):Int)))/\St ⟨w,σ,[]⟩ z σ1 []/\Sub σ σ1) hP ⟨σ,_,(Zu rfl (Zu rfl (Zu rfl (Zu rfl rfl)))),hS,(Sub.refl _)⟩ ?_
 clear hP
 rintro k_2 Y1 hP f w1 ⟨σ1,g,rfl,hS1,hsub1⟩
 refine Qv (j7o (r:=(decide (((k_2:Nat):Int)<((s_p.length:Nat):Int)))) rfl rfl rfl (wpList_nil (Qr (wp_seq ?_))))
 refine if_d (((k_2:Nat):Int)<((s_p.length:Nat):Int)) rfl (fun ht1=> ?_) (fun ht1=> ?_)
 ·
  replace hP:=hP.1 ht1
  refine wp_skip (Qr (wp_seq (wp_block (Qv (Q8 (v:=(.int .i64 ((k_2:Nat):Int))) rfl (Qw (v:=(.int .i64 ((k_2:Nat):Int))) rfl (wpList_nil (Qr (Qv (Q8 (v:=(.string v_p)) rfl (Q8 (v:=(.slice a1 s_p.length cap1)) rfl (Q8 (v:=(.int .i64 ((k_2:Nat):Int))) rfl ?_))))))))))))
  obtain⟨x1_,hx1⟩:=getq (l:=s_p) (k:=k_2) (by have:=ht1;omega)
  replace hP:=hP x1_ hx1
  obtain⟨ad1,cs1,ha1,hl1,hr2,hR1,hlt1⟩:=RSl.at hr1 hx1
  cases hR1
  refine G7 (k:=k_2) (a':=(ad1.add (k_2*1))) (congrArg (fun z=>Value.slice z _ _) ha1) rfl rfl hlt1 Tryz.underlying55 Tryz.sizeOf9 rfl (q3p (v:=(.string x1_)) rfl Tryz.isAgg9 (hr2.cell (View.of hsub1 hS1.view) 0 rfl rfl) (w9a (r:=(decide (v_p=x1_))) rfl rfl rfl (wpList_nil (Qr ?_))))
  refine if_d (v_p=x1_) rfl (fun ht2=> ?_) (fun ht2=> ?_)
  ·
   replace hP:=hP.1 ht2
   refine Qv (Q8 (v:=(.int .i64 ((k_2:Nat):Int))) rfl (Qw (v:=(.int .i64 ((k_2:Nat):Int))) rfl (wpList_nil (Qr (wp_ret (z3s (Hm (Hm (z3s (Hm (ret1 rfl (show ev _ _ _=(.int .i64 ((k_2:Nat):Int)) from rfl) ?_)))))))))))
   exact⟨((k_2:Nat):Int),rfl,hS1.done.forget,hP⟩
  ·
   replace hP:=hP.2 ht2
   refine wp_skip (j6l (Qr (z2c (j6k (r:=((k_2+1:Nat):Int)) rfl rfl (nw (by omega) (by omega) (by have:=hlen1;omega)) (Q8 (v:=(.int .i64 ((k_2+1:Nat):Int))) rfl (wpList_nil (Qr ?_)))))))
   exact⟨k_2+1,_,rfl,hP,σ1,_,(Zu rfl (Zu rfl (Zu rfl (Zu rfl rfl)))),hS1,hsub1⟩
 ·
  replace hP:=hP.2 ht1
  refine wp_exit (q9q (q9q (z45 (Qr (Qv (Qw (v:=(.int .i64 (-1:Int))) rfl (wpList_nil (Qr (wp_ret (ret1 rfl (show ev _ _ _=(.int .i64 (-1:Int)) from rfl) ?_))))))))))
  exact⟨(-1:Int),rfl,hS1.done.forget,hP⟩
set_option maxHeartbeats 2000000 in
theorem Wy{σ:Hv}{w:World}(s_p:(List ByteArray))(v_p:ByteArray)(v1:Value){K:Bool->Prop}(hV:View σ w)(hr1:RSl 1 (REnc Qf) σ v1 s_p)(hP:Qz s_p v_p K):
    Calls Tryz.prog 142 #[v1,(.string v_p)] w (fun e w1=> ∃(r1:Bool),e= .returned (.bool (r1))/\Grow [] σ w σ w1/\K r1):=by
 unfold Qz at hP
 obtain⟨a1,cap1,rfl⟩:=hr1.shape
 refine enter Tryz.func142 rfl rfl rfl ?_
 have hS:=St.start hV
 refine Qv (Qw (v:=(.bool false)) rfl (wpList_nil (Qr (Qv (Q8 (v:=(.slice a1 s_p.length cap1)) rfl (Q8 (v:=(.string v_p)) rfl ?_))))))
 obtain⟨Y1,hK1,hc1⟩:=hP
 refine q4o (args:=[(.slice a1 s_p.length cap1),(.string v_p)]) rfl Tryz.call180 (Calls.mono (q0z s_p v_p (.slice a1 s_p.length cap1) hS.view hr1 hc1) ?_)
 rintro _ w1 ⟨r1_,rfl,hg1,hY1⟩
 refine⟨_,rfl,?_⟩
 have hS1:=hS.grow hg1
 replace hP:=hK1 r1_ hY1
 refine w89 (r:=(decide ((0:Int)<=r1_))) rfl rfl rfl (Qw (v:=(.bool (decide ((0:Int)<=r1_)))) rfl (wpList_nil (Qr (wp_ret (ret1 rfl (show ev _ _ _=(.bool (decide ((0:Int)<=r1_))) from rfl) ?_)))))
 exact⟨(decide ((0:Int)<=r1_)),rfl,hS1.done.forget,hP⟩
set_option maxHeartbeats 2000000 in
theorem w_graph_Order{σ:Hv}{w:World}(nodes_p:(List ByteArray))(edges_p:(List (ByteArray×ByteArray)))(v1:Value)(v2:Value){K:(List ByteArray)->Int->Prop}(hV:View σ w)(hr1:RSl 1 (REnc Qf) σ v1 nodes_p)(hr2:RSl 2 (REnc w9i) σ v2 edges_p)(hP:P_graph_Order nodes_p edges_p K):
    Calls Tryz.prog 191 #[v1,v2] w (fun e w1=> ∃(r1:(List ByteArray)) (r2:Int) (v3:Value),e= .returned (.tuple #[v3,(.int .i64 r2)])/\St ⟨w,σ,[]⟩ w1 σ [vec v3 9 1 r1.length ((r1).flatMap Qf)]/\Sml r1.length/\K r1 r2):=by
 unfold P_graph_Order at hP
 obtain⟨a1,cap1,rfl⟩:=hr1.shape
 obtain⟨a2,cap2,rfl⟩:=hr2.shape
 refine enter Tryz.func191 rfl rfl rfl ?_
 have hS:=St.start hV
 refine Qv (Qw (v:=(.slice none 0 0)) rfl (Qw (v:=(.int .i64 (0:Int))) rfl (wpList_nil (Qr (Qv (Q8 (v:=(.slice a1 nodes_p.length cap1)) rfl (q4o (args:=[(.slice a1 nodes_p.length cap1)]) rfl Tryz.call227 ?_)))))))
 refine enter Tryz.func227 rfl rfl rfl ?_
 refine Qv (v1i (cs:=[(.slice a1 nodes_p.length cap1)]) hS rfl rfl ?_)
 intro b1 w1 hS1
 refine Qw (v:= .nilFunc) rfl (wpList_nil (Qr (Qv (z2d (la:=[]) (lb:=[(.pointer (some ⟨b1,0,none⟩))]) rfl rfl (Qw (v:=(.func (.func 251) #[] #[(.pointer (some ⟨b1,0,none⟩))])) rfl (wpList_nil (Qr (wp_ret (ret1 rfl (show ev _ _ _=(.func (.func 251) #[] #[(.pointer (some ⟨b1,0,none⟩))]) from rfl) ?_)))))))))
 refine⟨_,rfl,?_⟩
 refine q4o (args:=[(.func (.func 251) #[] #[(.pointer (some ⟨b1,0,none⟩))])]) rfl Tryz.call226 ?_
 refine enter Tryz.func226 rfl rfl rfl ?_
 refine Qv (Qw (v:=(.slice none 0 0)) rfl (wpList_nil (Qr (Qv (Q8 (v:=(.func (.func 251) #[] #[(.pointer (some ⟨b1,0,none⟩))])) rfl (q4o (args:=[(.func (.func 251) #[] #[(.pointer (some ⟨b1,0,none⟩))])]) rfl Tryz.call250 ?_))))))
 refine enter Tryz.func250 rfl rfl rfl ?_
 refine Qv (Qw (v:=(.slice none 0 0)) rfl (wpList_nil (Qr (Qv (Q8 (v:=(.func (.func 251) #[] #[(.pointer (some ⟨b1,0,none⟩))])) rfl ?_)))))
 obtain⟨σ1,hS2,hsub1,hfr1⟩:=hS1.freeze' (i:=0) rfl rfl
 have hB1:σ1 b1=some (.cells #[(.slice a1 nodes_p.length cap1)] 55 (0,0)):=(hfr1 _ rfl).trans (hS1.get (i:=0) rfl)
 obtain⟨hsm1,hP⟩:=hP
 refine q4o (args:=[(.slice none 0 0),(.func (.func 251) #[] #[(.pointer (some ⟨b1,0,none⟩))])]) rfl Tryz.call269 (Calls.mono (v2g b1 (.slice a1 nodes_p.length cap1) nodes_p hS2.view hB1 (RSl.menc hsub1 hr1) hsm1) ?_)
 rintro _ w2 ⟨v4,rfl,hg1,ho1⟩
 refine⟨_,rfl,?_⟩
 have hS3:=hS2.growAdd hg1 (o:=vec v4 9 1 nodes_p.length ((nodes_p).flatMap Qf)) ho1
 refine Qw (v:=v4) rfl (wpList_nil (Qr (wp_ret (ret1 rfl (show ev _ _ _=v4 from rfl) ?_))))
 refine⟨_,rfl,?_⟩
 refine Qw (v:=v4) rfl (wpList_nil (Qr (Qv (Q8 (v:=v4) rfl ?_))))
 refine q4o (args:=[v4]) rfl Tryz.call93 (Calls.mono (j44 Tryz.slices_Sort_string Tryz.slices_Sort_string_none hS3.view (hS3.get (i:=0) rfl) rfl (fun b hb=>hS3.off _ (List.mem_of_getElem? (i:=0) rfl) b hb) (by have:=hsm1;unfold Sml at this;omega)) ?_)
 rintro _ w3 ⟨rfl,hg2,ho2⟩
 refine⟨_,rfl,?_⟩
 have hS4:=hS3.growV (i:=0) (o':=vec v4 9 1 nodes_p.length ((srt nodes_p).flatMap Qf)) rfl hg2 rfl ho2 (ms':=[vec v4 9 1 nodes_p.length ((srt nodes_p).flatMap Qf)]) rfl
 have hS5:=hS4.re (ms':=[vec v4 9 1 ((srt nodes_p).length) ((srt nodes_p).flatMap Qf)]) (by simp only[Jq])
 refine wpList_nil (Qr (Qv (Q8 (v:=v4) rfl (Qw (v:=v4) rfl (wpList_nil (Qr (wp_ret (ret1 rfl (show ev _ _ _=v4 from rfl) ?_))))))))
 refine⟨_,rfl,?_⟩
 refine Qw (v:=v4) rfl (wpList_nil (Qr (wp_seq (Qv (Q8 (v:=v4) rfl ?_)))))
 obtain⟨σ2,hS6,hsub2,hr4⟩:=hS5.peek (i:=0) rfl q1k (show Sml (srt nodes_p).length by rw[Jq];exact hsm1)
 obtain⟨Y1,hK1,hc1⟩:=hP
 refine q4o (args:=[v4]) rfl Tryz.call156 (Calls.mono (q0y (srt nodes_p) v4 hS6.view hr4 hc1) ?_)
 rintro _ w4 ⟨r1_,v5,rfl,hg3,hl1,hY1⟩
 refine⟨_,rfl,?_⟩
 have hS7:=St.callM (ins:=[]) (rest:=[vec v4 9 1 ((srt nodes_p).length) ((srt nodes_p).flatMap Qf)]) (ms':=[vec v5 9 1 r1_.length ((r1_).flatMap Qf),vec v4 9 1 ((srt nodes_p).length) ((srt nodes_p).flatMap Qf)]) hS5 (St.back hg3 hsub2) rfl
 replace hP:=hK1 r1_ hY1
 obtain⟨hsm2,hP⟩:=hP
 refine q4o (args:=[v5]) rfl Tryz.call94 (Calls.mono (z5e Tryz.slices_Compact_string Tryz.slices_Compact_string_empty hS7.view (hS7.get (i:=0) rfl) rfl (fun b hb=>hS7.off _ (List.mem_of_getElem? (i:=0) rfl) b hb) (by have:=hl1;unfold Sml at this;omega)) ?_)
 rintro _ w5 ⟨v6,rfl,hf1,hg4,ho3⟩
 refine⟨_,rfl,?_⟩
 have ho4:=Ho ho3
 have hS8:=hS7.growV (i:=0) (o':=vec v6 9 1 ((cpt r1_).length) ((cpt r1_).flatMap Qf)) rfl hg4 hf1 ho3 (ms':=[vec v6 9 1 ((cpt r1_).length) ((cpt r1_).flatMap Qf),vec v4 9 1 ((srt nodes_p).length) ((srt nodes_p).flatMap Qf)]) rfl
 refine z0x hS8 rfl (i:=0) rfl Tryz.underlying55 ?_
 have hlen1:(cpt r1_).length<=9223372036854775807:=by have:=hsm2;unfold Sml at this;omega
 replace hP:=hP hlen1
 refine Q8 (v:=v4) rfl (z0x hS8 rfl (i:=1) rfl Tryz.underlying55 ?_)
 have hlen2:(srt nodes_p).length<=9223372036854775807:=by have:=(show Sml (srt nodes_p).length by rw[Jq];exact hsm1);unfold Sml at this;omega
 replace hP:=hP hlen2
 refine v1g (r:=(!decide ((((cpt r1_).length:Nat):Int)=(((srt nodes_p).length:Nat):Int)))) rfl rfl rfl (wpList_nil (Qr ?_))
 refine w9b ((((cpt r1_).length:Nat):Int)=(((srt nodes_p).length:Nat):Int)) rfl (fun ht1=> ?_) (fun ht1=> ?_)
 ·
  replace hP:=hP.2 ht1
  refine Qv (Qw (v:=(.slice none 0 0)) rfl (Qw (v:=(.int .i64 (10:Int))) rfl (wpList_nil (Qr (wp_ret (Hm (ret2 rfl (show ev _ _ _=(.slice none 0 0) from rfl) (show ev _ _ _=(.int .i64 (10:Int)) from rfl) ?_)))))))
  have hS9:=hS8.addNil 9 1
  exact⟨[],(10:Int),(.slice none 0 0),rfl,(St.back (hS9.keep 1 (ms':=[vec (.slice none 0 0) 9 1 0 []]) rfl) (Sub.refl _)),(by simp[Sml]),hP⟩
 ·
  replace hP:=hP.1 ht1
  refine wp_skip (Qr (Qv (j6p 9 1 Qf hS8 ?_)))
  intro b2 w6 hS10
  refine j3l (cs:=[(.map none)]) hS10 Tryz.zeroValue335 rfl ?_
  intro b3 w7 hS11
  refine j3k (T:=335) (vs:=[(.map (some b2))]) (cs':=[(.map (some b2))]) (ms':=(blk b3 335 [(.map (some b2))]::smap b2 (asl [])::vec v6 9 1 ((cpt r1_).length) ((cpt r1_).flatMap Qf)::vec v4 9 1 ((srt nodes_p).length) ((srt nodes_p).flatMap Qf)::Hx 9 1 Qf [])) (i:=0) hS11 rfl rfl rfl Tryz.sizeOf335 rfl (ones rfl) rfl (Nat.le_of_ble_eq_true rfl) rfl rfl ?_
  intro w8 hS12
  refine wpList_nil (Qr (wp_seq (Qv (Q8 (v:=(.slice a2 edges_p.length cap2)) rfl (q6f rfl Tryz.underlying278 ?_)))))
  have hlen3:=RSl.len63 hr2
  replace hP:=hP hlen3
  refine Q8 (v:=(.int .i64 (0:Int))) rfl (wpList_nil (Qr (wp_block ?_)))
  have hS13:=hS12.front 3 rfl (ms':=(vec v4 9 1 ((srt nodes_p).length) ((srt nodes_p).flatMap Qf)::blk b3 335 [(.map (some b2))]::smap b2 (asl [])::vec v6 9 1 ((cpt r1_).length) ((cpt r1_).flatMap Qf)::Hx 9 1 Qf [])) rfl
  have hS14:=hS13.front 3 rfl (ms':=(vec v6 9 1 ((cpt r1_).length) ((cpt r1_).flatMap Qf)::vec v4 9 1 ((srt nodes_p).length) ((srt nodes_p).flatMap Qf)::blk b3 335 [(.map (some b2))]::smap b2 (asl [])::Hx 9 1 Qf [])) rfl
  have hS15:=hS14.front 2 rfl (ms':=(blk b3 335 [(.map (some b2))]::vec v6 9 1 ((cpt r1_).length) ((cpt r1_).flatMap Qf)::vec v4 9 1 ((srt nodes_p).length) ((srt nodes_p).flatMap Qf)::smap b2 (asl [])::Hx 9 1 Qf [])) rfl
  have hS16:=hS15.front 3 rfl (ms':=(smap b2 (asl [])::blk b3 335 [(.map (some b2))]::vec v6 9 1 ((cpt r1_).length) ((cpt r1_).flatMap Qf)::vec v4 9 1 ((srt nodes_p).length) ((srt nodes_p).flatMap Qf)::Hx 9 1 Qf [])) rfl
  refine w1u (fun k_3 F_2 f z=> ∃(es2:EL ByteArray) (σ3:Hv) (g:Fr),f=(upd (upd (upd (upd (upd g 6 v4) 7 (.pointer (some ⟨b3,0,none⟩))) 24 (.slice a2 edges_p.length cap2)) 25 (.int .i64 ((edges_p.length:Nat):Int))) 26 (.int .i64 ((k_3:Nat):Int)))/\St ⟨w,σ,[]⟩ z σ3 (smap b2 (asl es2)::blk b3 335 [(.map (some b2))]::vec v6 9 1 ((cpt r1_).length) ((cpt r1_).flatMap Qf)::vec v4 9 1 ((srt nodes_p).length) ((srt nodes_p).flatMap Qf)::Hx 9 1 Qf es2)/\Sub σ1 σ3/\ELF es2 F_2) hP ⟨[],σ1,_,(Zu rfl (Zu rfl (Zu rfl (Zu rfl (Zu rfl rfl))))),hS16,(Sub.refl _),ELF.nil⟩ ?_
  clear hP
  rintro k_3 F_2 Y2 hP f w9 ⟨es2,σ3,g,rfl,hS17,hsub3,hF2⟩
  refine Qv (j7o (r:=(decide (((k_3:Nat):Int)<((edges_p.length:Nat):Int)))) rfl rfl rfl (wpList_nil (Qr (wp_seq ?_))))
  refine if_d (((k_3:Nat):Int)<((edges_p.length:Nat):Int)) rfl (fun ht2=> ?_) (fun ht2=> ?_)
  ·
   replace hP:=hP.1 ht2
   refine wp_skip (Qr (wp_seq (wp_block (Qv ?_))))
   obtain⟨x1_,hx1⟩:=getq (l:=edges_p) (k:=k_3) (by have:=ht2;omega)
   replace hP:=hP x1_ hx1
   obtain⟨ad1,cs1,ha1,hl2,hr6,hR1,hlt1⟩:=RSl.at hr2 hx1
   cases hR1
   refine G7 (k:=k_3) (a':=(ad1.add (k_3*2))) (congrArg (fun z=>Value.slice z _ _) ha1) rfl rfl hlt1 Tryz.underlying278 Tryz.sizeOf297 rfl (w52 (cs:=[(.string x1_.1),(.string x1_.2)]) rfl Tryz.isAgg297 Tryz.sizeOf297 rfl (hr6.row (View.of (Sub.trans hsub1 hsub3) hS17.view)) (j3l (cs:=[(.string (⟨#[]⟩:ByteArray)),(.string (⟨#[]⟩:ByteArray))]) hS17 Tryz.zeroValue297 rfl ?_))
   intro b4 w10 hS18
   refine j3k (T:=297) (vs:=[(.string x1_.1),(.string x1_.2)]) (cs':=[(.string x1_.1),(.string x1_.2)]) (ms':=(blk b4 297 [(.string x1_.1),(.string x1_.2)]::smap b2 (asl es2)::blk b3 335 [(.map (some b2))]::vec v6 9 1 ((cpt r1_).length) ((cpt r1_).flatMap Qf)::vec v4 9 1 ((srt nodes_p).length) ((srt nodes_p).flatMap Qf)::Hx 9 1 Qf es2)) (i:=0) hS18 rfl rfl rfl Tryz.sizeOf297 rfl (ones rfl) rfl (Nat.le_of_ble_eq_true rfl) rfl rfl ?_
   intro w11 hS19
   refine wpList_nil (Qr (wp_seq (Qv (Q8 (v:=v4) rfl (z43 (a':=⟨b4,0,none⟩) rfl Tryz.underlying297 rfl Tryz.sizeOf9 rfl (q3p (v:=(.string x1_.1)) rfl Tryz.isAgg9 (hS19.cell (i:=0) rfl rfl) ?_))))))
   obtain⟨σ4,hS20,hsub4,hr7⟩:=hS19.peek (i:=4) rfl q1k (show Sml (srt nodes_p).length by rw[Jq];exact hsm1)
   obtain⟨Y3,hK2,hc2⟩:=hP
   refine q4o (args:=[v4,(.string x1_.1)]) rfl Tryz.call142 (Calls.mono (Wy (srt nodes_p) x1_.1 v4 hS20.view hr7 hc2) ?_)
   rintro _ w12 ⟨r2_,rfl,hg5,hY2⟩
   refine⟨_,rfl,?_⟩
   have hg5b:=hg5.back hsub4
   have hS21:=hS19.grow hg5b
   replace hP:=hK2 r2_ hY2
   refine w1o (r:=(!r2_)) rfl rfl ?_
   rcases Bool.eq_false_or_eq_true (r2_) with hb1|hb1
   ·
    replace hP:=hP.1 hb1
    refine Q8 (v:=(.bool false)) (congrArg Value.bool (congrArg Bool.not hb1)) (o_on rfl rfl (Q8 (v:=v4) rfl (o_on rfl rfl (z43 (a':=⟨b4,1,none⟩) rfl Tryz.underlying297 rfl Tryz.sizeOf9 rfl (o_on rfl rfl (q3p (v:=(.string x1_.2)) rfl Tryz.isAgg9 (hS21.cell (i:=0) rfl rfl) (o_on rfl rfl ?_)))))))
    obtain⟨σ5,hS22,hsub5,hr8⟩:=hS21.peek (i:=4) rfl q1k (show Sml (srt nodes_p).length by rw[Jq];exact hsm1)
    obtain⟨Y4,hK3,hc3⟩:=hP
    refine q4o (args:=[v4,(.string x1_.2)]) rfl Tryz.call142 (Calls.mono (Wy (srt nodes_p) x1_.2 v4 hS22.view hr8 hc3) ?_)
    rintro _ w13 ⟨r3_,rfl,hg6,hY3⟩
    refine⟨_,rfl,?_⟩
    have hg6b:=hg6.back hsub5
    have hS23:=hS21.grow hg6b
    replace hP:=hK3 r3_ hY3
    refine o_on rfl rfl (w1o (r:=(!r3_)) rfl rfl (w1m (v:=(.bool (!r3_))) rfl rfl (wpList_nil (Qr ?_))))
    refine w9c rfl (fun ht3=> ?_) (fun ht3=> ?_)
    ·
     replace hP:=hP.2 (by first|(rw[ht3];exact Bool.false_ne_true)|simp[ht3])
     refine Qv (Qw (v:=(.slice none 0 0)) rfl (Qw (v:=(.int .i64 (11:Int))) rfl (wpList_nil (Qr (wp_ret (Hm (z3s (Hm (Hm (z3s (Hm (ret2 rfl (show ev _ _ _=(.slice none 0 0) from rfl) (show ev _ _ _=(.int .i64 (11:Int)) from rfl) ?_))))))))))))
     have hS24:=hS23.addNil 9 1
     exact⟨[],(11:Int),(.slice none 0 0),rfl,(St.back (hS24.keep 1 (ms':=[vec (.slice none 0 0) 9 1 0 []]) rfl) (Sub.refl _)),(by simp[Sml]),hP⟩
    ·
     replace hP:=hP.1 ht3
     refine wp_skip (Qr (dr (fun z=>St ⟨w,σ,[]⟩ z σ3 [blk b4 297 [(.string x1_.1),(.string x1_.2)],blk b3 335 [(.map (some b2))],vec v6 9 1 ((cpt r1_).length) ((cpt r1_).flatMap Qf),vec v4 9 1 ((srt nodes_p).length) ((srt nodes_p).flatMap Qf)]) (by kernel_rfl) rfl ?_))
     have hS25:=hS23.drew
     refine dt 0 1 (v:=(.map (some b2))) (by kernel_rfl) rfl rfl (fun _ _ _ h=>h) (hS25.sublist (.cons_cons _ (.cons _ (.cons_cons _ (.cons_cons _ (.cons_cons _ (List.nil_sublist _))))))) (fun _ hJ _ hK=>q3p (v:=(.map (some b2))) rfl Tryz.isAgg335 (hJ.cell (i:=1) rfl rfl) ⟨rfl,hK⟩) (dt 1 3 (v:=(.pointer (some ⟨b4,0,none⟩))) (by kernel_rfl) rfl rfl (fun _ _ _ h=>h) (hS25.sublist (.cons_cons _ (.cons _ (.cons_cons _ (.cons_cons _ (.cons_cons _ (List.nil_sublist _))))))) (fun _ _ _ hK=>z43 (a':=⟨b4,0,none⟩) rfl Tryz.underlying297 rfl Tryz.sizeOf9 rfl ⟨rfl,hK⟩) (dt 2 7 (v:=(.string x1_.1)) (by kernel_rfl) rfl rfl (fun _ _ _ h=>h) (hS25.sublist (.cons_cons _ (.cons _ (.cons_cons _ (.cons_cons _ (.cons_cons _ (List.nil_sublist _))))))) (fun _ hJ _ hK=>q3p (v:=(.string x1_.1)) rfl Tryz.isAgg9 (hJ.cell (i:=0) rfl rfl) ⟨rfl,hK⟩) (dt 3 15 (v:=(.map (some b2))) (by kernel_rfl) rfl rfl (fun _ _ _ h=>h) (hS25.sublist (.cons_cons _ (.cons _ (.cons_cons _ (.cons_cons _ (.cons_cons _ (List.nil_sublist _))))))) (fun _ hJ _ hK=>q3p (v:=(.map (some b2))) rfl Tryz.isAgg335 (hJ.cell (i:=1) rfl rfl) ⟨rfl,hK⟩) (dt 4 31 (v:=(.pointer (some ⟨b4,0,none⟩))) (by kernel_rfl) rfl rfl (fun _ _ _ h=>h) (hS25.sublist (.cons_cons _ (.cons _ (.cons_cons _ (.cons_cons _ (.cons_cons _ (List.nil_sublist _))))))) (fun _ _ _ hK=>z43 (a':=⟨b4,0,none⟩) rfl Tryz.underlying297 rfl Tryz.sizeOf9 rfl ⟨rfl,hK⟩) (dt 5 63 (v:=(.string x1_.1)) (by kernel_rfl) rfl rfl (fun _ _ _ h=>h) (hS25.sublist (.cons_cons _ (.cons _ (.cons_cons _ (.cons_cons _ (.cons_cons _ (List.nil_sublist _))))))) (fun _ hJ _ hK=>q3p (v:=(.string x1_.1)) rfl Tryz.isAgg9 (hJ.cell (i:=0) rfl rfl) ⟨rfl,hK⟩) (dt 7 191 (v:=(.pointer (some ⟨b4,1,none⟩))) (by kernel_rfl) rfl rfl (fun _ _ _ h=>h) (hS25.sublist (.cons_cons _ (.cons _ (.cons_cons _ (.cons_cons _ (.cons_cons _ (List.nil_sublist _))))))) (fun _ _ _ hK=>z43 (a':=⟨b4,1,none⟩) rfl Tryz.underlying297 rfl Tryz.sizeOf9 rfl ⟨rfl,hK⟩) (dt 8 447 (v:=(.string x1_.2)) (by kernel_rfl) rfl rfl (fun _ _ _ h=>h) (hS25.sublist (.cons_cons _ (.cons _ (.cons_cons _ (.cons_cons _ (.cons_cons _ (List.nil_sublist _))))))) (fun _ hJ _ hK=>q3p (v:=(.string x1_.2)) rfl Tryz.isAgg9 (hJ.cell (i:=0) rfl rfl) ⟨rfl,hK⟩) ?_)))))))
     refine d2 6 9 511 959 (by kernel_rfl) rfl rfl rfl rfl ?_ ?_
     ·
      obtain⟨v7,hv1⟩: ∃v,(asl es2 x1_.1).getD (.slice none 0 0)=v:=⟨_,rfl⟩
      refine j7x (i:=1) (v:=v7) hS25 rfl rfl rfl Tryz.underlying335 Tryz.underlying9 Tryz.zeroValue55 hv1 (wpList_nil ?_)
      refine⟨rfl,(hS25.sublist (.cons_cons _ (.cons _ (.cons_cons _ (.cons_cons _ (.cons_cons _ (List.nil_sublist _))))))),?_⟩
      refine d1 9 1023 (by kernel_rfl) rfl (z4l (cs:=[(.string x1_.2)]) (e:=9) hS25 (fun _=>by kernel_rfl) ?_)
      intro b5 w14 hS26
      refine wpList_nil ?_
      refine⟨rfl,(hS26.sublist (.cons _ (.cons_cons _ (.cons _ (.cons_cons _ (.cons_cons _ (.cons_cons _ (List.nil_sublist _)))))))),?_⟩
      refine d1 10 2047 (by kernel_rfl) rfl ?_
      obtain⟨es3,hS27,hL1,hl3⟩:=St.borrow (ms:=[blk b5 9 [(.string x1_.2)],blk b4 297 [(.string x1_.1),(.string x1_.2)],smap b2 (asl es2),blk b3 335 [(.map (some b2))],vec v6 9 1 ((cpt r1_).length) ((cpt r1_).flatMap Qf),vec v4 9 1 ((srt nodes_p).length) ((srt nodes_p).flatMap Qf)]) hS26 hF2 x1_.1 hv1
      obtain⟨hsm3,hP⟩:=hP
      refine w59 (Ms:=fun v8=>(vec v8 9 1 ((((F_2 x1_.1).getD [])++[x1_.2]).length) ((((F_2 x1_.1).getD [])++[x1_.2]).flatMap Qf)::blk b5 9 [(.string x1_.2)]::blk b4 297 [(.string x1_.1),(.string x1_.2)]::smap b2 (asl es2)::blk b3 335 [(.map (some b2))]::vec v6 9 1 ((cpt r1_).length) ((cpt r1_).flatMap Qf)::vec v4 9 1 ((srt nodes_p).length) ((srt nodes_p).flatMap Qf)::Hx 9 1 Qf es3)) (k':=(((F_2 x1_.1).getD [])++[x1_.2]).length) (xs':=(((F_2 x1_.1).getD [])++[x1_.2]).flatMap Qf) Tryz.underlying55 Tryz.type9 rfl rfl (bytes:=16) rfl rfl (Nat.succ_pos _) hS27 rfl (q:=0) rfl rfl rfl (q49 (hS27.get (i:=1) rfl)) (ones rfl) hsm3 (by omega) (by first|rfl|exact List.length_append.symm|simp) (by simp[Qf]) (fun _=>rfl) ?_
      intro v8 w15 ho5 hS28
      have hS29:=hS28.drop 1 (ms':=(vec v8 9 1 ((((F_2 x1_.1).getD [])++[x1_.2]).length) ((((F_2 x1_.1).getD [])++[x1_.2]).flatMap Qf)::blk b4 297 [(.string x1_.1),(.string x1_.2)]::smap b2 (asl es2)::blk b3 335 [(.map (some b2))]::vec v6 9 1 ((cpt r1_).length) ((cpt r1_).flatMap Qf)::vec v4 9 1 ((srt nodes_p).length) ((srt nodes_p).flatMap Qf)::Hx 9 1 Qf es3)) rfl
      refine wpList_nil ?_
      refine⟨rfl,(hS29.sublist (.cons _ (.cons_cons _ (.cons _ (.cons_cons _ (.cons_cons _ (.cons_cons _ (List.nil_sublist _)))))))),?_⟩
      refine d1 11 4095 (by kernel_rfl) rfl (w56 (v:=v8) (i:=2) (ms':=(vec v8 9 1 ((((F_2 x1_.1).getD [])++[x1_.2]).length) ((((F_2 x1_.1).getD [])++[x1_.2]).flatMap Qf)::blk b4 297 [(.string x1_.1),(.string x1_.2)]::smap b2 (fun k'=>if k'=x1_.1 then some v8 else asl es2 k')::blk b3 335 [(.map (some b2))]::vec v6 9 1 ((cpt r1_).length) ((cpt r1_).flatMap Qf)::vec v4 9 1 ((srt nodes_p).length) ((srt nodes_p).flatMap Qf)::Hx 9 1 Qf es3)) hS29 rfl rfl rfl rfl Tryz.underlying335 Tryz.underlying9 rfl ?_)
      intro w16 hS30
      have hS32:=St.giveback (ms:=[blk b4 297 [(.string x1_.1),(.string x1_.2)],smap b2 (fun k'=>if k'=x1_.1 then some v8 else asl es2 k'),blk b3 335 [(.map (some b2))],vec v6 9 1 ((cpt r1_).length) ((cpt r1_).flatMap Qf),vec v4 9 1 ((srt nodes_p).length) ((srt nodes_p).flatMap Qf)]) (ms':=[blk b4 297 [(.string x1_.1),(.string x1_.2)],smap b2 (asl ((x1_.1,v8,((F_2 x1_.1).getD [])++[x1_.2])::es3)),blk b3 335 [(.map (some b2))],vec v6 9 1 ((cpt r1_).length) ((cpt r1_).flatMap Qf),vec v4 9 1 ((srt nodes_p).length) ((srt nodes_p).flatMap Qf)]) (i:=1) hS30 hL1 rfl rfl
      have hF3:=ELF.put (v:=v8) hF2 hL1 hsm3
      refine wpList_nil ?_
      refine⟨rfl,(hS32.sublist (.cons_cons _ (.cons _ (.cons_cons _ (.cons_cons _ (.cons_cons _ (List.nil_sublist _))))))),z4m (J':=fun z=>St ⟨w,σ,[]⟩ z σ3 (blk b4 297 [(.string x1_.1),(.string x1_.2)]::smap b2 (asl ((x1_.1,v8,((F_2 x1_.1).getD [])++[x1_.2])::es3))::blk b3 335 [(.map (some b2))]::vec v6 9 1 ((cpt r1_).length) ((cpt r1_).flatMap Qf)::vec v4 9 1 ((srt nodes_p).length) ((srt nodes_p).flatMap Qf)::Hx 9 1 Qf ((x1_.1,v8,((F_2 x1_.1).getD [])++[x1_.2])::es3))) (fun w h=>h.sublist (.cons_cons _ (.cons _ (.cons_cons _ (.cons_cons _ (.cons_cons _ (List.nil_sublist _))))))) _ _ _ _ ?_⟩
      refine dz (by kernel_rfl) (j6l (Qr (z2c (j6k (r:=((k_3+1:Nat):Int)) rfl rfl (nw (by omega) (by omega) (by have:=hlen3;omega)) (Q8 (v:=(.int .i64 ((k_3+1:Nat):Int))) rfl (wpList_nil (Qr ?_)))))))
      exact⟨k_3+1,(put F_2 x1_.1 (((F_2 x1_.1).getD [])++[x1_.2])),_,rfl,hP,((x1_.1,v8,((F_2 x1_.1).getD [])++[x1_.2])::es3),σ3,_,(Zu rfl (Zu rfl (Zu rfl (Zu rfl (Zu rfl rfl))))),(hS32.sublist (ms':=(smap b2 (asl ((x1_.1,v8,((F_2 x1_.1).getD [])++[x1_.2])::es3))::blk b3 335 [(.map (some b2))]::vec v6 9 1 ((cpt r1_).length) ((cpt r1_).flatMap Qf)::vec v4 9 1 ((srt nodes_p).length) ((srt nodes_p).flatMap Qf)::Hx 9 1 Qf ((x1_.1,v8,((F_2 x1_.1).getD [])++[x1_.2])::es3))) (.cons _ (List.Sublist.refl _))),hsub3,hF3⟩
     ·
      refine z4l (cs:=[(.string x1_.2)]) (e:=9) hS25 (fun _=>by kernel_rfl) ?_
      intro b5 w14 hS26
      refine wpList_nil ?_
      refine⟨rfl,(hS26.sublist (.cons _ (.cons_cons _ (.cons _ (.cons_cons _ (.cons_cons _ (.cons_cons _ (List.nil_sublist _)))))))),?_⟩
      refine d1 6 1023 (by kernel_rfl) rfl ?_
      obtain⟨v7,hv1⟩: ∃v,(asl es2 x1_.1).getD (.slice none 0 0)=v:=⟨_,rfl⟩
      refine j7x (i:=2) (v:=v7) hS26 rfl rfl rfl Tryz.underlying335 Tryz.underlying9 Tryz.zeroValue55 hv1 (wpList_nil ?_)
      refine⟨rfl,(hS26.sublist (.cons _ (.cons_cons _ (.cons _ (.cons_cons _ (.cons_cons _ (.cons_cons _ (List.nil_sublist _)))))))),?_⟩
      refine d1 10 2047 (by kernel_rfl) rfl ?_
      obtain⟨es3,hS27,hL1,hl3⟩:=St.borrow (ms:=[blk b5 9 [(.string x1_.2)],blk b4 297 [(.string x1_.1),(.string x1_.2)],smap b2 (asl es2),blk b3 335 [(.map (some b2))],vec v6 9 1 ((cpt r1_).length) ((cpt r1_).flatMap Qf),vec v4 9 1 ((srt nodes_p).length) ((srt nodes_p).flatMap Qf)]) hS26 hF2 x1_.1 hv1
      obtain⟨hsm3,hP⟩:=hP
      refine w59 (Ms:=fun v8=>(vec v8 9 1 ((((F_2 x1_.1).getD [])++[x1_.2]).length) ((((F_2 x1_.1).getD [])++[x1_.2]).flatMap Qf)::blk b5 9 [(.string x1_.2)]::blk b4 297 [(.string x1_.1),(.string x1_.2)]::smap b2 (asl es2)::blk b3 335 [(.map (some b2))]::vec v6 9 1 ((cpt r1_).length) ((cpt r1_).flatMap Qf)::vec v4 9 1 ((srt nodes_p).length) ((srt nodes_p).flatMap Qf)::Hx 9 1 Qf es3)) (k':=(((F_2 x1_.1).getD [])++[x1_.2]).length) (xs':=(((F_2 x1_.1).getD [])++[x1_.2]).flatMap Qf) Tryz.underlying55 Tryz.type9 rfl rfl (bytes:=16) rfl rfl (Nat.succ_pos _) hS27 rfl (q:=0) rfl rfl rfl (q49 (hS27.get (i:=1) rfl)) (ones rfl) hsm3 (by omega) (by first|rfl|exact List.length_append.symm|simp) (by simp[Qf]) (fun _=>rfl) ?_
      intro v8 w15 ho5 hS28
      have hS29:=hS28.drop 1 (ms':=(vec v8 9 1 ((((F_2 x1_.1).getD [])++[x1_.2]).length) ((((F_2 x1_.1).getD [])++[x1_.2]).flatMap Qf)::blk b4 297 [(.string x1_.1),(.string x1_.2)]::smap b2 (asl es2)::blk b3 335 [(.map (some b2))]::vec v6 9 1 ((cpt r1_).length) ((cpt r1_).flatMap Qf)::vec v4 9 1 ((srt nodes_p).length) ((srt nodes_p).flatMap Qf)::Hx 9 1 Qf es3)) rfl
      refine wpList_nil ?_
      refine⟨rfl,(hS29.sublist (.cons _ (.cons_cons _ (.cons _ (.cons_cons _ (.cons_cons _ (.cons_cons _ (List.nil_sublist _)))))))),?_⟩
      refine d1 11 4095 (by kernel_rfl) rfl (w56 (v:=v8) (i:=2) (ms':=(vec v8 9 1 ((((F_2 x1_.1).getD [])++[x1_.2]).length) ((((F_2 x1_.1).getD [])++[x1_.2]).flatMap Qf)::blk b4 297 [(.string x1_.1),(.string x1_.2)]::smap b2 (fun k'=>if k'=x1_.1 then some v8 else asl es2 k')::blk b3 335 [(.map (some b2))]::vec v6 9 1 ((cpt r1_).length) ((cpt r1_).flatMap Qf)::vec v4 9 1 ((srt nodes_p).length) ((srt nodes_p).flatMap Qf)::Hx 9 1 Qf es3)) hS29 rfl rfl rfl rfl Tryz.underlying335 Tryz.underlying9 rfl ?_)
      intro w16 hS30
      have hS32:=St.giveback (ms:=[blk b4 297 [(.string x1_.1),(.string x1_.2)],smap b2 (fun k'=>if k'=x1_.1 then some v8 else asl es2 k'),blk b3 335 [(.map (some b2))],vec v6 9 1 ((cpt r1_).length) ((cpt r1_).flatMap Qf),vec v4 9 1 ((srt nodes_p).length) ((srt nodes_p).flatMap Qf)]) (ms':=[blk b4 297 [(.string x1_.1),(.string x1_.2)],smap b2 (asl ((x1_.1,v8,((F_2 x1_.1).getD [])++[x1_.2])::es3)),blk b3 335 [(.map (some b2))],vec v6 9 1 ((cpt r1_).length) ((cpt r1_).flatMap Qf),vec v4 9 1 ((srt nodes_p).length) ((srt nodes_p).flatMap Qf)]) (i:=1) hS30 hL1 rfl rfl
      have hF3:=ELF.put (v:=v8) hF2 hL1 hsm3
      refine wpList_nil ?_
      refine⟨rfl,(hS32.sublist (.cons_cons _ (.cons _ (.cons_cons _ (.cons_cons _ (.cons_cons _ (List.nil_sublist _))))))),z4m (J':=fun z=>St ⟨w,σ,[]⟩ z σ3 (blk b4 297 [(.string x1_.1),(.string x1_.2)]::smap b2 (asl ((x1_.1,v8,((F_2 x1_.1).getD [])++[x1_.2])::es3))::blk b3 335 [(.map (some b2))]::vec v6 9 1 ((cpt r1_).length) ((cpt r1_).flatMap Qf)::vec v4 9 1 ((srt nodes_p).length) ((srt nodes_p).flatMap Qf)::Hx 9 1 Qf ((x1_.1,v8,((F_2 x1_.1).getD [])++[x1_.2])::es3))) (fun w h=>h.sublist (.cons_cons _ (.cons _ (.cons_cons _ (.cons_cons _ (.cons_cons _ (List.nil_sublist _))))))) _ _ _ _ ?_⟩
      refine dz (by kernel_rfl) (j6l (Qr (z2c (j6k (r:=((k_3+1:Nat):Int)) rfl rfl (nw (by omega) (by omega) (by have:=hlen3;omega)) (Q8 (v:=(.int .i64 ((k_3+1:Nat):Int))) rfl (wpList_nil (Qr ?_)))))))
      exact⟨k_3+1,(put F_2 x1_.1 (((F_2 x1_.1).getD [])++[x1_.2])),_,rfl,hP,((x1_.1,v8,((F_2 x1_.1).getD [])++[x1_.2])::es3),σ3,_,(Zu rfl (Zu rfl (Zu rfl (Zu rfl (Zu rfl rfl))))),(hS32.sublist (ms':=(smap b2 (asl ((x1_.1,v8,((F_2 x1_.1).getD [])++[x1_.2])::es3))::blk b3 335 [(.map (some b2))]::vec v6 9 1 ((cpt r1_).length) ((cpt r1_).flatMap Qf)::vec v4 9 1 ((srt nodes_p).length) ((srt nodes_p).flatMap Qf)::Hx 9 1 Qf ((x1_.1,v8,((F_2 x1_.1).getD [])++[x1_.2])::es3))) (.cons _ (List.Sublist.refl _))),hsub3,hF3⟩
   ·
    replace hP:=hP.2 (by first|(rw[hb1];exact Bool.false_ne_true)|simp[hb1])
    refine Q8 (v:=(.bool true)) (congrArg Value.bool (congrArg Bool.not hb1)) (j7n rfl rfl (j7n rfl rfl (j7n rfl rfl (j7n rfl rfl (j7n rfl rfl (w1l (v:=(.bool true)) rfl rfl (wpList_nil (Qr (if_t rfl (Qv (Qw (v:=(.slice none 0 0)) rfl (Qw (v:=(.int .i64 (11:Int))) rfl (wpList_nil (Qr (wp_ret (Hm (z3s (Hm (Hm (z3s (Hm (ret2 rfl (show ev _ _ _=(.slice none 0 0) from rfl) (show ev _ _ _=(.int .i64 (11:Int)) from rfl) ?_))))))))))))))))))))))
    have hS33:=hS21.addNil 9 1
    exact⟨[],(11:Int),(.slice none 0 0),rfl,(St.back (hS33.keep 1 (ms':=[vec (.slice none 0 0) 9 1 0 []]) rfl) (Sub.refl _)),(by simp[Sml]),hP⟩
  ·
   replace hP:=hP.2 ht2
   refine wp_exit (q9q (q9q (z45 (Qr (Qv (Qw (v:=(.slice none 0 0)) rfl (wpList_nil (Qr (Qv (w57 (fun y:Bool=>(Value.bool (y))) hS17 ?_))))))))))
   intro b6 w17 hS34
   refine j3l (cs:=[(.map none)]) hS34 Tryz.zeroValue177 rfl ?_
   intro b7 w18 hS35
   refine j3k (T:=177) (vs:=[(.map (some b6))]) (cs':=[(.map (some b6))]) (ms':=(blk b7 177 [(.map (some b6))]::emap b6 (fun y:Bool=>(Value.bool (y))) (fun _=>none)::smap b2 (asl es2)::blk b3 335 [(.map (some b2))]::vec v6 9 1 ((cpt r1_).length) ((cpt r1_).flatMap Qf)::vec v4 9 1 ((srt nodes_p).length) ((srt nodes_p).flatMap Qf)::Hx 9 1 Qf es2)) (i:=0) hS35 rfl rfl rfl Tryz.sizeOf177 rfl (ones rfl) rfl (Nat.le_of_ble_eq_true rfl) rfl rfl ?_
   intro w19 hS36
   refine wpList_nil (Qr (wp_seq (wp_block ?_)))
   obtain⟨σ6,hS37,hsub6,hr9⟩:=St.freezeL (ms:=[blk b7 177 [(.map (some b6))],emap b6 (fun y:Bool=>(Value.bool (y))) (fun _=>none),smap b2 (asl es2),blk b3 335 [(.map (some b2))],vec v6 9 1 ((cpt r1_).length) ((cpt r1_).flatMap Qf),vec v4 9 1 ((srt nodes_p).length) ((srt nodes_p).flatMap Qf)]) (ms':=[blk b7 177 [(.map (some b6))],emap b6 (fun y:Bool=>(Value.bool (y))) (fun _=>none),blk b3 335 [(.map (some b2))],vec v6 9 1 ((cpt r1_).length) ((cpt r1_).flatMap Qf),vec v4 9 1 ((srt nodes_p).length) ((srt nodes_p).flatMap Qf)]) (i:=2) hS36 hF2 q1k rfl rfl
   have hS38:=hS37.addNil 9 1
   have hS39:=hS38.front 4 rfl (ms':=[vec v6 9 1 ((cpt r1_).length) ((cpt r1_).flatMap Qf),vec (.slice none 0 0) 9 1 0 [],blk b7 177 [(.map (some b6))],emap b6 (fun y:Bool=>(Value.bool (y))) (fun _=>none),blk b3 335 [(.map (some b2))],vec v4 9 1 ((srt nodes_p).length) ((srt nodes_p).flatMap Qf)]) rfl
   have hS40:=hS39.front 4 rfl (ms':=[blk b3 335 [(.map (some b2))],vec v6 9 1 ((cpt r1_).length) ((cpt r1_).flatMap Qf),vec (.slice none 0 0) 9 1 0 [],blk b7 177 [(.map (some b6))],emap b6 (fun y:Bool=>(Value.bool (y))) (fun _=>none),vec v4 9 1 ((srt nodes_p).length) ((srt nodes_p).flatMap Qf)]) rfl
   have hS41:=hS40.front 3 rfl (ms':=[blk b7 177 [(.map (some b6))],blk b3 335 [(.map (some b2))],vec v6 9 1 ((cpt r1_).length) ((cpt r1_).flatMap Qf),vec (.slice none 0 0) 9 1 0 [],emap b6 (fun y:Bool=>(Value.bool (y))) (fun _=>none),vec v4 9 1 ((srt nodes_p).length) ((srt nodes_p).flatMap Qf)]) rfl
   have hS42:=hS41.front 4 rfl (ms':=[emap b6 (fun y:Bool=>(Value.bool (y))) (fun _=>none),blk b7 177 [(.map (some b6))],blk b3 335 [(.map (some b2))],vec v6 9 1 ((cpt r1_).length) ((cpt r1_).flatMap Qf),vec (.slice none 0 0) 9 1 0 [],vec v4 9 1 ((srt nodes_p).length) ((srt nodes_p).flatMap Qf)]) rfl
   have hS43:=hS42.front 4 rfl (ms':=[vec (.slice none 0 0) 9 1 0 [],emap b6 (fun y:Bool=>(Value.bool (y))) (fun _=>none),blk b7 177 [(.map (some b6))],blk b3 335 [(.map (some b2))],vec v6 9 1 ((cpt r1_).length) ((cpt r1_).flatMap Qf),vec v4 9 1 ((srt nodes_p).length) ((srt nodes_p).flatMap Qf)]) rfl
   have hS44:=hS43.front 5 rfl (ms':=[vec v4 9 1 ((srt nodes_p).length) ((srt nodes_p).flatMap Qf),vec (.slice none 0 0) 9 1 0 [],emap b6 (fun y:Bool=>(Value.bool (y))) (fun _=>none),blk b7 177 [(.map (some b6))],blk b3 335 [(.map (some b2))],vec v6 9 1 ((cpt r1_).length) ((cpt r1_).flatMap Qf)]) rfl
   refine w1v (fun left_3 out_3 F_4 f z=> ∃(v13:Value) (v14:Value) (σ7:Hv) (g:Fr),f=(upd (upd (upd (upd g 6 v13) 7 (.pointer (some ⟨b3,0,none⟩))) 10 v14) 11 (.pointer (some ⟨b7,0,none⟩)))/\St ⟨w,σ,[]⟩ z σ7 [vec v13 9 1 left_3.length ((left_3).flatMap Qf),vec v14 9 1 out_3.length ((out_3).flatMap Qf),emap b6 (fun y:Bool=>(Value.bool (y))) F_4,blk b7 177 [(.map (some b6))],blk b3 335 [(.map (some b2))],vec v6 9 1 ((cpt r1_).length) ((cpt r1_).flatMap Qf)]/\Sub σ6 σ7/\v13.oneCell'=true/\Sml left_3.length/\v14.oneCell'=true/\Sml out_3.length) hP ⟨v4,(.slice none 0 0),σ6,_,(Zu rfl (Zu rfl (Zu rfl (Zu rfl rfl)))),hS44,(Sub.refl _),(Ho ho1.1),(show Sml (srt nodes_p).length by rw[Jq];exact hsm1),rfl,(by simp[Sml])⟩ ?_
   clear hP
   rintro left_3 out_3 F_4 Y5 hP f w20 ⟨v13,v14,σ7,g,rfl,hS45,hsub7,ho10,hl8,ho11,hl9⟩
   refine wp_seq (Qv (Q8 (v:=v13) rfl (z0x hS45 rfl (i:=0) rfl Tryz.underlying55 ?_)))
   have hlen4:left_3.length<=9223372036854775807:=by have:=hl8;unfold Sml at this;omega
   replace hP:=hP hlen4
   refine v1h (r:=(decide ((0:Int)<((left_3.length:Nat):Int)))) rfl rfl rfl (wpList_nil (Qr ?_))
   refine if_d ((0:Int)<((left_3.length:Nat):Int)) rfl (fun ht4=> ?_) (fun ht4=> ?_)
   ·
    replace hP:=hP.1 ht4
    refine wp_skip (Qr (wp_block (Qv (Q8 (v:=v13) rfl (z2d (la:=[]) (lb:=[(.pointer (some ⟨b3,0,none⟩)),(.pointer (some ⟨b7,0,none⟩))]) rfl rfl ?_)))))
    obtain⟨Y6,hK4,hP⟩:=hP
    refine q4o (args:=[v13,(.func (.func 229) #[] #[(.pointer (some ⟨b3,0,none⟩)),(.pointer (some ⟨b7,0,none⟩))])]) rfl Tryz.call228 (Calls.mono (R:=fun e z=> ∃(r_1:Int) (σ8:Hv),e= .returned (.int .i64 r_1)/\Y6 r_1/\St ⟨w,σ,[]⟩ z σ8 [vec v13 9 1 left_3.length ((left_3).flatMap Qf),vec v14 9 1 out_3.length ((out_3).flatMap Qf),emap b6 (fun y:Bool=>(Value.bool (y))) F_4,blk b7 177 [(.map (some b6))],blk b3 335 [(.map (some b2))],vec v6 9 1 ((cpt r1_).length) ((cpt r1_).flatMap Qf)]/\Sub σ7 σ8) ?_ ?_)
    ·
     refine enter Tryz.func228 rfl rfl rfl ?_
     refine Qv (Qw (v:=(.int .i64 (0:Int))) rfl (wpList_nil (Qr (wp_seq (Qv (Q8 (v:=v13) rfl (z0x hS45 rfl (i:=0) rfl Tryz.underlying55 (Q8 (v:=(.int .i64 (0:Int))) rfl (wpList_nil (Qr (wp_block ?_)))))))))))
     refine z9a (fun k_5 f z=> ∃(σ9:Hv) (g:Fr),f=(upd (upd (upd (upd g 0 v13) 1 (.func (.func 229) #[] #[(.pointer (some ⟨b3,0,none⟩)),(.pointer (some ⟨b7,0,none⟩))])) 7 (.int .i64 ((left_3.length:Nat):Int))) 8 (.int .i64 ((k_5:Nat):Int)))/\St ⟨w,σ,[]⟩ z σ9 [vec v13 9 1 left_3.length ((left_3).flatMap Qf),vec v14 9 1 out_3.length ((out_3).flatMap Qf),emap b6 (fun y:Bool=>(Value.bool (y))) F_4,blk b7 177 [(.map (some b6))],blk b3 335 [(.map (some b2))],vec v6 9 1 ((cpt r1_).length) ((cpt r1_).flatMap Qf)]/\Sub σ7 σ9) hP ⟨σ7,_,(Zu rfl (Zu rfl (Zu rfl (Zu rfl rfl)))),hS45,(Sub.refl _)⟩ ?_
     clear hP
     rintro k_5 Y7 hP f w21 ⟨σ9,g,rfl,hS46,hsub9⟩
     refine Qv (j7o (r:=(decide (((k_5:Nat):Int)<((left_3.length:Nat):Int)))) rfl rfl rfl (wpList_nil (Qr (wp_seq ?_))))
     refine if_d (((k_5:Nat):Int)<((left_3.length:Nat):Int)) rfl (fun ht5=> ?_) (fun ht5=> ?_)
     ·
      replace hP:=hP.1 ht5
      refine wp_skip (Qr (wp_seq (wp_block (Qv (Q8 (v:=(.int .i64 ((k_5:Nat):Int))) rfl (Qw (v:=(.int .i64 ((k_5:Nat):Int))) rfl (wpList_nil (Qr (Qv (Q8 (v:=(.func (.func 229) #[] #[(.pointer (some ⟨b3,0,none⟩)),(.pointer (some ⟨b7,0,none⟩))])) rfl (Q8 (v:=v13) rfl (Q8 (v:=(.int .i64 ((k_5:Nat):Int))) rfl ?_))))))))))))
      obtain⟨x2_,hx2⟩:=getq (l:=left_3) (k:=k_5) (by have:=ht5;omega)
      replace hP:=hP x2_ hx2
      obtain⟨g1,cp1,hv2⟩:=z9b (hS46.get (i:=0) rfl) (Qd hx2)
      refine G7 (k:=k_5) (a':=⟨g1,k_5*1,none⟩) hv2 rfl rfl (Qd hx2) Tryz.underlying55 Tryz.sizeOf9 (by simp[W6]) (q3p (v:=(.string x2_)) rfl Tryz.isAgg9 (z5f q1k (j:=0) hv2 (hS46.get (i:=0) rfl) hx2 rfl) (j7r (args:=[(.string x2_),(.pointer (some ⟨b3,0,none⟩)),(.pointer (some ⟨b7,0,none⟩))]) rfl rfl Tryz.call229 ?_))
      refine enter Tryz.func229 rfl rfl rfl ?_
      refine Qv (Qw (v:=(.bool false)) rfl (wpList_nil (Qr (Qv (q3p (v:=(.map (some b2))) rfl Tryz.isAgg335 (hS46.cell (i:=4) rfl rfl) (Q8 (v:=(.string x2_)) rfl ?_))))))
      obtain⟨v15,hl10,hz1⟩:=RMp.at (z:= .slice none 0 0) (z0:=[]) RSl.nil hr9 x2_
      obtain⟨a3,cap3,rfl⟩:=hz1.shape
      refine w6a (v:=(.slice a3 ((F_2 x2_).getD []).length cap3)) hl10 (View.of (Sub.trans hsub7 hsub9) hS46.view) rfl rfl Tryz.underlying335 Tryz.underlying9 Tryz.zeroValue55 (z2d (la:=[]) (lb:=[(.pointer (some ⟨b7,0,none⟩))]) rfl rfl (q4o (args:=[(.slice a3 ((F_2 x2_).getD []).length cap3),(.func (.func 231) #[] #[(.pointer (some ⟨b7,0,none⟩))])]) rfl Tryz.call230 ?_))
      refine enter Tryz.func230 rfl rfl rfl ?_
      refine Qv (Qw (v:=(.bool false)) rfl (wpList_nil (Qr (Qv (Q8 (v:=(.slice a3 ((F_2 x2_).getD []).length cap3)) rfl (Q8 (v:=(.func (.func 231) #[] #[(.pointer (some ⟨b7,0,none⟩))])) rfl ?_))))))
      obtain⟨Y8,hK5,hP⟩:=hP
      refine q4o (args:=[(.slice a3 ((F_2 x2_).getD []).length cap3),(.func (.func 231) #[] #[(.pointer (some ⟨b7,0,none⟩))])]) rfl Tryz.call228 (Calls.mono (R:=fun e z=> ∃(r_2:Int) (σ10:Hv),e= .returned (.int .i64 r_2)/\Y8 r_2/\St ⟨w,σ,[]⟩ z σ10 [vec v13 9 1 left_3.length ((left_3).flatMap Qf),vec v14 9 1 out_3.length ((out_3).flatMap Qf),emap b6 (fun y:Bool=>(Value.bool (y))) F_4,blk b7 177 [(.map (some b6))],blk b3 335 [(.map (some b2))],vec v6 9 1 ((cpt r1_).length) ((cpt r1_).flatMap Qf)]/\Sub σ9 σ10) ?_ ?_)
      ·
       refine enter Tryz.func228 rfl rfl rfl ?_
       refine Qv (Qw (v:=(.int .i64 (0:Int))) rfl (wpList_nil (Qr (wp_seq (Qv (Q8 (v:=(.slice a3 ((F_2 x2_).getD []).length cap3)) rfl (q6f rfl Tryz.underlying55 ?_)))))))
       have hlen6:=RSl.len63 hz1
       replace hP:=hP hlen6
       refine Q8 (v:=(.int .i64 (0:Int))) rfl (wpList_nil (Qr (wp_block ?_)))
       refine z9a (fun k_7 f z=> ∃(σ11:Hv) (g:Fr),f=(upd (upd (upd (upd g 0 (.slice a3 ((F_2 x2_).getD []).length cap3)) 1 (.func (.func 231) #[] #[(.pointer (some ⟨b7,0,none⟩))])) 7 (.int .i64 ((((F_2 x2_).getD []).length:Nat):Int))) 8 (.int .i64 ((k_7:Nat):Int)))/\St ⟨w,σ,[]⟩ z σ11 [vec v13 9 1 left_3.length ((left_3).flatMap Qf),vec v14 9 1 out_3.length ((out_3).flatMap Qf),emap b6 (fun y:Bool=>(Value.bool (y))) F_4,blk b7 177 [(.map (some b6))],blk b3 335 [(.map (some b2))],vec v6 9 1 ((cpt r1_).length) ((cpt r1_).flatMap Qf)]/\Sub σ9 σ11) hP ⟨σ9,_,(Zu rfl (Zu rfl (Zu rfl (Zu rfl rfl)))),hS46,(Sub.refl _)⟩ ?_
       clear hP
       rintro k_7 Y9 hP f w22 ⟨σ11,g,rfl,hS47,hsub11⟩
       refine Qv (j7o (r:=(decide (((k_7:Nat):Int)<((((F_2 x2_).getD []).length:Nat):Int)))) rfl rfl rfl (wpList_nil (Qr (wp_seq ?_))))
       refine if_d (((k_7:Nat):Int)<((((F_2 x2_).getD []).length:Nat):Int)) rfl (fun ht6=> ?_) (fun ht6=> ?_)
       ·
        replace hP:=hP.1 ht6
        refine wp_skip (Qr (wp_seq (wp_block (Qv (Q8 (v:=(.int .i64 ((k_7:Nat):Int))) rfl (Qw (v:=(.int .i64 ((k_7:Nat):Int))) rfl (wpList_nil (Qr (Qv (Q8 (v:=(.func (.func 231) #[] #[(.pointer (some ⟨b7,0,none⟩))])) rfl (Q8 (v:=(.slice a3 ((F_2 x2_).getD []).length cap3)) rfl (Q8 (v:=(.int .i64 ((k_7:Nat):Int))) rfl ?_))))))))))))
        obtain⟨x3_,hx3⟩:=getq (l:=((F_2 x2_).getD [])) (k:=k_7) (by have:=ht6;omega)
        replace hP:=hP x3_ hx3
        obtain⟨ad2,cs2,ha2,hl11,hr10,hR2,hlt2⟩:=RSl.at hz1 hx3
        cases hR2
        refine G7 (k:=k_7) (a':=(ad2.add (k_7*1))) (congrArg (fun z=>Value.slice z _ _) ha2) rfl rfl hlt2 Tryz.underlying55 Tryz.sizeOf9 rfl (q3p (v:=(.string x3_)) rfl Tryz.isAgg9 (hr10.cell (View.of (Sub.trans (Sub.trans hsub7 hsub9) hsub11) hS47.view) 0 rfl rfl) (j7r (args:=[(.string x3_),(.pointer (some ⟨b7,0,none⟩))]) rfl rfl Tryz.call231 ?_))
        refine enter Tryz.func231 rfl rfl rfl ?_
        refine Qv (Qw (v:=(.bool false)) rfl (wpList_nil (Qr (Qv (q3p (v:=(.map (some b6))) rfl Tryz.isAgg177 (hS47.cell (i:=3) rfl rfl) (Q8 (v:=(.string x3_)) rfl (w58 (v:=(.bool (((F_4 x3_).getD false)))) (i:=2) hS47 rfl rfl rfl Tryz.underlying177 Tryz.underlying9 Tryz.zeroValue4 (w1w (fun y:Bool=>(Value.bool (y))) _ rfl) (w1o (r:=(!((F_4 x3_).getD false))) rfl rfl (Qw (v:=(.bool (!((F_4 x3_).getD false)))) rfl (wpList_nil (Qr (wp_ret (ret1 rfl (show ev _ _ _=(.bool (!((F_4 x3_).getD false))) from rfl) ?_)))))))))))))
        refine⟨_,rfl,?_⟩
        refine wpList_nil (Qr ?_)
        refine w9c rfl (fun ht7=> ?_) (fun ht7=> ?_)
        ·
         replace hP:=hP.2 (by first|(rw[ht7];exact Bool.false_ne_true)|simp[ht7])
         refine Qv (Q8 (v:=(.int .i64 ((k_7:Nat):Int))) rfl (Qw (v:=(.int .i64 ((k_7:Nat):Int))) rfl (wpList_nil (Qr (wp_ret (z3s (Hm (Hm (z3s (Hm (ret1 rfl (show ev _ _ _=(.int .i64 ((k_7:Nat):Int)) from rfl) ?_)))))))))))
         exact⟨((k_7:Nat):Int),σ11,rfl,hP,hS47,hsub11⟩
        ·
         replace hP:=hP.1 ht7
         refine wp_skip (j6l (Qr (z2c (j6k (r:=((k_7+1:Nat):Int)) rfl rfl (nw (by omega) (by omega) (by have:=hlen6;omega)) (Q8 (v:=(.int .i64 ((k_7+1:Nat):Int))) rfl (wpList_nil (Qr ?_)))))))
         exact⟨k_7+1,_,rfl,hP,σ11,_,(Zu rfl (Zu rfl (Zu rfl (Zu rfl rfl)))),hS47,hsub11⟩
       ·
        replace hP:=hP.2 ht6
        refine wp_exit (q9q (q9q (z45 (Qr (Qv (Qw (v:=(.int .i64 (-1:Int))) rfl (wpList_nil (Qr (wp_ret (ret1 rfl (show ev _ _ _=(.int .i64 (-1:Int)) from rfl) ?_))))))))))
        exact⟨(-1:Int),σ11,rfl,hP,hS47,hsub11⟩
      ·
       rintro _ w23 ⟨r_2,σ10,rfl,hY4,hS48,hsub10⟩
       refine⟨_,rfl,?_⟩
       replace hP:=hK5 r_2 hY4
       refine w89 (r:=(decide ((0:Int)<=r_2))) rfl rfl rfl (Qw (v:=(.bool (decide ((0:Int)<=r_2)))) rfl (wpList_nil (Qr (wp_ret (ret1 rfl (show ev _ _ _=(.bool (decide ((0:Int)<=r_2))) from rfl) ?_)))))
       refine⟨_,rfl,?_⟩
       refine w1o (r:=(!decide ((0:Int)<=r_2))) rfl rfl (Qw (v:=(.bool (!decide ((0:Int)<=r_2)))) rfl (wpList_nil (Qr (wp_ret (ret1 rfl (show ev _ _ _=(.bool (!decide ((0:Int)<=r_2))) from rfl) ?_)))))
       refine⟨_,rfl,?_⟩
       refine wpList_nil (Qr ?_)
       refine w9b ((0:Int)<=r_2) rfl (fun ht8=> ?_) (fun ht8=> ?_)
       ·
        replace hP:=hP.2 ht8
        refine Qv (Q8 (v:=(.int .i64 ((k_5:Nat):Int))) rfl (Qw (v:=(.int .i64 ((k_5:Nat):Int))) rfl (wpList_nil (Qr (wp_ret (z3s (Hm (Hm (z3s (Hm (ret1 rfl (show ev _ _ _=(.int .i64 ((k_5:Nat):Int)) from rfl) ?_)))))))))))
        exact⟨((k_5:Nat):Int),σ10,rfl,hP,hS48,(Sub.trans hsub9 hsub10)⟩
       ·
        replace hP:=hP.1 ht8
        refine wp_skip (j6l (Qr (z2c (j6k (r:=((k_5+1:Nat):Int)) rfl rfl (nw (by omega) (by omega) (by have:=hlen4;omega)) (Q8 (v:=(.int .i64 ((k_5+1:Nat):Int))) rfl (wpList_nil (Qr ?_)))))))
        exact⟨k_5+1,_,rfl,hP,σ10,_,(Zu rfl (Zu rfl (Zu rfl (Zu rfl rfl)))),hS48,(Sub.trans hsub9 hsub10)⟩
     ·
      replace hP:=hP.2 ht5
      refine wp_exit (q9q (q9q (z45 (Qr (Qv (Qw (v:=(.int .i64 (-1:Int))) rfl (wpList_nil (Qr (wp_ret (ret1 rfl (show ev _ _ _=(.int .i64 (-1:Int)) from rfl) ?_))))))))))
      exact⟨(-1:Int),σ9,rfl,hP,hS46,hsub9⟩
    ·
     rintro _ w24 ⟨r_1,σ8,rfl,hY5,hS49,hsub8⟩
     refine⟨_,rfl,?_⟩
     replace hP:=hK4 r_1 hY5
     refine Qw (v:=(.int .i64 r_1)) rfl (wpList_nil (Qr (wp_seq (Qv (Q8 (v:=(.int .i64 r_1)) rfl (j7o (r:=(decide (r_1<(0:Int)))) rfl rfl rfl (wpList_nil (Qr ?_))))))))
     refine if_d (r_1<(0:Int)) rfl (fun ht9=> ?_) (fun ht9=> ?_)
     ·
      replace hP:=hP.1 ht9
      refine Qv (Qw (v:=(.slice none 0 0)) rfl (Qw (v:=(.int .i64 (12:Int))) rfl (wpList_nil (Qr (wp_ret (Hm (z3s (Hm (z3s (Hm (ret2 rfl (show ev _ _ _=(.slice none 0 0) from rfl) (show ev _ _ _=(.int .i64 (12:Int)) from rfl) ?_)))))))))))
      have hS50:=hS49.addNil 9 1
      exact⟨[],(12:Int),(.slice none 0 0),rfl,(St.back (hS50.keep 1 (ms':=[vec (.slice none 0 0) 9 1 0 []]) rfl) (Sub.refl _)),(by simp[Sml]),hP⟩
     ·
      replace hP:=hP.2 ht9
      refine wp_skip (Qr (Qv (Q8 (v:=v14) rfl (Q8 (v:=v13) rfl (Q8 (v:=(.int .i64 r_1)) rfl ?_)))))
      obtain⟨j1_,hj1,hP⟩:=hP
      obtain⟨x4_,hx4,hP⟩:=hP
      obtain⟨g2,cp2,hv3⟩:=z9b (hS49.get (i:=0) rfl) (Qd hx4)
      refine G7 (k:=j1_) (a':=⟨g2,j1_*1,none⟩) hv3 rfl hj1 (Qd hx4) Tryz.underlying55 Tryz.sizeOf9 (by simp[W6]) (q3p (v:=(.string x4_)) rfl Tryz.isAgg9 (z5f q1k (j:=0) hv3 (hS49.get (i:=0) rfl) hx4 rfl) (z4l (cs:=[(.string x4_)]) (e:=9) hS49 (fun _=>by kernel_rfl) ?_))
      intro b8 w25 hS51
      obtain⟨hsm4,hP⟩:=hP
      refine w59 (Ms:=fun v16=>[blk b8 9 [(.string x4_)],vec v13 9 1 left_3.length ((left_3).flatMap Qf),vec v16 9 1 ((out_3++[x4_]).length) ((out_3++[x4_]).flatMap Qf),emap b6 (fun y:Bool=>(Value.bool (y))) F_4,blk b7 177 [(.map (some b6))],blk b3 335 [(.map (some b2))],vec v6 9 1 ((cpt r1_).length) ((cpt r1_).flatMap Qf)]) (k':=(out_3++[x4_]).length) (xs':=(out_3++[x4_]).flatMap Qf) Tryz.underlying55 Tryz.type9 rfl rfl (bytes:=16) rfl rfl (Nat.succ_pos _) hS51 rfl (q:=2) rfl rfl rfl (q49 (hS51.get (i:=0) rfl)) (ones rfl) hsm4 (by omega) (by first|rfl|exact List.length_append.symm|simp) (by simp[Qf]) (fun _=>rfl) ?_
      intro v16 w26 ho12 hS52
      have hS53:=hS52.drop 0 (ms':=[vec v13 9 1 left_3.length ((left_3).flatMap Qf),vec v16 9 1 ((out_3++[x4_]).length) ((out_3++[x4_]).flatMap Qf),emap b6 (fun y:Bool=>(Value.bool (y))) F_4,blk b7 177 [(.map (some b6))],blk b3 335 [(.map (some b2))],vec v6 9 1 ((cpt r1_).length) ((cpt r1_).flatMap Qf)]) rfl
      refine Qw (v:=v16) rfl (wpList_nil (Qr (wp_seq (dr (fun z=>St ⟨w,σ,[]⟩ z σ8 [vec v13 9 1 left_3.length ((left_3).flatMap Qf),vec v16 9 1 ((out_3++[x4_]).length) ((out_3++[x4_]).flatMap Qf),blk b7 177 [(.map (some b6))],blk b3 335 [(.map (some b2))],vec v6 9 1 ((cpt r1_).length) ((cpt r1_).flatMap Qf)]) (by kernel_rfl) rfl ?_))))
      have hS54:=hS53.drew
      refine dt 0 1 (v:=(.map (some b6))) (by kernel_rfl) rfl rfl (fun _ _ _ h=>h) (hS54.sublist (.cons_cons _ (.cons_cons _ (.cons _ (List.Sublist.refl _))))) (fun _ hJ _ hK=>q3p (v:=(.map (some b6))) rfl Tryz.isAgg177 (hJ.cell (i:=2) rfl rfl) ⟨rfl,hK⟩) (dt 1 3 (v:=v13) (by kernel_rfl) rfl rfl (fun _ _ _ h=>h) (hS54.sublist (.cons_cons _ (.cons_cons _ (.cons _ (List.Sublist.refl _))))) (fun _ _ _ hK=>Q8 (v:=v13) rfl ⟨rfl,hK⟩) (dt 2 7 (v:=(.int .i64 r_1)) (by kernel_rfl) rfl rfl (fun _ _ _ h=>h) (hS54.sublist (.cons_cons _ (.cons_cons _ (.cons _ (List.Sublist.refl _))))) (fun _ _ _ hK=>Q8 (v:=(.int .i64 r_1)) rfl ⟨rfl,hK⟩) ?_))
      obtain⟨j2_,hj2,hP⟩:=hP
      obtain⟨x5_,hx5,hP⟩:=hP
      obtain⟨g3,cp3,hv4⟩:=z9b (hS54.get (i:=0) rfl) (Qd hx5)
      refine dt 3 15 (v:=(.pointer (some ⟨g3,j2_*1,none⟩))) (by kernel_rfl) rfl rfl (fun _ _ _ h=>h) (hS54.sublist (.cons_cons _ (.cons_cons _ (.cons _ (List.Sublist.refl _))))) (fun _ _ _ hK=>G7 (k:=j2_) (a':=⟨g3,j2_*1,none⟩) hv4 rfl hj2 (Qd hx5) Tryz.underlying55 Tryz.sizeOf9 (by simp[W6]) ⟨rfl,hK⟩) (dt 4 31 (v:=(.string x5_)) (by kernel_rfl) rfl rfl (fun _ _ _ h=>h) (hS54.sublist (.cons_cons _ (.cons_cons _ (.cons _ (List.Sublist.refl _))))) (fun _ hJ _ hK=>q3p (v:=(.string x5_)) rfl Tryz.isAgg9 (z5f q1k (j:=0) hv4 (hJ.get (i:=0) rfl) hx5 rfl) ⟨rfl,hK⟩) (d1 5 63 (by kernel_rfl) rfl (w9g (y0:=true) (i:=2) (ms':=[vec v13 9 1 left_3.length ((left_3).flatMap Qf),vec v16 9 1 ((out_3++[x4_]).length) ((out_3++[x4_]).flatMap Qf),emap b6 (fun y:Bool=>(Value.bool (y))) (put F_4 x5_ true),blk b7 177 [(.map (some b6))],blk b3 335 [(.map (some b2))],vec v6 9 1 ((cpt r1_).length) ((cpt r1_).flatMap Qf)]) hS54 rfl rfl rfl rfl Tryz.underlying177 Tryz.underlying9 rfl ?_)))
      intro w27 hS55
      refine wpList_nil ?_
      refine⟨rfl,(hS55.sublist (.cons_cons _ (.cons_cons _ (.cons _ (List.Sublist.refl _))))),z4m (J':=fun z=>St ⟨w,σ,[]⟩ z σ8 [vec v13 9 1 left_3.length ((left_3).flatMap Qf),vec v16 9 1 ((out_3++[x4_]).length) ((out_3++[x4_]).flatMap Qf),emap b6 (fun y:Bool=>(Value.bool (y))) (put F_4 x5_ true),blk b7 177 [(.map (some b6))],blk b3 335 [(.map (some b2))],vec v6 9 1 ((cpt r1_).length) ((cpt r1_).flatMap Qf)]) (fun w h=>h.sublist (.cons_cons _ (.cons_cons _ (.cons _ (List.Sublist.refl _))))) _ _ _ _ ?_⟩
      refine dz (by kernel_rfl) (Qr (z2c (Q8 (v:=v13) rfl (Q8 (v:=(.int .i64 r_1)) rfl (Q8 (v:=(.int .i64 r_1)) rfl ?_)))))
      obtain⟨hi1,hP⟩:=hP
      refine j6k (r:=(r_1+(1:Int))) rfl rfl (nwi rfl hi1) ?_
      obtain⟨j3_,hj3,hP⟩:=hP
      obtain⟨hd1,hP⟩:=hP
      obtain⟨hd2,hP⟩:=hP
      obtain⟨hsm5,hP⟩:=hP
      have hd3:r_1=((j3_:Nat):Int)/\(r_1+(1:Int))=((j3_+1:Nat):Int):=⟨by omega,by omega⟩
      refine q4o (args:=[v13,(.int .i64 ((j3_:Nat):Int)),(.int .i64 ((j3_+1:Nat):Int))]) (by rw[←hd3.1,←hd3.2];rfl) Tryz.call232 (Calls.mono (j6n (i:=j3_) (j:=(j3_+1)) Tryz.slices_Delete_string hS55.view (hS55.get (i:=0) rfl) (fun b hb=>hS55.off _ (List.mem_of_getElem? (i:=0) rfl) b hb) (by omega) hd2 hd1) ?_)
      rintro _ w28 ⟨v17,rfl,hf2,hg7,ho13⟩
      refine⟨_,rfl,?_⟩
      have ho14:=Ho ho13
      have hS56:=hS55.growV (i:=0) (o':=vec v17 9 1 ((left_3.take j3_++left_3.drop (j3_+1)).length) ((left_3.take j3_++left_3.drop (j3_+1)).flatMap Qf)) rfl hg7 hf2 ho13 (ms':=[vec v17 9 1 ((left_3.take j3_++left_3.drop (j3_+1)).length) ((left_3.take j3_++left_3.drop (j3_+1)).flatMap Qf),vec v16 9 1 ((out_3++[x4_]).length) ((out_3++[x4_]).flatMap Qf),emap b6 (fun y:Bool=>(Value.bool (y))) (put F_4 x5_ true),blk b7 177 [(.map (some b6))],blk b3 335 [(.map (some b2))],vec v6 9 1 ((cpt r1_).length) ((cpt r1_).flatMap Qf)]) rfl
      refine Qw (v:=v17) rfl (wpList_nil (j6l (Qr ?_)))
      exact⟨left_3.take j3_++left_3.drop (j3_+1),out_3++[x4_],put F_4 x5_ true,_,rfl,hP,v17,v16,σ8,_,(Zu rfl (Zu rfl (Zu rfl (Zu rfl rfl)))),hS56,(Sub.trans hsub7 hsub8),ho14,hsm5,ho12,hsm4⟩
   ·
    replace hP:=hP.2 ht4
    refine wp_exit (q9q (q9q (z45 (Qr (Qv (Q8 (v:=v14) rfl (Qw (v:=v14) rfl (Qw (v:=(.int .i64 (0:Int))) rfl (wpList_nil (Qr (wp_ret (ret2 rfl (show ev _ _ _=v14 from rfl) (show ev _ _ _=(.int .i64 (0:Int)) from rfl) ?_))))))))))))
    have hS57:=hS45.front 1 rfl (ms':=[vec v14 9 1 out_3.length ((out_3).flatMap Qf),vec v13 9 1 left_3.length ((left_3).flatMap Qf),emap b6 (fun y:Bool=>(Value.bool (y))) F_4,blk b7 177 [(.map (some b6))],blk b3 335 [(.map (some b2))],vec v6 9 1 ((cpt r1_).length) ((cpt r1_).flatMap Qf)]) rfl
    exact⟨out_3,(0:Int),v14,rfl,(St.back (hS57.keep 1 (ms':=[vec v14 9 1 out_3.length ((out_3).flatMap Qf)]) rfl) (Sub.refl _)),hl9,hP⟩
end Go.Proofs.YtjepffgpbidclaaGreatDoor
end
noncomputable section
set_option maxRecDepth 100000
open Go Go.RowKit Go.Fl Go.Fl.Lk Go.Fx
namespace Go.En
theorem z4x{σ:Hv}{w:World}{g:Nat}{T:C}{n:Nat}{l:List (car T)}(hV:View σ w)(hs:SRep D (fun _=>none) σ (.pointer (some ⟨g,0,none⟩)) (.fap T n l)){i j:Nat}{x:car T}{s:FV Sg}(hx:l[i]? =some x)(hj:(D.shape T x)[j]? =some s)(hz:j<D.size T):
  ∃v,w.cell? ⟨g,i*D.size T+j,none⟩=some v/\RepF D σ v s:=by
 generalize hq:Value.pointer (some (⟨g,0,none⟩:Addr))=q at hs
 cases hs with
 |fap ad cs T' N l' hN h hl hr=>
  cases hq
  have hrow:=hr i x hx
  have hlen:=okP.ok.len T x
  have hjl:j<((cs.drop (i*D.size T)).take (D.size T)).length:=by rw[hrow.1,hlen];exact hz
  obtain⟨v,hv⟩: ∃v,((cs.drop (i*D.size T)).take (D.size T))[j]? =some v:=⟨_,List.getElem?_eq_getElem hjl⟩
  refine⟨v,?_,hrow.2 j v s hv hj⟩
  rw[List.getElem?_take,if_pos hz,List.getElem?_drop] at hv
  have:=hV.cell (h _ v hv)
  rw[W6,Nat.zero_add] at this
  exact this
theorem w3j: ∀c,c<256->j5u[c]? =some ((Go.Lib.firstT c:Nat):Int):=by decide
theorem v0a: ∀i,i<16->(z50[i]?).map (fun a=>(a.lo,a.hi))=some (((Go.Lib.accLo i:Nat):Int),((Go.Lib.accHi i:Nat):Int)):=by decide
theorem tabs{σ:Hv}{w:World}(hV:View σ w)(hG:Glb D σ):Go.Lib.Utf8Tabs (Proofs.Tryz.lays196_ren.g 3) (Proofs.Tryz.lays196_ren.g 4) w:=by
 refine⟨fun c hc=> ?_,fun i hi=> ?_⟩
 ·have h:=hG.known (Proofs.Tryz.lays196_ren.g 3)
  obtain⟨v,h1,h2⟩:=z4x (T:= .u8) (n:=256) (l:=j5u) hV h (i:=c) (j:=0) (s:= .int .u8 ((Go.Lib.firstT c:Nat):Int)) (w3j c hc) rfl (by decide)
  cases h2
  simpa [show D.size C.u8=1 from rfl] using h1
 ·have h:=hG.known (Proofs.Tryz.lays196_ren.g 4)
  have ha:=v0a i hi
  obtain⟨a,e1,e2⟩:=Option.map_eq_some_iff.1 ha
  obtain⟨v,h1,h2⟩:=z4x (T:= .acc) (n:=16) (l:=z50) hV h (i:=i) (j:=0) (s:= .int .u8 a.lo) e1 rfl (by decide)
  obtain⟨v',h1',h2'⟩:=z4x (T:= .acc) (n:=16) (l:=z50) hV h (i:=i) (j:=1) (s:= .int .u8 a.hi) e1 rfl (by decide)
  cases h2;cases h2'
  simp only[Prod.mk.injEq] at e2
  rw[e2.1] at h1;rw[e2.2] at h1'
  refine⟨by rw[Nat.mul_comm];simpa [show D.size C.acc=2 from rfl] using h1,by rw[Nat.mul_comm];simpa [show D.size C.acc=2 from rfl] using h1'⟩
theorem j4e{w w':World}(h:Below w.heap.size w w'):Keeps [] w w':=⟨h.os,h.tape,h.output,h.size,fun k hk _=>h.block k hk⟩
theorem q3n{σ:Hv}{w w1:World}{args:List (Tr Sg)}{vals:List Value}{K:List (Tr Sg)->List (Tr Sg)->Prop}{rets outs:List (Tr Sg)}{rv:List Value}(hS:St ⟨w,σ,feet []⟩ w σ [])(hK:K rets outs)(hb:Below w.heap.size w w1)(hL:LayL D σ rets rv [])(hT:LayT D σ args outs vals [] []):
  Back D σ w args vals [] K (.returned (retV rv)) w1:=by
 have hk:=j4e hb
 refine⟨rets,outs,rv,σ,[],[],rfl,hK,hL,hT,?_⟩
 refine⟨hk,fun b o hbo=> ?_,Sub.refl _,fun _ _ _=>rfl,by simp,by simp,by simp,by simp⟩
 have h1:=hS.view b o hbo
 have hlt:b<w.heap.size:=by
  rcases Nat.lt_or_ge b w.heap.size with h|h
  ·exact h
  ·rw[Array.getElem?_eq_none h] at h1;cases h1
 rw[hk.block b hlt (by simp)];exact h1
theorem z1d:q5b Proofs.Tryz.prog D 262 (conV ([.v]:LP) ([.str]:LV) ([.bool]:LV) ([.same]:LV) (fun a K=>Ga a.1 (fun q0=>K (q0,()) ((),())))):=by
 intro args K hm w σ vals ins hG hL hS
 obtain⟨a,ha,hm⟩:=Qe hm
 have hargs:=Wb ha
 subst hargs
 obtain⟨s,_⟩:=a
 cases hL with
 |cons hp hr=>
 cases hr
 cases hp with
 |f hf=>
 cases hf
 have hm:s.size<=9223372036854775807/\K [.f (.bool (Go.Lib.validD s.data.toList))] [.same]:=hm
 refine Calls.mono (Go.Proofs.Any.utf8_ValidString Proofs.Tryz.lays196 s w hm.1 (tabs hS.view hG)) ?_
 rintro e w' ⟨rfl,hb⟩
 exact q3n (rv:=[.bool (Go.Lib.validD s.data.toList)]) hS hm.2 hb (.cons (ms:=[]) (.f (.bool _)) .nil) (.skip (a0:=[]) .nil)
theorem z1e:q5b Proofs.Tryz.prog D 188 (conV ([.v,.v]:LP) ([.str,.str]:LV) ([.bool]:LV) ([.same,.same]:LV) (fun a K=>Bl a.1 a.2.1 (fun q0=>K (q0,()) ((),(),())))):=by
 intro args K hm w σ vals ins hG hL hS
 obtain⟨a,ha,hm⟩:=Qe hm
 have hargs:=Wb ha
 subst hargs
 obtain⟨s,t,_⟩:=a
 cases hL with
 |cons hp hr=>
 cases hr with
 |cons hq hr=>
 cases hr
 cases hp with
 |f hf=>
 cases hf
 cases hq with
 |f hf=>
 cases hf
 have hm:s.size<4294967281/\K [.f (.bool (Go.Lib.contains s.data.toList t.data.toList))] [.same,.same]:=hm
 obtain⟨n,hn⟩:=hG.free 2 .i64 rfl
 refine Calls.mono (Proofs.Tryz.strings_Contains s t n w hm.1 (hS.view.cell hn)) ?_
 rintro e w' ⟨rfl,rfl⟩
 exact q3n (rv:=[.bool (Go.Lib.contains s.data.toList t.data.toList)]) hS hm.2 (Below.refl _ _) (.cons (ms:=[]) (.f (.bool _)) .nil) (.skip (a0:=[]) (.skip (a0:=[]) .nil))
theorem z7s:q5b Proofs.Tryz.prog D 265 (conV ([.v]:LP) ([.str]:LV) ([.int .i64,.ifc]:LV) ([.same]:LV) (fun a K=>q1b a.1 (fun q0 q1=>K (q0,q1,()) ((),())))):=by
 intro args K hm w σ vals ins hG hL hS
 obtain⟨a,ha,hm⟩:=Qe hm
 have hargs:=Wb ha
 subst hargs
 obtain⟨s,_⟩:=a
 cases hL with
 |cons hp hr=>
 cases hr
 cases hp with
 |f hf=>
 cases hf
 have hm:s.size<=281474976710656/\w3i s (fun n b=>K [.f (.int .i64 n),.f (.ifc b)] [.same]):=hm
 obtain⟨hsz,hm⟩:=hm
 have err: ∀g:Nat,D.glob g= .fptr [.ifc false] 0-> ∃ev,w.cell? ⟨g,0,none⟩=some ev/\(ev= .nilIface∨ ∃te pe,ev= .iface te pe):=by
  intro g hg
  have h:=hG.known g
  rw[hg] at h
  generalize hq:Value.pointer (some (⟨g,0,none⟩:Addr))=q at h
  cases h with
  |fptr ad cs l off hv hr=>
  cases hq
  obtain⟨v,hvl⟩: ∃v,cs=[v]:=List.length_eq_one_iff.1 hr.1
  subst hvl
  have hc:=hS.view.cell (hv 0 v rfl)
  have hR:=hr.2 0 v _ rfl rfl
  refine⟨v,?_,?_⟩
  ·rw[W6] at hc;exact hc
  ·cases hR with
   |ifcS t p=>exact .inr ⟨t,p,rfl⟩
 unfold w3i at hm
 split at hm
 ·rename_i v hv
  refine Calls.mono (Proofs.Tryz.strconv_Atoi_ok s (by omega) v hv w) ?_
  rintro e w' ⟨rfl,hw⟩
  have hb:Below w.heap.size w w':=by
   rcases hw with rfl|⟨t,rfl⟩
   ·exact Below.refl _ _
   ·exact Go.Lib.bytesWorld_below _ _ _
  exact q3n (rv:=[.int .i64 v,.nilIface]) hS hm hb (.cons (ms:=[]) (.f (.int _ _)) (.cons (ms:=[]) (.f .ifcN) .nil)) (.skip (a0:=[]) .nil)
 ·rename_i hv
  obtain⟨ev,h1,h2⟩:=err 6 rfl
  refine Calls.mono (Proofs.Tryz.strconv_Atoi_range s hsz hv ev w h1 h2) ?_
  rintro e w' ⟨N,rfl,_,_,hb⟩
  exact q3n (rv:=[.int .i64 _,.iface _ _]) hS hm hb (.cons (ms:=[]) (.f (.int _ _)) (.cons (ms:=[]) (.f (.ifcS _ _)) .nil)) (.skip (a0:=[]) .nil)
 ·rename_i hv
  obtain⟨ev,h1,h2⟩:=err 5 rfl
  refine Calls.mono (Proofs.Tryz.strconv_Atoi_syntax s hsz hv ev w h1 h2) ?_
  rintro e w' ⟨N,rfl,_,_,hb⟩
  exact q3n (rv:=[.int .i64 _,.iface _ _]) hS hm hb (.cons (ms:=[]) (.f (.int _ _)) (.cons (ms:=[]) (.f (.ifcS _ _)) .nil)) (.skip (a0:=[]) .nil)
theorem z7t:q5b Proofs.Tryz.prog D 282 (conV ([.v]:LP) ([.int .i64]:LV) ([.str]:LV) ([.same]:LV) (fun a K=>q5m a.1 (fun q0=>K (q0,()) ((),())))):=by
 intro args K hm w σ vals ins hG hL hS
 obtain⟨a,ha,hm⟩:=Qe hm
 have hargs:=Wb ha
 subst hargs
 obtain⟨i,_⟩:=a
 cases hL with
 |cons hp hr=>
 cases hr
 cases hp with
 |f hf=>
 cases hf
 have hm:InI i/\K [.f (.str ⟨(Go.Lib.itoa i).toArray⟩)] [.same]:=hm
 obtain⟨t,q,hb⟩:=hG.blk 7 _ rfl
 have htab:Go.Lib.TabIs Proofs.Tryz.prog w "internal/strconv.uint64pow10" .u64 Go.Lib.pow10Tab:=by
  unfold Go.Lib.TabIs World.var?
  rw[show (Proofs.Tryz.prog).globalNamed "internal/strconv.uint64pow10" =some 7 by kernel_rfl,Option.bind_some,hS.view _ _ hb]
  kernel_rfl
 refine Calls.mono (Proofs.Tryz.strconv_Itoa i hm.1.1 hm.1.2 w htab) ?_
 rintro e w' ⟨rfl,k,os,rfl⟩
 exact q3n (rv:=[.string ⟨(Go.Lib.itoa i).toArray⟩]) hS hm.2 (Go.Lib.below_grow _ _ (Nat.le_refl _) _ _) (.cons (ms:=[]) (.f (.str _)) .nil) (.skip (a0:=[]) .nil)
theorem q9d(l:List ByteArray):l.flatMap Qf=l.map Value.string:=by
 induction l with
 |nil=>rfl
 |cons a l ih=>rw[List.flatMap_cons,List.map_cons,ih];rfl
theorem v0b(l:List ByteArray):(cpt l).length<=l.length:=by
 unfold cpt Go.Lib.compact
 rw[List.length_map]
 have h: ∀(d:Array (List UInt8)) (m:Nat),(Go.Lib.compactUpTo d m).length<=m:=by
  intro d m
  unfold Go.Lib.compactUpTo
  rw[List.length_map]
  exact Nat.le_trans (List.length_filter_le _ _) (by simp)
 simpa using h _ _
theorem j9t{σ:Hv}{xs:List Value}{l:List ByteArray}(h:Els D σ C.str xs l):xs=l.flatMap Qf:=by
 have h1:xs.length=l.length:=by rw[h.1];exact Nat.mul_one _
 rw[q9d]
 refine List.ext_getElem? fun i=> ?_
 rw[List.getElem?_map]
 rcases Nat.lt_or_ge i l.length with hi|hi
 ·obtain⟨v,hv⟩: ∃v,xs[i]? =some v:=⟨_,List.getElem?_eq_getElem (by omega)⟩
  obtain⟨x,hx⟩: ∃x,l[i]? =some x:=⟨_,List.getElem?_eq_getElem hi⟩
  have hR:=(h.2 i x hx).2 0 v (.str x) (by rw[show D.size C.str=1 from rfl,Nat.mul_one,List.getElem?_take,if_pos (by decide),List.getElem?_drop];exact hv) rfl
  rw[hv,hx]
  cases hR
  rfl
 ·rw[List.getElem?_eq_none (by omega),List.getElem?_eq_none hi];rfl
theorem z58(σ:Hv)(l:List ByteArray):Els D σ C.str (l.flatMap Qf) l:=by
 rw[q9d]
 refine⟨by rw[List.length_map];exact (Nat.mul_one _).symm,fun i x hx=> ?_⟩
 rw[show D.size C.str=1 from rfl,Nat.mul_one]
 have hx:l[i]? =some x:=hx
 have e:((l.map Value.string).drop i).take 1=[.string x]:=by
  rw[←List.map_drop,List.drop_eq_getElem_cons (List.getElem?_eq_some_iff.1 hx).1,(List.getElem?_eq_some_iff.1 hx).2];rfl
 rw[e]
 refine⟨rfl,fun j v s hj hs=> ?_⟩
 cases j with
 |zero=>cases hj;cases hs;exact .str x
 |succ j=>cases hj
theorem q24:q5b Proofs.Tryz.prog D 93 (conV ([.own 9 C.str]:LP) ([.vec 9 C.str]:LV) ([]:LV) ([.vec 9 C.str]:LV) (fun a K=>Zb a.1 (fun q0=>K () (q0,())))):=by
 intro args K hm w σ vals ins hG hL hS
 obtain⟨a,ha,hm⟩:=Qe hm
 have hargs:=Wb ha
 subst hargs
 obtain⟨s,_⟩:=a
 cases hL with
 |cons hp hr=>
 cases hr
 cases hp with
 |vec hE hl h1=>
 have hx:=j9t hE
 subst hx
 have hm:K [] [.vec 9 C.str (srt s)]:=hm
 refine Calls.mono (j44 Proofs.Tryz.slices_Sort_string Proofs.Tryz.slices_Sort_string_none hS.view (hS.get (i:=0) rfl) rfl (fun b hb=>hS.off _ (List.mem_of_getElem? (i:=0) rfl) b hb) (by omega)) ?_
 rintro _ w1 ⟨rfl,hg,ho⟩
 have hS1:=hS.growV (i:=0) (o':=vec _ 9 1 s.length ((srt s).flatMap Qf)) rfl hg rfl ho (ms':=[vec _ 9 1 s.length ((srt s).flatMap Qf)]) rfl
 refine⟨[],_,[],σ,[],[vec _ 9 1 (srt s).length ((srt s).flatMap Qf)],rfl,hm,.nil,.keep (.vec (z58 σ _) (Nat.le_trans (Nat.le_of_eq (Jq _)) hl) h1) .nil,?_⟩
 have e:(srt s).length=s.length:=Jq _
 rw[e];exact hS1
theorem q00:q5b Proofs.Tryz.prog D 94 (conV ([.own 9 C.str]:LP) ([.vec 9 C.str]:LV) ([.vec 9 C.str]:LV) ([.same]:LV) (fun a K=>Zg a.1 (fun q0=>K (q0,()) ((),())))):=by
 intro args K hm w σ vals ins hG hL hS
 obtain⟨a,ha,hm⟩:=Qe hm
 have hargs:=Wb ha
 subst hargs
 obtain⟨s,_⟩:=a
 cases hL with
 |cons hp hr=>
 cases hr
 cases hp with
 |vec hE hl h1=>
 have hx:=j9t hE
 subst hx
 have hm:K [.vec 9 C.str (cpt s)] [.same]:=hm
 refine Calls.mono (z5e Proofs.Tryz.slices_Compact_string Proofs.Tryz.slices_Compact_string_empty hS.view (hS.get (i:=0) rfl) rfl (fun b hb=>hS.off _ (List.mem_of_getElem? (i:=0) rfl) b hb) (by omega)) ?_
 rintro _ w1 ⟨v1,rfl,hf,hg,ho⟩
 have hlc:(cpt s).length<=140737488355328:=Nat.le_trans (v0b _) hl
 have hS1:=hS.growV (i:=0) (o':=vec v1 9 1 (cpt s).length ((cpt s).flatMap Qf)) rfl hg hf ho (ms':=[vec v1 9 1 (cpt s).length ((cpt s).flatMap Qf)]) rfl
 exact⟨[.vec 9 C.str (cpt s)],[.same],[v1],σ,[vec v1 9 1 (cpt s).length ((cpt s).flatMap Qf)],[],rfl,hm,.cons (.vec (z58 σ _) hlc (Ho ho)) .nil,.skip .nil,hS1⟩
theorem w7q{σ:Hv}{v:Value}{l:List ByteArray}(h:RepF D σ v (.sl C.str l)):RSl 1 (REnc Qf) σ v l:=by
 obtain⟨a,cap,e1,e2,e3,e4⟩:=h.toRSl okP.ok
 refine⟨a,cap,e1,e2,e3,fun i x hx=> ?_⟩
 obtain⟨ad,cs,f1,f2,f3,f4⟩:=e4 i x hx
 refine⟨ad,cs,f1,f2,f3,?_⟩
 obtain⟨u,rfl⟩: ∃u,cs=[u]:=List.length_eq_one_iff.1 f2
 have g1:=f4.2 0 u (.str x) rfl rfl
 cases g1
 rfl
theorem w3k{σ:Hv}{v:Value}{l:List Edg}(h:RepF D σ v (.sl C.edge l)):RSl 2 (REnc w9i) σ v (l.map fun e=>(e.1,e.2)):=by
 obtain⟨a,cap,e1,e2,e3,e4⟩:=h.toRSl okP.ok
 have hl:(l.map fun e=>(e.1,e.2)).length=l.length:=List.length_map ..
 refine⟨a,cap,by rw[hl];exact e1,by rw[hl];exact e2,by rw[hl];exact e3,fun i x hx=> ?_⟩
 rw[List.getElem?_map] at hx
 obtain⟨y,hy,rfl⟩:=Option.map_eq_some_iff.1 hx
 obtain⟨ad,cs,f1,f2,f3,f4⟩:=e4 i y hy
 refine⟨ad,cs,f1,f2,f3,?_⟩
 obtain⟨u,v,rfl⟩: ∃u v,cs=[u,v]:=by
  match cs,f2 with
  |[u,v],_=>exact⟨u,v,rfl⟩
 have g1:=f4.2 0 u (.str y.src) rfl rfl
 have g2:=f4.2 1 v (.str y.dst) rfl rfl
 cases g1;cases g2
 rfl
theorem z9t:q5b Proofs.Tryz.prog D 191 (conV ([.sl C.str,.sl C.edge]:LP) ([.sl C.str,.sl C.edge]:LV) ([.vec 9 C.str,.int .i64]:LV) ([.same,.same]:LV) (fun a K=>P_graph_Order a.1 a.2.1 (fun q0 q1=>K (q0,q1,()) ((),(),())))):=by
 intro args K hm w σ vals ins hG hL hS
 obtain⟨a,ha,hm⟩:=Qe hm
 have hargs:=Wb ha
 subst hargs
 obtain⟨s,t,_⟩:=a
 cases hL with
 | @cons _ _ v1 _ _ _ hp hr=>
 cases hr with
 | @cons _ _ v2 _ _ _ hq hr=>
 cases hr
 cases hp with
 |f hf1=>
 cases hq with
 |f hf2=>
 have hm:Go.Fl.P_graph_Order s (t.map fun e=>(e.1,e.2)) (fun l n=>K [.vec 9 C.str l,.f (.int .i64 n)] [.same,.same]):=hm
 refine Calls.mono (Go.Proofs.YtjepffgpbidclaaGreatDoor.w_graph_Order s (t.map fun e=>(e.1,e.2)) v1 v2 hS.view (w7q hf1) (w3k hf2) hm) ?_
 rintro e w1 ⟨l,n,v,rfl,hS1,hsm,hK⟩
 have hl:l.length<=140737488355328:=by unfold Sml at hsm;omega
 exact⟨[.vec 9 C.str l,.f (.int .i64 n)],[.same,.same],[v,.int .i64 n],σ,[vec v 9 1 l.length (l.flatMap Qf)],[],rfl,hK,.cons (.vec (z58 σ _) hl (Ho (hS1.get (i:=0) rfl))) (.cons (ms:=[]) (.f (.int _ _)) .nil),.skip (a0:=[]) (.skip (a0:=[]) .nil),hS1⟩
theorem z59:q5b Proofs.Tryz.prog D 245 (conV ([.v,.v]:LP) ([.str,.str]:LV) ([.vec 9 C.str]:LV) ([.same,.same]:LV) (fun a K=>q3z a.1 a.2.1 (fun q0=>K (q0,()) ((),(),())))):=by
 intro args K hm w σ vals ins hG hL hS
 obtain⟨a,ha,hm⟩:=Qe hm
 have hargs:=Wb ha
 subst hargs
 obtain⟨s,t,_⟩:=a
 cases hL with
 |cons hp hr=>
 cases hr with
 |cons hq hr=>
 cases hr
 cases hp with
 |f hf=>
 cases hf
 cases hq with
 |f hf=>
 cases hf
 have hm:t.size=1/\s.size<4294967281/\K [.vec 9 C.str (R1 s t)] [.same,.same]:=hm
 obtain⟨h1,hsz,hm⟩:=hm
 obtain⟨n,hn⟩:=hG.free 2 .i64 rfl
 have hlen:(R1 s t).length=Go.Lib.countB s t+1:=Go.Lib.splitB_all t (by omega) 0 _ s rfl
 have hcnt:=Go.Lib.countB_le t (by omega) s.size s (Nat.le_refl _)
 refine Calls.mono (Proofs.Tryz.strings_Split s t n w hsz (hS.view.cell hn) (by omega)) ?_
 rintro e w' ⟨rfl,rfl⟩
 have ho:(vec (.slice (some ⟨w.heap.size,0,none⟩) (R1 s t).length (R1 s t).length) 9 1 (R1 s t).length ((R1 s t).flatMap Qf)).ok (w.alloc (.cells ((R1 s t).map Value.string).toArray 9)):=by
  refine⟨by rw[q9d];simp,.inr ⟨w.heap.size,_,_,rfl,Nat.zero_le _,heap_alloc_new _ _,Nat.le_refl _,by unfold maxLen;omega,by simp,?_⟩⟩
  rw[q9d,Nat.mul_one]
  exact List.take_of_length_le (by rw[List.length_map];exact Nat.le_refl _)
 have hS1:=hS.add (J5 w _) ho (by rintro k ⟨⟩;exact Nat.le_refl _)
 have hl:(R1 s t).length<=140737488355328:=by omega
 have hr:=(⟨[.vec 9 C.str (R1 s t)],[.same,.same],[_],σ,[_],[],rfl,hm,.cons (.vec (z58 σ _) hl (Ho ho)) .nil,.skip (a0:=[]) (.skip (a0:=[]) .nil),hS1⟩:Back D σ w [.f (.str s),.f (.str t)] [.string s,.string t] [] K (.returned (retV [.slice (some ⟨w.heap.size,0,none⟩) (R1 s t).length (R1 s t).length])) (w.alloc (.cells ((R1 s t).map Value.string).toArray 9)))
 rw[hlen] at hr
 exact hr
theorem v2h: ∀c,c<256->j5v[c]? =some (if Go.Lib.isSp (UInt8.ofNat c) then (1:Int) else 0):=by decide
theorem j9u: ∀(ws:Bool) (l:List UInt8),Go.Lib.cntF ws l<=l.length
 |_,[]=>by simp[Go.Lib.cntF]
 |ws,b::l=>by
  have:=j9u (Go.Lib.isSp b) l
  simp only[Go.Lib.cntF,List.length_cons]
  split<;>omega
theorem z3w:q5b Proofs.Tryz.prog D 85 (conV ([.v]:LP) ([.str]:LV) ([.vec 9 C.str]:LV) ([.same]:LV) (fun a K=>q13 a.1 (fun q0=>K (q0,()) ((),())))):=by
 intro args K hm w σ vals ins hG hL hS
 obtain⟨a,ha,hm⟩:=Qe hm
 have hargs:=Wb ha
 subst hargs
 obtain⟨s,_⟩:=a
 cases hL with
 |cons hp hr=>
 cases hr
 cases hp with
 |f hf=>
 cases hf
 have hm:s.size<4294967281/\j9r s/\K [.vec 9 C.str (V3 s)] [.same]:=hm
 obtain⟨hsz,hasc,hm⟩:=hm
 have hT: ∀c:Nat,c<256->w.cell? ⟨Proofs.Tryz.lays157_ren.g 0,c,none⟩=some (.int .u8 (if Go.Lib.isSp (UInt8.ofNat c) then 1 else 0)):=fun c hc=>by
  have h:=hG.known (Proofs.Tryz.lays157_ren.g 0)
  obtain⟨v,h1,h2⟩:=z4x (T:= .u8) (n:=256) (l:=j5v) hS.view h (i:=c) (j:=0) (s:= .int .u8 (if Go.Lib.isSp (UInt8.ofNat c) then 1 else 0)) (v2h c hc) rfl (by decide)
  cases h2
  simpa [show D.size C.u8=1 from rfl] using h1
 have hlen:(V3 s).length=(Go.Lib.fields s.data.toList).length:=by unfold V3;rw[List.length_map]
 have hcnt:(Go.Lib.fields s.data.toList).length<=s.size:=by rw[Go.Lib.fields_length];exact Nat.le_trans (j9u _ _) (Nat.le_of_eq rfl)
 refine Calls.mono (Go.Proofs.Any.strings_Fields_core Proofs.Tryz.lays157 (by kernel_rfl) s w hsz hasc hT) ?_
 rintro e w' ⟨rfl,rfl⟩
 rw[show (Go.Lib.fields s.data.toList).map (fun l=>Value.string ⟨l.toArray⟩)=(V3 s).map Value.string by unfold V3;rw[List.map_map];rfl,←hlen]
 rw[←hlen] at hcnt
 have ho:(vec (.slice (some ⟨w.heap.size,0,none⟩) (V3 s).length (V3 s).length) 9 1 (V3 s).length ((V3 s).flatMap Qf)).ok (w.alloc (.cells ((V3 s).map Value.string).toArray 9)):=by
  refine⟨by rw[q9d];simp,.inr ⟨w.heap.size,_,_,rfl,Nat.zero_le _,heap_alloc_new _ _,Nat.le_refl _,by unfold maxLen;omega,by simp,?_⟩⟩
  rw[q9d,Nat.mul_one]
  exact List.take_of_length_le (by rw[List.length_map];exact Nat.le_refl _)
 have hS1:=hS.add (J5 w _) ho (by rintro k ⟨⟩;exact Nat.le_refl _)
 exact (⟨[.vec 9 C.str (V3 s)],[.same],[_],σ,[_],[],rfl,hm,.cons (.vec (z58 σ _) (by omega) (Ho ho)) .nil,.skip (a0:=[]) .nil,hS1⟩:Back D σ w [.f (.str s)] [.string s] [] K (.returned (retV [.slice (some ⟨w.heap.size,0,none⟩) (V3 s).length (V3 s).length])) (w.alloc (.cells ((V3 s).map Value.string).toArray 9)))
end Go.En
end
noncomputable section
set_option maxRecDepth 100000
open Go Go.RowKit Go.Fl Go.Fl.Lk Go.Fx
namespace Go.En
def q63(X:Gj):Con Sg:=conS [] [.vec 9 C.str] fun a K=>X (fun q0=>K (q0,()))
theorem z0c:MT 19 (q63 Jr):=mS (l:=[]) trivial []
def Re(X:J6):Con Sg:=conS [.int .u8,.int .u8,.int .u16,.int .u16,.int .u16] [.el C.env] fun a K=>X a.1 a.2.1 a.2.2.1 a.2.2.2.1 a.2.2.2.2.1 (fun q0=>K (q0,()))
theorem z3x{Qu:Gj}(h:AL [(19,q63 Qu)]):MT 28 (Re (q1w Qu)):=mS h [(13,⟨bl 68702731295,[4,1,0],[(2,(42,8))],[sI 15,(.cell 2 5,.own 84 C.flag)]⟩),(21,⟨bl 273606445743135,[6,2],[(7,(84,13))],[sI 17,(.cell 7 2,.own 65 C.val)]⟩),(31,⟨bl 1099494915103,[6,4,1,0],[(2,(42,8))],[sI 18,(.cell 2 6,.own 91 C.layer)]⟩),(45,⟨bl 324518398916143177040605671652383,[8,6,4,1,0],[(2,(42,8))],[sI 22,(.cell 2 7,.own 97 C.exper)]⟩)]
theorem q7u:MT 28 (Re Uo):=z3x ⟨z0c,trivial⟩
def z1f(X:q1m):Con Sg:=conS [.str] [.el C.subj] fun a K=>X a.1 (fun q0=>K (q0,()))
theorem z6a:MT 23 (z1f R9):=mS (l:=[]) trivial []
def q4a(X:Vu):Con Sg:=conS [.el C.subj,.str] [.int .i64] fun a K=>X a.1 a.2.1 (fun q0=>K (q0,()))
theorem q8k:MT 99 (q4a Gk):=mS (l:=[]) trivial [(135000005,⟨bl 195,[1],[],[sI 8]⟩)]
def B6(X:W8):Con Sg:=conS [.el C.val] [.el C.val] fun a K=>X a.1 (fun q0=>K (q0,()))
theorem q25:MT 122 (B6 Jb):=mS (l:=[]) trivial []
def q01(X:Vv):Con Sg:=conS [.el C.attr] [.el C.attr] fun a K=>X a.1 (fun q0=>K (q0,()))
theorem z2y{Zw:W8}(h:AL [(122,B6 Zw)]):MT 137 (q01 (q0s Zw)):=mS h []
theorem z2z:MT 137 (q01 Ha):=z2y ⟨q25,trivial⟩
def q4b(X:Gl):Con Sg:=conS [.el C.ctx] [.el C.ctx] fun a K=>X a.1 (fun q0=>K (q0,()))
theorem z6b{Hi:Vv}(h:AL [(137,q01 Hi)]):MT 100 (q4b (q3w Hi)):=mS h [(137000007,⟨bl 7955,[],[],[(.slot 5,.own 244 C.attr),sI 13]⟩)]
theorem z6c:MT 100 (q4b Ba):=z6b ⟨z2z,trivial⟩
def Vk(X:Zm):Con Sg:=conS [.el C.subj,.str] [.el C.ctx,.bool] fun a K=>X a.1 a.2.1 (fun q0 q1=>K (q0,q1,()))
theorem z7u{Ji:Vu}{q0g:Gl}(h:AL [(99,q4a Ji),(100,q4b q0g)]):MT 67 (Vk (q5c Ji q0g)):=mS h []
theorem H3:MT 67 (Vk Wj):=z7u ⟨q8k,z6c,trivial⟩
def q9v(X:q08):Con Sg:=conS [.sl C.bytes] [.vec 5 C.u8] fun a K=>X a.1 (fun q0=>K (q0,()))
theorem z7v:MT 112 (q9v q09):=mS (l:=[]) trivial [(7,⟨bl 389,[],[],[(.slot 3,.own 5 C.u8),sI 9]⟩),(13,⟨bl 8101,[],[],[(.slot 3,.own 5 C.u8),sI 6]⟩)]
def q4c(X:V4):Con Sg:=conS [.int .u64,.int .i64] [.int .u64] fun a K=>X a.1 a.2.1 (fun q0=>K (q0,()))
theorem z0d:MT 192 (q4c V5):=mS (l:=[]) trivial []
def Vq(X:Zy):Con Sg:=conV [.ptr 253 [.v,.v,.v,.v],.v] [.ptr 253 [.int .u64,.int .u64,.int .u64,.int .u64],.int .i64] [] [.ptr 253 [.int .u64,.int .u64,.int .u64,.int .u64],.same] fun a K=>X a.1.1 a.1.2.1 a.1.2.2.1 a.1.2.2.2.1 a.2.1 (fun q0 q1 q2 q3=>K () ((q0,q1,q2,q3,()),(),()))
theorem q9i{Zk:V4}(h:AL [(192,q4c Zk)]):MT 148 (Vq (Hp Zk)):=mP (rk:=[]) h [(3,⟨[0,1,4],[],[(0,(253,4))],[sI 5,(.cell 0 0,.int IntKind.u64),(.cell 0 1,.int IntKind.u64),(.cell 0 2,.int IntKind.u64),(.cell 0 3,.int IntKind.u64)]⟩)]
theorem q2j:MT 148 (Vq Zo):=q9i ⟨z0d,trivial⟩
def B7(X:W9):Con Sg:=conV [.ptr 253 [.v,.v,.v,.v],.v] [.ptr 253 [.int .u64,.int .u64,.int .u64,.int .u64],.int .u64] [] [.ptr 253 [.int .u64,.int .u64,.int .u64,.int .u64],.same] fun a K=>X a.1.1 a.1.2.1 a.1.2.2.1 a.1.2.2.2.1 a.2.1 (fun q0 q1 q2 q3=>K () ((q0,q1,q2,q3,()),(),()))
theorem z1g{Zc:Zy}(h:AL [(148,Vq Zc)]):MT 147 (B7 (Bb Zc)):=mP (rk:=[]) h []
theorem z1h:MT 147 (B7 U9):=z1g ⟨q2j,trivial⟩
end Go.En
end
